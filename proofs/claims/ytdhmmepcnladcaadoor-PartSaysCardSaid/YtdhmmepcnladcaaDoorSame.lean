import Derived.Test.YtdhmmepcnladcaaDoorPart3
import Derived.Test.YtdhmmepcnladcaaDoorPartX
import Derived.Shelf.Abstract
namespace Go.Proofs.YtdhmmepcnladcaaDoor
open Go.RowKit

/-- What holds two parts against one another: of parts ps and qs. -/
def HoldsP (g : Nat) (f : PartD → PartD → Bool) (ps qs : List PartD) (w : World) : Prop :=
  ∀ (W : World) (i : Nat) (p q : PartD) (v u : List Value), ps[i]? = some p → qs[i]? = some q → PartAt (· < W.heap.size) W p v → PartAt (· < W.heap.size) W q u → Below w.heap.size w W →
    Calls Tryd.prog g #[.agg v.toArray, .agg u.toArray] W fun e w' => e = .returned (.bool (f p q)) ∧ Below W.heap.size W w'
theorem drop_get {ps : List PartD} {i : Nat} {p : PartD} (h : ps.drop i = p :: ps.drop (i + 1)) : ps[i]? = some p := by
  have := congrArg (fun l => l[0]?) h
  simpa using this
set_option maxRecDepth 100000 in
set_option maxHeartbeats 1000000 in
theorem EqualFunc_parts (g : Nat) (eg : ∀ args w, (callFunc g args).run Tryd.prog w = .ok (.enter g args) w) (f : PartD → PartD → Bool) (A A' : Option Addr) (n c n' c' B : Nat) (ps qs : List PartD) (w : World)
    (hP : SlP (· < B) w A n ps) (hQ : SlP (· < B) w A' n' qs) (hB : B ≤ w.heap.size) (hm : n ≤ maxLen) (hg : HoldsP g f ps qs w) :
    Calls Tryd.prog 25 #[.slice A n c, .slice A' n' c', .func (.func g) #[] #[]] w fun e w' => e = .returned (.bool (all2 f ps qs)) ∧ Below w.heap.size w w' := by
  have hl := hP.len
  have hl' := hQ.len
  have h1 := all2_len f ps qs
  have h2 := all2_miss f ps qs
  have h3 := all2_hit f ps qs
  generalize all2 f ps qs = R at h1 h2 h3 ⊢
  unfold maxLen at hm
  by_cases hnn : n = n'
  · subst hnn
    have Hl := Lib.hid hl
    have Hl' := Lib.hid hl'
    have H2 := Lib.hid h2
    have H3 := Lib.hid h3
    have Hg := Lib.hid hg
    have HP := Lib.hid hP
    have HQ := Lib.hid hQ
    have hne : ((n : Int) != n) = false := by simp
    clear h1 h2 h3 hl hl' hg hP hQ
    go_enter Tryd.func25, Tryd.ntmps25
    go_wp2_with fail
    go_loopw [17] (fun iv wr => ∃ i : Nat, iv = .int .i64 (i : Nat) ∧ i ≤ n ∧ Below w.heap.size w wr ∧ Hid (∀ (j : Nat) (p q : PartD), j < i → ps[j]? = some p → qs[j]? = some q → f p q = true)) (fun iv _ => n - (intOf iv).toNat)
    case atStart => exact ⟨0, rfl, Nat.zero_le _, Below.refl _ _, Lib.hid fun j p q h => absurd h (by omega)⟩
    case round =>
      obtain ⟨i, rfl, hi, hbel, hz⟩ := hrel
      by_cases hin : i < n
      · have hPr := HP.out.below (hbel.mono hB)
        obtain ⟨b, off, p, B1, m1, d1, B2, m2, d2, rfl, hbS, hp, hpa, x0, x1, x2, x3, x4, x5, x6⟩ := hPr.cells7 hin
        have hbs := hbel.size
        have hbelA := hbel.alloc hbs (.cells #[str p.type, str p.cs, str p.id, str p.loc, .int .i64 p.how, .slice B1 m1 d1, .slice B2 m2 d2] 25)
        have hQr := HQ.out.below (hbelA.mono hB)
        obtain ⟨b', off', q, B3, m3, d3, B4, m4, d4, rfl, hbS', hq, hqa, y0, y1, y2, y3, y4, y5, y6⟩ := hQr.cells7 hin
        have hp := drop_get hp
        have hq := drop_get hq
        have hbelB := (hbel.alloc hbs (.cells #[str p.type, str p.cs, str p.id, str p.loc, .int .i64 p.how, .slice B1 m1 d1, .slice B2 m2 d2] 25)).alloc (Nat.le_trans hbs (by simp)) (.cells #[str q.type, str q.cs, str q.id, str q.loc, .int .i64 q.how, .slice B3 m3 d3, .slice B4 m4 d4] 25)
        have hbB2 := ((Below.refl wr.heap.size wr).alloc (Nat.le_refl _) (.cells #[str p.type, str p.cs, str p.id, str p.loc, .int .i64 p.how, .slice B1 m1 d1, .slice B2 m2 d2] 25)).alloc (by simp) (.cells #[str q.type, str q.cs, str q.id, str q.loc, .int .i64 q.how, .slice B3 m3 d3, .slice B4 m4 d4] 25)
        have hbsB := hbelB.size
        have cS := Hg.out _ i p q _ _ hp hq ((hpa.belowN hbB2 (Nat.le_trans hB hbs)).more (Nat.le_trans hB hbsB)) ((hqa.belowN ((Below.refl _ _).alloc (Nat.le_refl _) _) (Nat.le_trans hB hbelA.size)).more (Nat.le_trans hB hbsB)) hbelB
        have hmiss := H2.out i p q hp hq
        have Hp := Lib.hid hp
        have Hq := Lib.hid hq
        clear hp hq hpa hqa hPr hQr
        by_cases hf : f p q = true
        · rw [hf] at cS
          have Hf := Lib.hid hf
          have CS := Lib.hid cS
          clear hf cS hmiss
          go_wp2_with (go_at_fn g; refine CS.out.mono ?_; rintro e w1 ⟨rfl, hb1⟩)
          refine ⟨⟨i + 1, by go_num, by omega, hbelB.trans (hb1.mono hbelB.size), Lib.hid fun j p' q' hj hp' hq' => ?_⟩, by simp [intOf]; omega⟩
          rcases Nat.lt_or_ge j i with h | h
          · exact hz.out j p' q' h hp' hq'
          · obtain rfl : j = i := by omega
            rw [Hp.out] at hp'
            rw [Hq.out] at hq'
            injection hp' with hp'
            injection hq' with hq'
            rw [← hp', ← hq']; exact Hf.out
        · have hf' : f p q = false := by simpa using hf
          rw [hf'] at cS
          have hr : Hid (R = false) := hmiss hf'
          have CS := Lib.hid cS
          clear hf hf' cS hmiss
          go_wp2_with (go_at_fn g; refine CS.out.mono ?_; rintro e w1 ⟨rfl, hb1⟩)
          go_ret
          exact ⟨by rw [hr.out]; rfl, hbelB.trans (hb1.mono hbelB.size)⟩
      · obtain rfl : i = n := by omega
        have hr : Hid (R = true) := H3.out (by rw [Hl.out, Hl'.out]) fun j p q hp hq => hz.out j p q (by
          rcases Nat.lt_or_ge j ps.length with h | h
          · rw [Hl.out] at h; exact h
          · rw [List.getElem?_eq_none h] at hp; cases hp) hp hq
        go_wp2_with fail
        go_ret
        exact ⟨by rw [hr.out]; rfl, hbel⟩
  · have hr : Hid (R = false) := h1 (by rw [hl, hl']; exact hnn)
    have hne : ((n : Int) != n') = true := by simp; omega
    clear h1 h2 h3 hg hP hQ hl hl'
    go_enter Tryd.func25, Tryd.ntmps25
    go_wp2_with fail
    go_ret
    exact ⟨by rw [hr.out]; rfl, Below.refl _ _⟩
end Go.Proofs.YtdhmmepcnladcaaDoor
