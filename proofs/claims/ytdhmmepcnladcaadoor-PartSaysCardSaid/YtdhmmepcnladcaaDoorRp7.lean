import Derived.Test.YtdhmmepcnladcaaDoorPartC
namespace Go.Proofs.YtdhmmepcnladcaaDoor
open Go.RowKit

def FlatRel (B : Nat) (parts all : List PartD) (n2 : Nat) (w0 W : World) (lv iv : Value) (wr : World) : Prop :=
  ∃ i m c S done rows, lv = .slice S m c ∧ iv = .int .i64 (i : Nat) ∧ i ≤ n2 ∧ wr.ownsRow w0.heap.size 25 7 (.slice S m c) m rows.flatten ∧ PartsAt (· < B) wr done rows ∧
    Hid (done ++ flatsD (parts.drop i) = all ∧ done.length = m) ∧ 1 ≤ m ∧ Below W.heap.size W wr
set_option maxRecDepth 100000 in
set_option maxHeartbeats 2000000 in
theorem Flat_any (k : Nat) : ∀ (p : PartD) (v : List Value) (B : Nat) (w : World), (flatD p).length ≤ k → k ≤ 1000 → B ≤ w.heap.size → PartAt (· < B) w p v →
    Calls Tryd.prog 24 #[.agg v.toArray] w (AllRes B (flatD p) w) := by
  induction k with
  | zero => intro p v B w h; rw [flatD_eq] at h; simp at h
  | succ k ih =>
    intro p v B w hk hk1 hB hp
    obtain ⟨A, c, A2, c2, rfl, _, _, _, _, hP, hc2, hcm⟩ := hp.open
    have hall := flatD_eq p
    have hrow : PartsAt (· < B) w [p] [[str p.type, str p.cs, str p.id, str p.loc, .int .i64 p.how, .slice A p.body.length c, .slice A2 p.parts.length c2]] := ⟨_, _, rfl, hp, rfl⟩
    obtain ⟨n2, hn2⟩ : ∃ n2, n2 = p.parts.length := ⟨_, rfl⟩
    rw [← hn2] at hP hrow hc2 ⊢
    obtain ⟨L, hL⟩ : ∃ L, L = flatD p := ⟨_, rfl⟩
    rw [← hL] at hall hk ⊢
    have hn2m : n2 ≤ 9223372036854775807 := by unfold maxLen at hcm; omega
    have Hall := Lib.hid hall
    have Hn2 := Lib.hid hn2
    have Hih := Lib.hid ih
    have hk1000 : L.length ≤ 1000 := by omega
    have Hk := Lib.hid hk
    obtain ⟨W, hW⟩ : ∃ W, W = (w.alloc (.cells #[str p.type, str p.cs, str p.id, str p.loc, .int .i64 p.how, .slice A p.body.length c, .slice A2 n2 c2] 25)).alloc (.cells #[str p.type, str p.cs, str p.id, str p.loc, .int .i64 p.how, .slice A p.body.length c, .slice A2 n2 c2] 25) := ⟨_, rfl⟩
    have hbW : Below w.heap.size w W := by rw [hW]; exact ((Below.refl _ w).alloc (Nat.le_refl _) _).alloc (by simp) _
    have hbx : Box7 W w.heap.size (str p.type) (str p.cs) (str p.id) (str p.loc) (.int .i64 p.how) (.slice A p.body.length c) (.slice A2 n2 c2) := by
      rw [hW]; exact (Box7.new w _ _ _ _ _ _ _ _).below ((Below.refl _ _).alloc (Nat.le_refl _) _)
    have hown0 : W.ownsRow w.heap.size 25 7 (.slice (some ⟨w.heap.size + 1, 0, none⟩) 1 1) 1 [[str p.type, str p.cs, str p.id, str p.loc, .int .i64 p.how, .slice A p.body.length c, .slice A2 n2 c2]].flatten :=
      ⟨rfl, .inr ⟨w.heap.size + 1, 1, _, rfl, Nat.le_succ _, by
        rw [hW]
        have := heap_alloc_new (w.alloc (.cells #[str p.type, str p.cs, str p.id, str p.loc, .int .i64 p.how, .slice A p.body.length c, .slice A2 n2 c2] 25)) (.cells #[str p.type, str p.cs, str p.id, str p.loc, .int .i64 p.how, .slice A p.body.length c, .slice A2 n2 c2] 25); simpa using this, Nat.le_refl _, by unfold maxLen; omega, rfl, rfl⟩⟩
    have Hown0 := Lib.hid hown0
    clear hall hL hn2 ih hk hcm hp hown0
    go_enter Tryd.func24, Tryd.ntmps24
    go_wp2_with fail
    rw [← hW]
    clear hW
    go_loopw [3, 4] (FlatRel B p.parts L n2 w W) (fun _ iv _ => n2 - (intOf iv).toNat)
    case atStart => exact ⟨0, 1, 1, some ⟨w.heap.size + 1, 0, none⟩, [p], _, rfl, rfl, Nat.zero_le _, Hown0.out, PartsAt.change (fun _ h => h) (fun a ha => hbW.cell (Nat.lt_of_lt_of_le ha hB)) _ _ hrow, ⟨Hall.out.symm, rfl⟩, Nat.le_refl _, Below.refl _ _⟩
    case round =>
      clear Hown0
      obtain ⟨i, m, cl, S, done, rows, rfl, rfl, hi, hown, hrows, hE, hm1, hbelW⟩ := hrel
      have hbel := hbW.trans (hbelW.mono hbW.size)
      have ⟨y0, y1, y2, y3, y4, y5, y6⟩ := hbx.below hbelW
      clear y0 y1 y2 y3 y4 y5
      by_cases hin : i < n2
      · have hPr := hP.belowN hbel hB
        obtain ⟨b, off, q, A', n', c', A2', n2', c2', rfl, hbS, hq, hqa, x0, x1, x2, x3, x4, x5, x6⟩ := hPr.cells7 hin
        have hE1 := hE.out.1
        rw [hq, flatsD] at hE1
        have hlq : (flatD q).length ≤ k ∧ m + (flatD q).length ≤ 1000 := by
          have h1 := congrArg List.length hE1
          have h2 := Hk.out
          have h3 := hE.out.2
          simp only [List.length_append] at h1
          omega
        have hcl := Hih.out q _ B wr hlq.1 (by omega) (Nat.le_trans hB hbel.size) hqa
        have hE2 : Hid ((done ++ flatD q) ++ flatsD (p.parts.drop (i + 1)) = L ∧ (done ++ flatD q).length = m + (flatD q).length) := ⟨by rw [List.append_assoc]; exact hE1, by rw [List.length_append, hE.out.2]⟩
        generalize flatD q = F at hcl hE2 hlq
        have Hcl := Lib.hid hcl
        have Hown := Lib.hid hown
        have Hrows := Lib.hid hrows
        clear hE hE1 hq hqa hcl hPr hown hrows
        go_wp2_with fail
        clear x0 x1 x2 x3 x4 x5 x6 y6
        refine Hcl.out.mono ?_
        rintro e w1 ⟨S2, c2, rows2, rfl, hown2, hrows2, hb1⟩
        have hown1 := own_below Hown.out hb1
        have hrows1 := PartsAt.change (fun _ h => h) (fun a ha => hb1.cell (Nat.lt_of_lt_of_le ha (Nat.le_trans hB hbel.size))) _ _ Hrows.out
        have hbel1 := hbel.trans (hb1.mono hbel.size)
        have hbelW1 := hbelW.trans (hb1.mono hbelW.size)
        have hone1 := PartsAt.one _ _ hrows1
        have hone2 := PartsAt.one _ _ hrows2
        have hsl1 := Sl.of_own hown1
        have hsl2 := Sl.of_own hown2
        clear Hcl Hown Hrows hown1 hown2 hb1 hbelW hbel
        go_wp2_with fail
        have hbA := (Below.refl w1.heap.size w1).alloc (Nat.le_refl _) (.cells #[.slice S m cl, .slice S2 F.length c2] 23)
        have hszA : (w1.alloc (.cells #[.slice S m cl, .slice S2 F.length c2] 23)).heap.size = w1.heap.size + 1 := by simp
        have hSl := Sl.row w1 23 1 2 [.slice S m cl, .slice S2 F.length c2] rfl
        have hcat := Concat_Part (some ⟨w1.heap.size, 0, none⟩) S S2 2 m cl F.length c2 rows.flatten rows2.flatten (w1.alloc (.cells #[.slice S m cl, .slice S2 F.length c2] 23)) (by rw [hszA]; exact hSl) ((hsl1.below hbA).more hbA.size) ((hsl2.below hbA).more hbA.size) hone1 hone2 (by omega)
        refine hcat.mono ?_
        clear hcat hSl hsl1 hsl2 hone1 hone2
        rintro e w4 ⟨S4, c4, rfl, hown4, hb4⟩
        have hb14 := hbA.trans (hb4.mono hbA.size)
        have hbel4 := hbel1.trans (hb14.mono hbel1.size)
        have hbelW4 := hbelW1.trans (hb14.mono hbelW1.size)
        have hr1 := PartsAt.change (fun _ h => h) (fun a ha => hb14.cell (Nat.lt_of_lt_of_le ha (Nat.le_trans hB hbel1.size))) _ _ hrows1
        have hr2 := PartsAt.change (fun _ h => h) (fun a ha => hb14.cell (Nat.lt_of_lt_of_le ha (Nat.le_trans hB hbel1.size))) _ _ hrows2
        have hs1 := hbel1.size
        have hown5 := own_base (base' := w.heap.size) hown4 (by rw [hszA]; omega)
        clear hrows1 hrows2 hown4 hb4 hb14
        go_wp2_with fail
        exact ⟨⟨i + 1, m + F.length, c4, S4, done ++ F, rows ++ rows2, rfl, by go_num, by omega, by rw [List.flatten_append]; exact hown5, PartsAt.app _ _ _ _ hr1 hr2, hE2, by omega, hbelW4⟩, by simp [intOf]; omega⟩
      · have hE1 : Hid (done = L ∧ L.length = m) := by
          have h1 := hE.out.1
          rw [List.drop_of_length_le (by rw [hP.len]; omega), flatsD, List.append_nil] at h1
          exact ⟨h1, by rw [← h1]; exact hE.out.2⟩
        clear hE
        go_wp2_with fail
        go_ret
        obtain ⟨rfl, rfl⟩ := hE1.out
        exact ⟨S, cl, rows, rfl, hown, hrows, hbel⟩
end Go.Proofs.YtdhmmepcnladcaaDoor
