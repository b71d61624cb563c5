import Derived.Test.YtdhmmepcnladcaaDoorRp5
import Derived.Test.YtdhmmepcnladcaaDoorRpM
import Derived.Test.YtdhmmepcnladcaaDoorPart3
namespace Go.Proofs.YtdhmmepcnladcaaDoor
open Go.RowKit

def szVal (r : Nat × Nat) : Value := .tuple #[.int .i64 (r.1 : Nat), .int .i64 (r.2 : Nat)]
def SzRel (k n2 : Nat) (ps : List PartD) (R : Nat × Nat) (w0 : World) (mv dv iv : Value) (wr : World) : Prop :=
  ∃ i m d : Nat, mv = .int .i64 (m : Nat) ∧ dv = .int .i64 (d : Nat) ∧ iv = .int .i64 (i : Nat) ∧ i ≤ n2 ∧ m ≤ 100 ∧ d ≤ 50 ∧ Hid (sizedsD k m d (ps.drop i) = R) ∧ Below w0.heap.size w0 wr
theorem sizedsD_cons (k m d : Nat) (p : PartD) (ps : List PartD) : sizedsD k m d (p :: ps) = if 100 < m + (sizedD k p).1 ∨ 50 < max d (sizedD k p).2 then (100, 99) else sizedsD k (m + (sizedD k p).1) (max d (sizedD k p).2) ps := by rw [sizedsD]
set_option maxRecDepth 100000 in
set_option maxHeartbeats 2000000 in
theorem sized_any (k : Nat) : ∀ (p : PartD) (v : List Value) (w : World), k ≤ 3 → PartAt (· < w.heap.size) w p v →
    Calls Tryd.prog 78 #[.agg v.toArray, .int .i64 (k : Nat)] w fun e w' => e = .returned (szVal (sizedD k p)) ∧ Below w.heap.size w w' := by
  induction k with
  | zero =>
    intro p v w hk hp
    obtain ⟨t, cs, id, loc, how, body, parts⟩ := p
    obtain ⟨A, n, c, A2, n2, c2, rows, rfl, _⟩ := hp
    have e : sizedD 0 ⟨t, cs, id, loc, how, body, parts⟩ = (0, 99) := by rw [sizedD]
    rw [e]
    clear e
    go_enter Tryd.func78, Tryd.ntmps78
    go_wp2_with fail
    go_ret2
    exact ⟨rfl, (Below.refl _ _).alloc (Nat.le_refl _) _⟩
  | succ k ih =>
    intro p v w hk hp
    obtain ⟨t, cs, id, loc, how, body, parts⟩ := p
    obtain ⟨A, n, c, A2, n2, c2, rows, rfl, _, _, _, _, hsl, hnc, hcm, hps⟩ := hp
    have hP : SlP (· < w.heap.size) w A2 n2 parts := ⟨rows, hsl, hps⟩
    have e : sizedD (k + 1) ⟨t, cs, id, loc, how, body, parts⟩ = sizedsD k 1 0 parts := by rw [sizedD]
    rw [e]
    obtain ⟨R, hR⟩ : ∃ R, sizedsD k 1 0 parts = R := ⟨_, rfl⟩
    rw [hR]
    have HR := Lib.hid hR
    have Hih := Lib.hid ih
    have hk1 : (((k + 1 : Nat) : Int) == 0) = false := by simp; omega
    have hk2 : IntKind.i64.wrap (((k + 1 : Nat) : Int) - 1) = (k : Int) := by rw [IntKind.wrap_i64]; omega
    have hn2 : n2 ≤ 9223372036854775807 := by unfold maxLen at hcm; omega
    obtain ⟨k1, hk3⟩ : ∃ k1 : Int, k1 = ((k + 1 : Nat) : Int) := ⟨_, rfl⟩
    rw [← hk3] at hk1 hk2 ⊢
    clear hsl hps e hR ih hcm hk3
    go_enter Tryd.func78, Tryd.ntmps78
    go_wp2_with fail
    go_loopw [4, 5, 15] (SzRel k n2 parts R w) (fun _ _ iv _ => n2 - (intOf iv).toNat)
    case atStart => exact ⟨0, 1, 0, rfl, rfl, rfl, by omega, by omega, by omega, HR.out, (Below.refl _ w).alloc (Nat.le_refl _) _⟩
    case round =>
      clear HR
      obtain ⟨i, m, d, rfl, rfl, rfl, hi, hm, hd, hE, hbel⟩ := hrel
      by_cases hin : i < n2
      · have hPr := hP.below hbel
        obtain ⟨b, off, q, A', n', c', A2', n2', c2', rfl, hbS, hq, hqa, x0, x1, x2, x3, x4, x5, x6⟩ := hPr.cells7 hin
        have hE2 : Hid (sizedsD k m d (q :: parts.drop (i + 1)) = R) := by show _ = R; rw [← hE.out, hq]
        clear hq hPr hP hE
        go_wp2_with fail
        have hqa2 := (hqa.below ((Below.refl w.heap.size wr).alloc hbel.size (.cells #[str q.type, str q.cs, str q.id, str q.loc, .int .i64 q.how, .slice A' n' c', .slice A2' n2' c2'] 25))).more (C := (wr.alloc (.cells #[str q.type, str q.cs, str q.id, str q.loc, .int .i64 q.how, .slice A' n' c', .slice A2' n2' c2'] 25)).heap.size) (by have := hbel.size; simp; omega)
        have hb0 := hbel.alloc hbel.size (.cells #[str q.type, str q.cs, str q.id, str q.loc, .int .i64 q.how, .slice A' n' c', .slice A2' n2' c2'] 25)
        have hsm := sizedD_small k q
        have hcl := Hih.out q _ _ (by omega) hqa2
        have hE3 : Hid (R = if 100 < m + (sizedD k q).1 ∨ 50 < max d (sizedD k q).2 then (100, 99) else sizedsD k (m + (sizedD k q).1) (max d (sizedD k q).2) (parts.drop (i + 1))) := by show R = _; rw [← hE2.out, sizedsD_cons]
        generalize sizedD k q = o at hcl hsm hE3
        obtain ⟨om, od⟩ := o
        simp only [szVal] at hcl hsm hE3
        clear x0 x1 x2 x3 x4 x5 x6 hqa hqa2 hE2
        have hmax : max (d : Int) (od : Int) = ((max d od : Nat) : Int) := by omega
        obtain ⟨d2, hd2⟩ : ∃ d2, d2 = max d od := ⟨_, rfl⟩
        rw [← hd2] at hmax hE3
        have hd99 : d2 ≤ 99 := by omega
        have Hd2 := Lib.hid hd2
        clear hd2
        by_cases h1 : 100 < m + om
        · obtain rfl : R = (100, 99) := by rw [hE3.out, if_pos (.inl h1)]
          have d1 : decide ((100 : Int) < (m : Int) + om) = true := by simp; omega
          refine hcl.mono ?_
          clear hcl hE3
          rintro e w1 ⟨rfl, hb1⟩
          have hbel1 := hb0.trans (hb1.mono hb0.size)
          go_wp2_with fail
          go_ret2
          exact ⟨rfl, hbel1⟩
        · have d1 : decide ((100 : Int) < (m : Int) + om) = false := by simp; omega
          by_cases h2 : 50 < d2
          · obtain rfl : R = (100, 99) := by rw [hE3.out, if_pos (.inr h2)]
            have d3 : decide ((50 : Int) < (d2 : Int)) = true := by simp; omega
            refine hcl.mono ?_
            clear hcl hE3
            rintro e w1 ⟨rfl, hb1⟩
            have hbel1 := hb0.trans (hb1.mono hb0.size)
            go_wp2_with fail
            go_ret2
            exact ⟨rfl, hbel1⟩
          · have d3 : decide ((50 : Int) < (d2 : Int)) = false := by simp; omega
            have hE4 : Hid (sizedsD k (m + om) d2 (parts.drop (i + 1)) = R) := by show _ = R; rw [hE3.out, if_neg (by omega)]
            refine hcl.mono ?_
            clear hcl hE3
            rintro e w1 ⟨rfl, hb1⟩
            have hbel1 := hb0.trans (hb1.mono hb0.size)
            go_wp2_with fail
            exact ⟨⟨i + 1, m + om, d2, by go_num, by rfl, by go_num, by omega, by omega, by omega, hE4, hbel1⟩, by simp [intOf]; omega⟩
      · have hR : (m, d + 1) = R := by rw [← hE.out, List.drop_of_length_le (by rw [hP.len]; omega), sizedsD]
        subst hR
        clear hE
        go_wp2_with fail
        go_ret2
        exact ⟨rfl, hbel⟩
end Go.Proofs.YtdhmmepcnladcaaDoor
