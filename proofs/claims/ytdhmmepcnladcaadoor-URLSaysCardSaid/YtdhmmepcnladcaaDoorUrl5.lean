import Derived.Test.YtdhmmepcnladcaaDoorUrl4
namespace Go.Proofs.YtdhmmepcnladcaaDoor
open Go.RowKit

theorem check_long {u : UrlD} (h : longU u = true) : checkU u = 2 := by unfold checkU; rw [h]; rfl
set_option maxRecDepth 100000 in
set_option maxHeartbeats 1000000 in
theorem Check_parts (sc ho pa qu fr : List UInt8) (hh hq hf : Bool) (w : World) :
    Calls Tryd.prog 46 #[.agg #[str sc, .bool hh, str ho, str pa, .bool hq, str qu, .bool hf, str fr]] w fun e w' => e = .returned (.int .i64 (checkU ⟨sc, hh, ho, pa, hq, qu, hf, fr⟩ : Nat)) ∧ Below w.heap.size w w' := by
  obtain ⟨W, hW⟩ : ∃ W, W = w.alloc (.cells #[str sc, .bool hh, str ho, str pa, .bool hq, str qu, .bool hf, str fr] 59) := ⟨_, rfl⟩
  have hbW : Below w.heap.size w W := by rw [hW]; exact (Below.refl _ w).alloc (Nat.le_refl _) _
  have hbx : Box8 W w.heap.size (str sc) (.bool hh) (str ho) (str pa) (.bool hq) (str qu) (.bool hf) (str fr) := by rw [hW]; exact Box8.new w _ _ _ _ _ _ _ _ _
  have HbW := Lib.hid hbW
  clear hbW
  obtain ⟨c0, c1, c2, c3, c4, c5, c6, c7⟩ := hbx
  by_cases l0 : 120 < sc.length
  · rw [check_long (by simp [longU, l0])]
    have d0 : decide (120 < (sc.length : Int)) = true := decide_eq_true (by omega)
    clear l0
    go_enter Tryd.func46, Tryd.ntmps46
    go_wp2_with fail
    go_ret
    rw [← hW]
    exact ⟨rfl, HbW.out⟩
  · by_cases l1 : 120 < ho.length
    · rw [check_long (by simp [longU, l1])]
      have d0 : decide (120 < (sc.length : Int)) = false := decide_eq_false (by omega)
      have d1 : decide (120 < (ho.length : Int)) = true := decide_eq_true (by omega)
      clear l0 l1
      go_enter Tryd.func46, Tryd.ntmps46
      go_wp2_with fail
      go_ret
      rw [← hW]
      exact ⟨rfl, HbW.out⟩
    · by_cases l2 : 120 < pa.length
      · rw [check_long (by simp [longU, l2])]
        have d0 : decide (120 < (sc.length : Int)) = false := decide_eq_false (by omega)
        have d1 : decide (120 < (ho.length : Int)) = false := decide_eq_false (by omega)
        have d2 : decide (120 < (pa.length : Int)) = true := decide_eq_true (by omega)
        clear l0 l1 l2
        go_enter Tryd.func46, Tryd.ntmps46
        go_wp2_with fail
        go_ret
        rw [← hW]
        exact ⟨rfl, HbW.out⟩
      · by_cases l3 : 120 < qu.length
        · rw [check_long (by simp [longU, l3])]
          have d0 : decide (120 < (sc.length : Int)) = false := decide_eq_false (by omega)
          have d1 : decide (120 < (ho.length : Int)) = false := decide_eq_false (by omega)
          have d2 : decide (120 < (pa.length : Int)) = false := decide_eq_false (by omega)
          have d3 : decide (120 < (qu.length : Int)) = true := decide_eq_true (by omega)
          clear l0 l1 l2 l3
          go_enter Tryd.func46, Tryd.ntmps46
          go_wp2_with fail
          go_ret
          rw [← hW]
          exact ⟨rfl, HbW.out⟩
        · by_cases l4 : 120 < fr.length
          · rw [check_long (by simp [longU, l4])]
            have d0 : decide (120 < (sc.length : Int)) = false := decide_eq_false (by omega)
            have d1 : decide (120 < (ho.length : Int)) = false := decide_eq_false (by omega)
            have d2 : decide (120 < (pa.length : Int)) = false := decide_eq_false (by omega)
            have d3 : decide (120 < (qu.length : Int)) = false := decide_eq_false (by omega)
            have d4 : decide (120 < (fr.length : Int)) = true := decide_eq_true (by omega)
            clear l0 l1 l2 l3 l4
            go_enter Tryd.func46, Tryd.ntmps46
            go_wp2_with fail
            go_ret
            rw [← hW]
            exact ⟨rfl, HbW.out⟩
          · have e : checkU ⟨sc, hh, ho, pa, hq, qu, hf, fr⟩ = chkU ⟨sc, hh, ho, pa, hq, qu, hf, fr⟩ := by unfold checkU; rw [if_neg]; simp [longU]; omega
            rw [e]
            exact Check_short sc ho pa qu fr hh hq hf w (by omega) (by omega) (by omega) (by omega) (by omega)
theorem Check_any (u : UrlD) (w : World) : Calls Tryd.prog 46 #[u.val] w fun e w' => e = .returned (.int .i64 (checkU u : Nat)) ∧ Below w.heap.size w w' :=
  Check_parts u.scheme u.host u.path u.query u.frag u.hasHost u.hasQuery u.hasFrag w
theorem check_text {u : UrlD} (h : checkU u = 0) : u.scheme.length ≤ 120 ∧ u.host.length ≤ 120 ∧ u.path.length ≤ 120 ∧ u.query.length ≤ 120 ∧ u.frag.length ≤ 120 := by
  have := (check_ok h).1
  unfold longU at this
  simp only [Bool.or_eq_false_iff, decide_eq_false_iff_not] at this
  omega
set_option maxRecDepth 100000 in
set_option maxHeartbeats 1000000 in
theorem Print_any (sc ho pa qu fr : List UInt8) (hh hq hf : Bool) (w : World) :
    Calls Tryd.prog 39 #[.agg #[str sc, .bool hh, str ho, str pa, .bool hq, str qu, .bool hf, str fr]] w fun e w' => e = .returned (.tuple #[str (printU ⟨sc, hh, ho, pa, hq, qu, hf, fr⟩).1, .int .i64 ((printU ⟨sc, hh, ho, pa, hq, qu, hf, fr⟩).2 : Nat)]) ∧ Below w.heap.size w w' := by
  obtain ⟨W, hW⟩ : ∃ W, W = w.alloc (.cells #[str sc, .bool hh, str ho, str pa, .bool hq, str qu, .bool hf, str fr] 59) := ⟨_, rfl⟩
  have hbW : Below w.heap.size w W := by rw [hW]; exact (Below.refl _ w).alloc (Nat.le_refl _) _
  have hbx : Box8 W w.heap.size (str sc) (.bool hh) (str ho) (str pa) (.bool hq) (str qu) (.bool hf) (str fr) := by rw [hW]; exact Box8.new w _ _ _ _ _ _ _ _ _
  have HbW := Lib.hid hbW
  have Hbx := Lib.hid hbx
  clear hbW
  obtain ⟨c0, c1, c2, c3, c4, c5, c6, c7⟩ := hbx
  have KC := Lib.hid (fun X => Check_parts sc ho pa qu fr hh hq hf X)
  by_cases h : checkU ⟨sc, hh, ho, pa, hq, qu, hf, fr⟩ = 0
  · have hl := check_text h
    have KT := Lib.hid (fun X => textU_any sc ho pa qu fr hh hq hf X (by have := hl.1; simp only at this; omega) (by have := hl.2.1; simp only at this; omega) (by have := hl.2.2.1; simp only at this; omega) (by have := hl.2.2.2.1; simp only at this; omega) (by have := hl.2.2.2.2; simp only at this; omega))
    clear hl
    rw [h] at KC
    have hp : printU ⟨sc, hh, ho, pa, hq, qu, hf, fr⟩ = (textU ⟨sc, hh, ho, pa, hq, qu, hf, fr⟩, 0) := by unfold printU; rw [if_pos h]
    rw [hp]
    generalize textU ⟨sc, hh, ho, pa, hq, qu, hf, fr⟩ = tx at KT
    clear hp h
    go_enter Tryd.func39, Tryd.ntmps39
    go_wp2_with fail
    rw [← hW]
    clear hW
    refine (KC.out _).mono ?_
    rintro e w1 ⟨rfl, hb1⟩
    obtain ⟨c0, c1, c2, c3, c4, c5, c6, c7⟩ := Hbx.out.below hb1
    have HS := Lib.hid (HbW.out.trans (hb1.mono HbW.out.size))
    clear hb1
    go_wp2_with fail
    refine (KT.out _).mono ?_
    rintro e w2 ⟨rfl, hb2⟩
    have HS2 := Lib.hid (HS.out.trans (hb2.mono HS.out.size))
    clear hb2
    go_wp2_with fail
    go_ret2
    exact ⟨rfl, HS2.out⟩
  · have hp : printU ⟨sc, hh, ho, pa, hq, qu, hf, fr⟩ = ([], checkU ⟨sc, hh, ho, pa, hq, qu, hf, fr⟩) := by unfold printU; rw [if_neg h]
    rw [hp]
    generalize checkU ⟨sc, hh, ho, pa, hq, qu, hf, fr⟩ = k at KC h
    have hk : ((k : Int) != 0) = true := by simp; omega
    clear hp h
    go_enter Tryd.func39, Tryd.ntmps39
    go_wp2_with fail
    rw [← hW]
    clear hW
    refine (KC.out _).mono ?_
    rintro e w1 ⟨rfl, hb1⟩
    have HS := Lib.hid (HbW.out.trans (hb1.mono HbW.out.size))
    clear hb1
    go_wp2_with fail
    go_ret2
    exact ⟨rfl, HS.out⟩
end Go.Proofs.YtdhmmepcnladcaaDoor
