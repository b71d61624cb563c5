import Derived.Test.YtdhmmepcnladcaaDoorPart1
namespace Go.Proofs.YtdhmmepcnladcaaDoor
open Go.RowKit

theorem ret_nat {a b : Nat} (h : a = b) : Ending.returned (.int .i64 (a : Int)) = .returned (.int .i64 (b : Int)) := by rw [h]
set_option maxRecDepth 100000 in
set_option maxHeartbeats 2000000 in
theorem check_raw (t cs id loc : List UInt8) (how : Int) (A A2 : Option Addr) (n c n2 c2 : Nat) (w : World)
    (ht : t.length ≤ maxLen) (hcs : cs.length ≤ maxLen) (hid : id.length ≤ maxLen) (hloc : loc.length ≤ maxLen) (hh1 : -9223372036854775808 ≤ how) (hh2 : how ≤ 9223372036854775807) (hn : n ≤ maxLen) (hn2 : n2 ≤ maxLen) :
    Calls Tryd.prog 81 #[.agg #[str t, str cs, str id, str loc, .int .i64 how, .slice A n c, .slice A2 n2 c2]] w
      fun e w' => e = .returned (.int .i64 (chkB (typB t) (cs == []) (tokB cs) (wordB id) (wordB loc) how n (manyB t) n2 : Nat)) ∧ Below w.heap.size w w' := by
  have h1 := fun W => Type_any t W ht
  have h2 := fun W => Token_any cs W hcs
  have h3 := fun W => Word_any id W hid
  have h4 := fun W => Word_any loc W hloc
  have h5 := fun W => Many_any t W
  generalize typB t = ty at h1 ⊢
  generalize tokB cs = tk at h2 ⊢
  generalize wordB id = wi at h3 ⊢
  generalize wordB loc = wl at h4 ⊢
  generalize manyB t = m at h5 ⊢
  generalize hce : (cs == ([] : List UInt8)) = ce
  have HCE := Lib.hid hce
  clear hce
  have H1 := Lib.hid h1
  have H2 := Lib.hid h2
  have H3 := Lib.hid h3
  have H4 := Lib.hid h4
  have H5 := Lib.hid h5
  clear h1 h2 h3 h4 h5
  unfold maxLen at ht hcs hid hloc hn hn2
  have hbx := Box7.new w 25 (str t) (str cs) (str id) (str loc) (.int .i64 how) (.slice A n c) (.slice A2 n2 c2)
  have hb0 : Below w.heap.size w (w.alloc (.cells #[str t, str cs, str id, str loc, .int .i64 how, .slice A n c, .slice A2 n2 c2] 25)) := (Below.refl _ w).alloc (Nat.le_refl _) _
  go_enter Tryd.func81, Tryd.ntmps81
  go_wp2_with fail
  refine (H1.out _).mono ?_
  rintro e w1 ⟨rfl, hb1⟩
  have hbx1 := hbx.below hb1
  have hbel1 := hb0.trans (hb1.mono hb0.size)
  clear hbx hb0 hb1 H1
  have ⟨x0, x1, x2, x3, x4, x5, x6⟩ := hbx1
  cases ty
  · go_wp2_with fail
    go_ret
    exact ⟨ret_nat (by simp [chkB]), hbel1⟩
  · cases ce
    case' true =>
      have hce := HCE.out
      go_wp2_with fail
      obtain ⟨w2, hw2⟩ : ∃ w2 : World, w2 = w1 := ⟨_, rfl⟩
      have hbx2 := hbx1
      have hbel2 := hbel1
      rw [← hw2] at hbx2 hbel2 ⊢
      clear x0 x1 x2 x3 x4 x5 x6 hw2 hbx1 hbel1 hce
    case' false =>
      have hce := HCE.out
      go_wp2_with fail
      refine (H2.out _).mono ?_
      rintro e w2 ⟨rfl, hb2⟩
      have hbx2 := hbx1.below hb2
      have hbel2 := hbel1.trans (hb2.mono hbel1.size)
      have ⟨x0, x1, x2, x3, x4, x5, x6⟩ := hbx2
      cases tk
      · go_wp2_with fail
        go_ret
        exact ⟨ret_nat (by simp [chkB]), hbel2⟩
      go_wp2_with fail
      clear x0 x1 x2 x3 x4 x5 x6 hb2 hbx1 hbel1 hce
    all_goals
      refine (H3.out _).mono ?_
      rintro e w3 ⟨rfl, hb3⟩
      have hbx3 := hbx2.below hb3
      have hbel3 := hbel2.trans (hb3.mono hbel2.size)
      clear hbx2 hbel2 hb3
      have ⟨x0, x1, x2, x3, x4, x5, x6⟩ := hbx3
      cases wi
      · go_wp2_with fail
        go_ret
        exact ⟨ret_nat (by simp [chkB]), hbel3⟩
      · go_wp2_with fail
        clear x0 x1 x2 x3 x4 x5 x6
        refine (H4.out _).mono ?_
        rintro e w4 ⟨rfl, hb4⟩
        have hbx4 := hbx3.below hb4
        have hbel4 := hbel3.trans (hb4.mono hbel3.size)
        clear hbx3 hbel3 hb4
        have ⟨x0, x1, x2, x3, x4, x5, x6⟩ := hbx4
        cases wl
        · go_wp2_with fail
          go_ret
          exact ⟨ret_nat (by simp [chkB]), hbel4⟩
        · by_cases hh0 : how < 0
          · have d0 : decide (how < 0) = true := by simpa using hh0
            go_wp2_with fail
            go_ret
            exact ⟨ret_nat (by simp [chkB, hh0]), hbel4⟩
          · have d0 : decide (how < 0) = false := by simpa using hh0
            by_cases hh2 : 2 < how
            · have d2 : decide (2 < how) = true := by simpa using hh2
              go_wp2_with fail
              go_ret
              exact ⟨ret_nat (by simp [chkB, hh0, hh2]), hbel4⟩
            · have d2 : decide (2 < how) = false := by simpa using hh2
              by_cases hn4 : 4000 < n
              · go_wp2_with fail
                go_ret
                exact ⟨ret_nat (by simp [chkB, hh0, hh2, hn4]), hbel4⟩
              · go_wp2_with fail
                refine (H5.out _).mono ?_
                rintro e w5 ⟨rfl, rfl⟩
                have hce := HCE.out
                have k0 : ¬ how < 0 ∧ ¬ 2 < how ∧ ¬ 4000 < n := by omega
                have K0 := Lib.hid k0
                clear k0 hh0 hh2
                rcases (by omega : 0 < n2 ∨ n2 = 0) with hn0 | rfl <;> rcases (by omega : 0 < n ∨ n = 0) with hnn | rfl <;> rcases Decidable.em (how = 0) with rfl | hz <;> cases m
                all_goals
                  first
                  | have e0 : decide ((0 : Int) < n2) = true := by simp; omega
                  | have e0 : True := trivial
                  first
                  | have e1 : decide ((0 : Int) < n) = true := by simp; omega
                  | have e1 : True := trivial
                  first
                  | have e2 : (how != 0) = true := by simpa using hz
                  | have e2 : True := trivial
                  go_wp2_with fail
                  go_ret
                  refine ⟨ret_nat ?_, hbel4⟩
                  have k0 := K0.out
                  simp only [chkB]
                  simp [*]
end Go.Proofs.YtdhmmepcnladcaaDoor
