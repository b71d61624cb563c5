import Derived.Test.YtdhmmepcnladcaaDoorRp6
import Derived.Test.YtdhmmepcnladcaaDoorRp7
namespace Go.Proofs.YtdhmmepcnladcaaDoor
open Go.RowKit

def DocRel (L : List PartD) (R : Nat) (w1 : World) (iv : Value) (wr : World) : Prop :=
  ∃ i : Nat, iv = .int .i64 (i : Nat) ∧ i ≤ L.length ∧ Hid (firstErr (L.drop i) = R) ∧ Below w1.heap.size w1 wr
/-- What stands behind one part's test. -/
def thenErr (e f : Nat) : Nat := if e = 0 then f else e
theorem thenErr_bad {e f : Nat} (h : e ≠ 0) : thenErr e f = e := if_neg h
theorem thenErr_ok (f : Nat) : thenErr 0 f = f := if_pos rfl
theorem firstErr_cons (q : PartD) (L : List PartD) : firstErr (q :: L) = thenErr (chkD q) (firstErr L) := rfl
set_option maxRecDepth 100000 in
set_option maxHeartbeats 4000000 in
theorem CheckPart_any (p : PartD) (v : List Value) (w : World) (hp : PartAt (· < w.heap.size) w p v) (hT : U8Ok w) :
    Calls Tryd.prog 13 #[.agg v.toArray] w fun e w' => e = .returned (.int .i64 (checkD p : Nat)) ∧ Below w.heap.size w w' := by
  have hck := checkD_sized p
  have hsl := sized_law 3 (by omega) p
  have hfl := cntD_flat 3 p
  have hcle := cntD_le 3 p
  have hsm := sizedD_small 3 p
  obtain ⟨A, c, A2, c2, rfl, _⟩ := hp.open
  obtain ⟨W, hW⟩ : ∃ W, W = w.alloc (.cells #[str p.type, str p.cs, str p.id, str p.loc, .int .i64 p.how, .slice A p.body.length c, .slice A2 p.parts.length c2] 25) := ⟨_, rfl⟩
  have hbW : Below w.heap.size w W := by rw [hW]; exact (Below.refl _ w).alloc (Nat.le_refl _) _
  have hbx : Box7 W w.heap.size (str p.type) (str p.cs) (str p.id) (str p.loc) (.int .i64 p.how) (.slice A p.body.length c) (.slice A2 p.parts.length c2) := by rw [hW]; exact Box7.new w _ _ _ _ _ _ _ _
  have hpW := hp.below hbW
  have hct := sized_any 3 p _ W (by omega) (hpW.more hbW.size)
  obtain ⟨n2, hn2⟩ : ∃ n2, n2 = p.parts.length := ⟨_, rfl⟩
  obtain ⟨n1, hn1⟩ : ∃ n1, n1 = p.body.length := ⟨_, rfl⟩
  have Hp := Lib.hid hp
  have HT := Lib.hid hT
  have ⟨x0, x1, x2, x3, x4, x5, x6⟩ := hbx
  obtain ⟨l1, l2⟩ := hsl
  generalize checkD p = R at hck ⊢
  rcases hsz : sizedD 3 p with ⟨many, deep⟩
  rw [hsz] at hct hck l1 l2 hsm
  simp only [szVal] at hct
  simp only at hck hsm
  by_cases hov : 12 < many ∨ 3 < deep
  · obtain rfl : R = 2 := by rw [hck, if_pos hov]
    have Hct := Lib.hid hct
    clear hct hck l1 l2 hfl hcle hpW hp hn1 hn2 hsz hT
    by_cases hm : 12 < many
    · have d1 : decide ((12 : Int) < (many : Int)) = true := by simp; omega
      clear hov
      go_enter Tryd.func13, Tryd.ntmps13
      go_wp2_with fail
      rw [← hW]
      clear hW
      refine Hct.out.mono ?_
      rintro e w1 ⟨rfl, hb1⟩
      clear x0 x1 x2 x3 x4 x5 x6
      go_wp2_with fail
      go_ret
      exact ⟨rfl, hbW.trans (hb1.mono hbW.size)⟩
    · have d1 : decide ((12 : Int) < (many : Int)) = false := by simp; omega
      have d2 : decide ((3 : Int) < (deep : Int)) = true := by simp; omega
      clear hov
      go_enter Tryd.func13, Tryd.ntmps13
      go_wp2_with fail
      rw [← hW]
      clear hW
      refine Hct.out.mono ?_
      rintro e w1 ⟨rfl, hb1⟩
      clear x0 x1 x2 x3 x4 x5 x6
      go_wp2_with fail
      go_ret
      exact ⟨rfl, hbW.trans (hb1.mono hbW.size)⟩
  · have d1 : decide ((12 : Int) < (many : Int)) = false := by simp; omega
    have d2 : decide ((3 : Int) < (deep : Int)) = false := by simp; omega
    have hR : R = firstErr (flatD p) := by rw [hck, if_neg hov]
    have hlen : (flatD p).length ≤ 12 := by
      cases hc : cntD 3 p with
      | none => have := l1 hc; unfold overD at this; simp only at this; omega
      | some c0 => have h1 := hfl c0 hc; have h2 := hcle c0 hc; omega
    obtain ⟨L, hL⟩ : ∃ L, L = flatD p := ⟨_, rfl⟩
    rw [← hL] at hR hlen
    have HR := Lib.hid hR
    have HL := Lib.hid hL
    have Hct := Lib.hid hct
    clear hct hck l1 l2 hfl hcle hpW hp hn1 hn2 hsz hov hR hL hT
    go_enter Tryd.func13, Tryd.ntmps13
    go_wp2_with fail
    rw [← hW]
    clear hW
    refine Hct.out.mono ?_
    clear Hct
    rintro e w1 ⟨rfl, hb1⟩
    have hbx1 := hbx.below hb1
    have hbel1 := hbW.trans (hb1.mono hbW.size)
    have hp1 := Hp.out.below hbel1
    have hal := Flat_any 12 p _ w.heap.size w1 (by rw [← HL.out]; exact hlen) (by omega) hbel1.size hp1
    rw [← HL.out] at hal
    have Hal := Lib.hid hal
    clear x0 x1 x2 x3 x4 x5 x6
    have ⟨x0, x1, x2, x3, x4, x5, x6⟩ := hbx1
    clear hbx hbx1 hp1 hal hb1 hbW
    go_wp2_with fail
    refine Hal.out.mono ?_
    clear Hal x0 x1 x2 x3 x4 x5 x6
    rintro e w2 ⟨S, c3, rows, rfl, hown, hrows, hb2⟩
    have hbel2 := hbel1.trans (hb2.mono hbel1.size)
    have hP := AllRes.slp hown hrows hbel2.size
    clear hown hrows
    go_wp2_with fail
    go_loopw [22] (DocRel L R w2) (fun iv _ => L.length - (intOf iv).toNat)
    case atStart => exact ⟨0, rfl, Nat.zero_le _, HR.out.symm, Below.refl _ _⟩
    case round =>
      obtain ⟨i, rfl, hi, hE, hbel⟩ := hrel
      by_cases hin : i < L.length
      · have hPr := hP.below hbel
        obtain ⟨b, off, q, A', n', c', A2', n2', c2', rfl, hbS, hq, hqa, x0, x1, x2, x3, x4, x5, x6⟩ := hPr.cells7 hin
        obtain ⟨A9, c9, A8, c8, hv, ⟨b1, b2, b3, b4, b5, b6⟩, _, b7, b8, _, b9, b10⟩ := hqa.open
        simp only [List.cons.injEq, Value.slice.injEq, and_true, true_and] at hv
        obtain ⟨⟨rfl, rfl, rfl⟩, rfl, rfl, rfl⟩ := hv
        have hE2 : Hid (R = thenErr (chkD q) (firstErr (L.drop (i + 1)))) := by show R = _; rw [← hE.out, hq, firstErr_cons]
        unfold chkD at hE2
        have h1 := fun W => IsMany_any q.type W b1
        have h2 := fun W h => IsType_any q.type W b1 h
        have h3 := fun W => IsToken_any q.cs W b2
        have h4 := fun W => IsWord_any q.id W b3
        have h5 := fun W => IsWord_any q.loc W b4
        generalize typB q.type = ty at h2 hE2
        generalize tokB q.cs = tk at h3 hE2
        generalize wordB q.id = wi at h4 hE2
        generalize wordB q.loc = wl at h5 hE2
        generalize manyB q.type = m at h1 hE2
        generalize hce : (q.cs == ([] : List UInt8)) = ce at hE2
        have HCE := Lib.hid hce
        have H1 := Lib.hid h1
        have H2 := Lib.hid h2
        have H3 := Lib.hid h3
        have H4 := Lib.hid h4
        have H5 := Lib.hid h5
        have hn4 : q.body.length ≤ 9223372036854775807 := by unfold maxLen at b8; omega
        have hn5 : q.parts.length ≤ 9223372036854775807 := by unfold maxLen at b10; omega
        generalize q.body.length = n at *
        generalize q.parts.length = n2 at *
        have hbA := hbel.alloc hbel.size (.cells #[str q.type, str q.cs, str q.id, str q.loc, .int .i64 q.how, .slice A' n c', .slice A2' n2 c2'] 25)
        have hTA : U8Ok (wr.alloc (.cells #[str q.type, str q.cs, str q.id, str q.loc, .int .i64 q.how, .slice A' n c', .slice A2' n2 c2'] 25)) := HT.out.below (hbel2.trans (hbA.mono hbel2.size))
        have hbx := Box7.new wr 25 (str q.type) (str q.cs) (str q.id) (str q.loc) (.int .i64 q.how) (.slice A' n c') (.slice A2' n2 c2')
        clear hq hqa hPr hE h1 h2 h3 h4 h5 hce b7 b8 b9 b10 hbel
        go_wp2_with fail
        refine (H1.out _).mono ?_
        rintro e w3 ⟨rfl, rfl⟩
        clear x0 x1 x2 x3 x4 x5 x6
        have ⟨x0, x1, x2, x3, x4, x5, x6⟩ := hbx
        go_wp2_with fail
        refine (H2.out _ hTA).mono ?_
        rintro e w4 ⟨rfl, hb4⟩
        have hbel4 := hbA.trans (hb4.mono hbA.size)
        have hbx4 := hbx.below hb4
        clear hbx hbA hb4 x0 x1 x2 x3 x4 x5 x6 H1 H2
        have ⟨x0, x1, x2, x3, x4, x5, x6⟩ := hbx4
        have E := hE2
        clear hE2
        have hbelX := hbel2.trans (hbel4.mono hbel2.size)
        cases ty
        · have E1 : Hid (R = 1) := by show R = 1; rw [E.out]; simp [chkB, thenErr]
          clear E
          go_wp2_with fail
          go_ret
          exact ⟨ret_nat E1.out.symm, hbelX⟩
        · cases ce
          case' true =>
            have hce := HCE.out
            go_wp2_with fail
            clear hce
          case' false =>
            have hce := HCE.out
            go_wp2_with fail
            refine (H3.out _).mono ?_
            rintro e w5 ⟨rfl, rfl⟩
            cases tk
            · have E1 : Hid (R = 1) := by show R = 1; rw [E.out]; simp [chkB, thenErr]
              clear E
              go_wp2_with fail
              go_ret
              exact ⟨ret_nat E1.out.symm, hbelX⟩
            go_wp2_with fail
            clear hce
          all_goals
            refine (H4.out _).mono ?_
            rintro e w6 ⟨rfl, rfl⟩
            cases wi
            · have E1 : Hid (R = 1) := by show R = 1; rw [E.out]; simp [chkB, thenErr]
              clear E
              go_wp2_with fail
              go_ret
              exact ⟨ret_nat E1.out.symm, hbelX⟩
            · go_wp2_with fail
              refine (H5.out _).mono ?_
              rintro e w7 ⟨rfl, rfl⟩
              cases wl
              · have E1 : Hid (R = 1) := by show R = 1; rw [E.out]; simp [chkB, thenErr]
                clear E
                go_wp2_with fail
                go_ret
                exact ⟨ret_nat E1.out.symm, hbelX⟩
              · by_cases hh0 : q.how < 0
                · have d0 : decide (q.how < 0) = true := by simpa using hh0
                  have E1 : Hid (R = 3) := by show R = 3; rw [E.out]; simp [chkB, thenErr, hh0]
                  clear E
                  go_wp2_with fail
                  go_ret
                  exact ⟨ret_nat E1.out.symm, hbelX⟩
                · have d0 : decide (q.how < 0) = false := by simpa using hh0
                  by_cases hh2 : 2 < q.how
                  · have d2 : decide (2 < q.how) = true := by simpa using hh2
                    have E1 : Hid (R = 3) := by show R = 3; rw [E.out]; simp [chkB, thenErr, hh0, hh2]
                    clear E
                    go_wp2_with fail
                    go_ret
                    exact ⟨ret_nat E1.out.symm, hbelX⟩
                  · have d2 : decide (2 < q.how) = false := by simpa using hh2
                    by_cases hn4' : 4000 < n
                    · have E1 : Hid (R = 2) := by show R = 2; rw [E.out]; simp [chkB, thenErr, hh0, hh2, hn4']
                      clear E
                      go_wp2_with fail
                      go_ret
                      exact ⟨ret_nat E1.out.symm, hbelX⟩
                    · have hce := HCE.out
                      have E2 := E.out
                      have hhow : ∃ hz, hz = q.how := ⟨_, rfl⟩
                      rcases (by omega : 0 < n2 ∨ n2 = 0) with hn0 | rfl <;> rcases (by omega : 0 < n ∨ n = 0) with hnn | rfl <;> rcases Decidable.em (q.how = 0) with hz | hz <;> cases m
                      all_goals
                        first
                        | have E1 : Hid (R = 4) := by show R = 4; rw [E2]; simp [chkB, thenErr, *]; done
                          have E0 : True := trivial
                        | have E1 : Hid (R = firstErr (L.drop (i + 1))) := by show R = _; rw [E2]; simp [chkB, thenErr, *]; done
                          have E9 : True := trivial
                        clear E E2
                        first
                        | have e0 : decide ((0 : Int) < n2) = true := by simp; omega
                          have e0b : ((n2 : Int) == 0) = false := by simp; omega
                        | have e0 : True := trivial
                        first
                        | have e1 : decide ((0 : Int) < n) = true := by simp; omega
                        | have e1 : True := trivial
                        first
                        | have e2 : (q.how != 0) = true := by simpa using hz
                        | have e2 : (q.how != 0) = false := by simpa using hz
                        go_wp2_with fail
                        first
                        | go_ret
                          exact ⟨ret_nat E1.out.symm, hbelX⟩
                        | exact ⟨⟨i + 1, by go_num, by omega, E1.out.symm, hbel4⟩, by simp [intOf]; omega⟩
      · obtain rfl : 0 = R := by rw [← hE.out, List.drop_of_length_le (by omega)]; rfl
        clear hE
        go_wp2_with fail
        go_ret
        exact ⟨rfl, hbel2.trans (hbel.mono hbel2.size)⟩
end Go.Proofs.YtdhmmepcnladcaaDoor
