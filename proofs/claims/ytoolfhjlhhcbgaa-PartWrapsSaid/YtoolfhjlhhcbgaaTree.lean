import Derived.Test.YtoolfhjlhhcbgaaParted
namespace Go.Proofs.Ytoolfhjlhhcbgaa
open Go.RowKit

def TruePost (w : World) (e : Ending) (w' : World) : Prop := e = .returned (.bool true) ∧ Below w.heap.size w w'
theorem chk_many (q : PartD) (h : chkD q = 0) : manyB q.type = decide (0 < q.parts.length) := by
  unfold chkD chkB at h
  split at h
  · cases h
  · split at h
    · cases h
    · split at h
      · cases h
      · split at h
        · cases h
        · rename_i h1
          simp only [Bool.or_eq_true, not_or] at h1
          have := h1.1
          simpa using this
/-- What the law asks, of what part.All and part.Within say. -/
theorem tree_facts (p : PartD) (hch : ∀ q ∈ flatD p, chkD q = 0) :
    (wthD p 0 (-1))[0]? = some (-1) ∧
    (∀ j, j + 1 < (flatD p).length → ∃ (k : Nat) (q : PartD), (wthD p 0 (-1))[j + 1]? = some (k : Int) ∧ k ≤ j ∧ (flatD p)[k]? = some q ∧ manyB q.type = true) ∧
    (∀ (j : Nat) (q : PartD), (flatD p)[j]? = some q → manyB q.type = (wthD p 0 (-1)).contains (j : Int)) := by
  obtain ⟨a0, a1, a2⟩ := wth_facts p
  have hl := wthD_len p 0 (-1)
  refine ⟨a0, fun j hj => ?_, fun j q hq => ?_⟩
  · have hx : (wthD p 0 (-1))[j + 1]? = some (wthD p 0 (-1))[j + 1] := List.getElem?_eq_getElem (by omega)
    obtain ⟨h1, h2, q, hq, hqp⟩ := a1 j _ hx
    obtain ⟨k, hk⟩ := Int.eq_ofNat_of_zero_le h1
    rw [hk] at hx h2 hq
    refine ⟨k, q, hx, by omega, by simpa using hq, ?_⟩
    rw [chk_many q (hch q (List.mem_of_getElem? hq))]
    have : 0 < q.parts.length := List.length_pos_iff.2 hqp
    simpa using this
  · rw [chk_many q (hch q (List.mem_of_getElem? hq)), Bool.eq_iff_iff, decide_eq_true_eq, List.contains_iff_mem]
    constructor
    · intro h
      exact a2 j q hq (List.length_pos_iff.1 h)
    · intro h
      obtain ⟨i, hi, he⟩ := List.getElem_of_mem h
      have hx : (wthD p 0 (-1))[i]? = some (j : Int) := by rw [List.getElem?_eq_getElem hi, he]
      cases i with
      | zero => rw [a0] at hx; injection hx with hx; omega
      | succ i =>
        obtain ⟨_, _, q', hq', hqp⟩ := a1 i _ hx
        rw [Int.toNat_natCast, hq] at hq'
        injection hq' with hq'
        subst hq'
        exact List.length_pos_iff.2 hqp

theorem cut_ints (w : World) (A : Option Addr) (n c : Nat) (ki : IntKind) (k : Int) (h0 : 0 ≤ k) (h1 : k ≤ n) :
    (Instr.slice 24 (.slice A n c) (some (.int ki k)) none none).run Try.prog w = .ok (.slice (cutA A c k.toNat 1) (n - k.toNat) (c - k.toNat)) w :=
  run_cut w _ _ 1 Try.underlying24 (Try.sizeOf3 w) A n c ki k h0 h1
attribute [local go_sem high] cut_ints

set_option maxRecDepth 100000 in
set_option maxHeartbeats 2000000 in
theorem partTree_walk (p : PartD) (v : List Value) (w : World) (hp : PartAt (· < w.heap.size) w p v) :
    Calls Try.prog 6 #[.agg v.toArray] w (TruePost w) := by
  have hok := check_ok p
  have hfc := tree_facts p
  have hal := fun W h => All_any p v W h
  have hwt := fun W h => Within_any p v W h
  unfold AllOut at hal
  unfold WthOut at hwt
  have hwl := wthD_len p 0 (-1)
  obtain ⟨A, c, A2, c2, rfl, _⟩ := hp.open
  obtain ⟨W, hW⟩ : ∃ W, W = w.alloc (.cells #[str p.type, str p.cs, str p.id, str p.loc, .int .i64 p.how, .slice A p.body.length c, .slice A2 p.parts.length c2] 39) := ⟨_, rfl⟩
  have hbW : Below w.heap.size w W := by rw [hW]; exact (Below.refl _ w).alloc (Nat.le_refl _) _
  have hbx : Box7 W w.heap.size (str p.type) (str p.cs) (str p.id) (str p.loc) (.int .i64 p.how) (.slice A p.body.length c) (.slice A2 p.parts.length c2) := by rw [hW]; exact Box7.new w _ _ _ _ _ _ _ _
  have Hal := Lib.hid hal
  have Hwt := Lib.hid hwt
  have Hp := Lib.hid hp
  clear hal hwt hp
  generalize checkD p = R at Hal Hwt hok
  generalize wthD p 0 (-1) = T at Hwt hfc hwl
  generalize flatD p = F at Hal Hwt hok hfc hwl
  by_cases hR : R = 0
  · subst hR
    simp only [if_true] at Hal Hwt
    obtain ⟨h12, hch⟩ := hok rfl
    obtain ⟨f0, f1, f2⟩ := hfc hch
    have hpos : 0 < F.length := by
      rcases Nat.eq_zero_or_pos F.length with h | h
      · rw [List.getElem?_eq_none (by omega)] at f0; cases f0
      · exact h
    obtain ⟨n, hn⟩ : ∃ n, n = F.length := ⟨_, rfl⟩
    rw [← hn] at Hal Hwt h12 f1 hwl hpos
    have F0 := Lib.hid f0
    have F1 := Lib.hid f1
    have F2 := Lib.hid f2
    have Hn := Lib.hid hn
    have Hwl := Lib.hid hwl
    clear hok hch f0 f1 f2 hn hwl hfc
    go_enter Try.func6, Try.ntmps6
    go_wp2_with fail
    rw [← hW]
    clear hW
    refine (Hal.out W ((Hp.out.below hbW).more hbW.size)).mono ?_
    rintro e w1 ⟨S1, c1, rfl, hs1, hc1, hm1, hb1⟩
    have hbel1 := hbW.trans (hb1.mono hbW.size)
    have hbx1 := hbx.below hb1
    have ⟨x0, x1, x2, x3, x4, x5, x6⟩ := hbx1
    clear hbx hbx1 hb1 hbW Hal
    go_wp2_with fail
    refine (Hwt.out w1 ((Hp.out.below hbel1).more hbel1.size)).mono ?_
    rintro e w2 ⟨S2, c2', rfl, hs2, hc2, hm2, hb2⟩
    have hbel2 := hbel1.trans (hb2.mono hbel1.size)
    have hs1b := (hs1.below hb2).more hb2.size
    clear hs1 hb2 x0 x1 x2 x3 x4 x5 x6 Hwt
    go_wp2_with fail
    refine (parted_any _).mono ?_
    rintro e w3 ⟨rfl, hb3⟩
    have hbel3 := hbel2.trans (hb3.mono hbel2.size)
    have hs1c := (hs1b.below hb3).more hb3.size
    have hs2c := Sl.below hs2 hb3
    have hsz23 := hb3.size
    clear hs1b hs2 hb3
    obtain ⟨b, off, hA, _, hci⟩ := hs2c.2 (by omega)
    subst hA
    have z0 : w3.cell? ⟨b, off, none⟩ = some (.int .i64 (-1)) := hci 0 _ (by simp [iCells, F0.out])
    have hcut := Sl.cut (k := 1) (c := c2') hs2c (by omega) hc2
    generalize hA5 : cutA (some ⟨b, off, none⟩) c2' 1 1 = A5 at hcut
    have HA5 := Lib.hid hA5
    have Hs2 := Lib.hid hs2c
    have Hs1 := Lib.hid hs1c
    have Hcut := Lib.hid hcut
    clear hs2c hs1c hcut hci hA5
    unfold maxLen at hm1 hm2
    have hp1 : (1 : Int) ≤ n := by omega
    have hp0 : (0 : Int) ≤ 1 := by omega
    go_wp2_with fail
    rw [HA5.out]
    clear z0 hp1 hp0
    go_loopw [51] (fun iv wr => ∃ i : Nat, iv = .int .i64 (i : Nat) ∧ i ≤ n - 1 ∧ wr = w3) (fun iv _ => n - 1 - (intOf iv).toNat)
    case atStart => exact ⟨0, rfl, Nat.zero_le _, rfl⟩
    case round =>
      obtain ⟨i, rfl, hi, rfl⟩ := hrel
      by_cases hin : i < n - 1
      · obtain ⟨k, q, hk, hki, hq, hm⟩ := F1.out i (by omega)
        obtain ⟨b', off', hA', _, hci⟩ := Hcut.out.2 (by omega)
        subst hA'
        have z1 : wr.cell? ⟨b', off' + i, none⟩ = some (.int .i64 (k : Int)) := hci i _ (by rw [List.getElem?_drop, Nat.mul_one, Nat.add_comm]; simp only [iCells, List.getElem?_map, hk]; rfl)
        have hkn : k < n := by omega
        obtain ⟨b1, off1, q1, A', n', c', A2', n2', c2'', hS1, hbS, hq1, hqa, y0, _⟩ := Hs1.out.cells7 hkn
        subst hS1
        have hqq : q1.type = q.type := by
          have h1 : (F.map bareD)[k]? = some q1 := by
            have := congrArg (fun l => l[0]?) hq1
            simpa using this
          rw [List.getElem?_map, hq] at h1
          injection h1 with h1
          rw [← h1]; rfl
        rw [hqq] at y0
        have hM := Many_any q.type wr
        rw [hm] at hM
        have HM := Lib.hid hM
        have hk0 : 0 ≤ (k : Int) := by omega
        have hk1 : (k : Int) < n := by omega
        have hki1 : decide ((i : Int) < k) = false := by simp; omega
        clear hM hk hq hm hci hq1 hqa hqq
        go_wp2_with fail
        refine HM.out.mono ?_
        rintro e w5 ⟨rfl, rfl⟩
        go_wp2_with fail
        exact ⟨⟨i + 1, by go_num, by omega, trivial⟩, by simp [intOf]; omega⟩
      · go_wp2_with fail
        obtain ⟨w3, rfl⟩ : ∃ x : World, x = wr := ⟨_, rfl⟩
        go_loopw [75] (fun iv wr => ∃ j : Nat, iv = .int .i64 (j : Nat) ∧ j ≤ n ∧ Below w3.heap.size w3 wr) (fun iv _ => n - (intOf iv).toNat)
        case atStart => exact ⟨0, rfl, Nat.zero_le _, Below.refl _ _⟩
        case round =>
          obtain ⟨j, rfl, hj, hbel⟩ := hrel
          by_cases hjn : j < n
          · have hsr := Hs1.out.below hbel
            obtain ⟨b1, off1, q1, A', n', c', A2', n2', c2'', hS1, hbS, hq1, hqa, y0, y1, y2, y3, y4, y5, y6⟩ := hsr.cells7 hjn
            subst hS1
            have hjF : j < F.length := by rw [← Hn.out]; exact hjn
            have hqq : manyB q1.type = T.contains (j : Int) := by
              have h1 : (F.map bareD)[j]? = some q1 := by
                have := congrArg (fun l => l[0]?) hq1
                simpa using this
              rw [List.getElem?_map, List.getElem?_eq_getElem hjF] at h1
              injection h1 with h1
              rw [← h1]
              exact F2.out j F[j] (List.getElem?_eq_getElem hjF)
            have hbelA := hbel.alloc hbel.size (.cells #[str q1.type, str q1.cs, str q1.id, str q1.loc, .int .i64 q1.how, .slice A' n' c', .slice A2' n2' c2''] 39)
            have hM := fun W => Many_any q1.type W
            have hC := Contains_ints (some ⟨b, off, none⟩) n c2' w2.heap.size T (j : Int) (wr.alloc (.cells #[str q1.type, str q1.cs, str q1.id, str q1.loc, .int .i64 q1.how, .slice A' n' c', .slice A2' n2' c2''] 39)) (Sl.below Hs2.out (hbelA.mono hsz23)) (by omega)
            rw [hqq] at hM
            generalize T.contains (j : Int) = r at hM hC
            have HM := Lib.hid hM
            have HC := Lib.hid hC
            have hrr : (r != r) = false := by cases r <;> rfl
            clear hM hC hqq hq1 hqa hsr
            go_wp2_with fail
            refine (HM.out _).mono ?_
            rintro e w5 ⟨rfl, rfl⟩
            clear y0 y1 y2 y3 y4 y5 y6
            go_wp2_with fail
            refine HC.out.mono ?_
            rintro e w6 ⟨rfl, rfl⟩
            go_wp2_with fail
            exact ⟨⟨j + 1, by go_num, by omega, hbelA⟩, by simp [intOf]; omega⟩
          · go_wp2_with fail
            go_ret
            exact ⟨rfl, hbel3.trans (hbel.mono hbel3.size)⟩
  · have hR1 : ((R : Int) != 0) = true := by simp; omega
    simp only [if_neg hR] at Hal Hwt
    clear hok hR
    go_enter Try.func6, Try.ntmps6
    go_wp2_with fail
    rw [← hW]
    clear hW
    refine (Hal.out W ((Hp.out.below hbW).more hbW.size)).mono ?_
    rintro e w1 ⟨S1, c1, rfl, hs1, hc1, hm1, hb1⟩
    have hbel1 := hbW.trans (hb1.mono hbW.size)
    have hbx1 := hbx.below hb1
    have ⟨x0, x1, x2, x3, x4, x5, x6⟩ := hbx1
    clear hbx hbx1 hb1 hbW Hal hs1
    go_wp2_with fail
    refine (Hwt.out w1 ((Hp.out.below hbel1).more hbel1.size)).mono ?_
    rintro e w2 ⟨S2, c2', rfl, hs2, hc2, hm2, hb2⟩
    have hbel2 := hbel1.trans (hb2.mono hbel1.size)
    clear hb2 x0 x1 x2 x3 x4 x5 x6 Hwt hs2
    go_wp2_with fail
    refine (parted_any _).mono ?_
    rintro e w3 ⟨rfl, hb3⟩
    have hbel3 := hbel2.trans (hb3.mono hbel2.size)
    go_wp2_with fail
    refine (parted_any _).mono ?_
    rintro e w4 ⟨rfl, hb4⟩
    have hbel4 := hbel3.trans (hb4.mono hbel3.size)
    go_wp2_with fail
    go_ret
    exact ⟨rfl, hbel4⟩
end Go.Proofs.Ytoolfhjlhhcbgaa
