import Derived.Test.YtoolfhjlhhcbgaaDoorLkNone
import Derived.Laws.CopyOwn
namespace Go.Proofs.YtoolfhjlhhcbgaaDoor
open Go.RowKit
attribute [local go_sem high] cut_u8 mid_u8

def fitL (m : Nat) (ts : List (List UInt8)) : List (List UInt8) := ts.take m ++ List.replicate (m - ts.length) []
theorem fitL_len (m : Nat) (ts : List (List UInt8)) : (fitL m ts).length = m := by
  unfold fitL; simp; omega
theorem fitL_sum (m : Nat) (ts : List (List UInt8)) : sumL (fitL m ts) ≤ sumL ts := by
  unfold fitL sumL
  rw [List.map_append, List.sum_append, List.map_replicate]
  have h1 : (List.replicate (m - ts.length) ([] : List UInt8).length).sum = 0 := by simp
  rw [h1, Nat.add_zero]
  conv => rhs; rw [← List.take_append_drop m ts, List.map_append, List.sum_append]
  omega
theorem fitL_splice (m : Nat) (ts : List (List UInt8)) : splice ((List.replicate m ([] : List UInt8)).map str) 0 ((ts.take m).map str) = (fitL m ts).map str := by
  unfold splice fitL
  rw [List.take_zero, List.nil_append, Nat.zero_add, List.length_map, List.length_take, List.map_append, List.map_replicate, List.map_replicate, List.drop_replicate]
  congr 2
  omega
theorem copy_fit (wm w0 : World) (g m tn tc B B' : Nat) (TA : Option Addr) (ts : List (List UInt8)) (hblk : wm.heap[g]? = some (.cells ((List.replicate m ([] : List UInt8)).map str).toArray 9 (0, 0)))
    (hts : Sl wm B 1 TA tn (ts.map str)) (hb : Below B' w0 wm) (hg : B' ≤ g) :
    ∃ w' v, (Builtin.copy_ #[48, 48] 3 #[.slice (some ⟨g, 0, none⟩) m m, .slice TA tn tc]).run Tryd.prog wm = .ok v w' ∧ w'.heap[g]? = some (.cells ((fitL m ts).map str).toArray 9 (0, 0)) ∧ Below B' w0 w' := by
  have htn : ts.length = tn := by have := hts.1; simpa using this
  have hlen : ((ts.take m).map str).length = Nat.min tn m := by rw [List.length_map, List.length_take, htn, Nat.min_comm]
  have hsz : (Tryd.prog.info? 9).map (·.size) = some 1 := by kernel_rfl
  rcases Nat.eq_zero_or_pos (Nat.min tn m) with h0 | h0
  · refine ⟨wm, _, run_copy_none (P := Tryd.prog) wm 48 48 3 9 _ TA m m tn tc Tryd.underlying48 hsz h0, ?_, hb⟩
    rw [hblk]
    have : (ts.take m) = [] := List.eq_nil_of_length_eq_zero (by have := hlen; rw [List.length_map] at this; omega)
    have e := fitL_splice m ts
    rw [this] at e
    simp [splice] at e
    rw [← e, List.map_replicate]
  · obtain ⟨b, off, rfl, _, hcc⟩ := hts.2 (by have : Nat.min tn m ≤ tn := Nat.min_le_left _ _; omega)
    have hrun := run_copy_row (P := Tryd.prog) wm 48 48 3 9 g 0 m m ⟨b, off, none⟩ tn tc _ 9 ((ts.take m).map str) Tryd.underlying48 hsz hblk hlen
      (by
        intro j v hj
        rw [Addr.add_lit]
        refine hcc j v ?_
        rw [List.map_take, List.getElem?_take] at hj
        split at hj
        · exact hj
        · cases hj)
      (by rw [hlen]; simp only [List.size_toArray, List.length_map, List.length_replicate, Nat.zero_add]; exact Nat.min_le_right _ _)
      (by
        intro v hv
        obtain ⟨t, _, rfl⟩ := List.mem_map.1 hv
        rfl)
    refine ⟨_, _, hrun, ?_, below_setRow hb hg _⟩
    have e := fitL_splice m ts
    unfold splice at e
    rw [setRow_heap wm g _ _ _ _ hblk, ← e, List.append_assoc]
def PutsRel (wz : World) (m n n' : Nat) (l cB : List UInt8) (ls ms : List LinkD) (fit : List (List UInt8)) (xv yv iv : Value) (wr : World) : Prop :=
  ∃ x y i q : Nat, xv = .int .i64 (x : Nat) ∧ yv = .int .i64 (y : Nat) ∧ iv = .int .i64 (i : Nat) ∧ i ≤ m ∧ wr = wz.drewN q ∧ LOk x n (ls.drop i) ∧ LOk y n' (ms.drop i) ∧ Hid (putsL l cB x y (ls.drop i) (ms.drop i) (fit.drop i) = true)
theorem putE_codes (l : List UInt8) (ts : List (List UInt8)) (ls : List LinkD) (hf : findB l = some ls) (h4 : l.length ≤ 4000) (hlen : ts.length = ls.length) : (putE l ts).2 = 0 ∨ (putE l ts).2 = 1 ∨ (putE l ts).2 = 2 := by
  unfold putE putB
  rw [if_neg (by omega), hf]
  simp only
  rw [if_neg (by omega)]
  split
  · exact .inr (.inl rfl)
  · split
    · exact .inr (.inr rfl)
    · exact .inl rfl
theorem putE_small (l : List UInt8) (ts : List (List UInt8)) (h : (putE l ts).2 = 0) (h4 : l.length ≤ 4000) : (putE l ts).1.length ≤ 4000 ∧ putE l ts = putB l ts := by
  unfold putE at h ⊢
  rw [if_neg (by omega)] at h ⊢
  refine ⟨?_, rfl⟩
  unfold putB at h ⊢
  cases hf : findB l with
  | none => simp
  | some ls =>
    rw [hf] at h
    simp only at h ⊢
    split
    · simp
    · split
      · simp
      · split
        · simp
        · simp only; omega
theorem Sl.str_at {w : World} {B n : Nat} {A : Option Addr} {ts : List (List UInt8)} (h : Sl w B 1 A n (ts.map str)) (i : Nat) (hi : i < n) :
    ∃ b off t, A = some ⟨b, off, none⟩ ∧ b < B ∧ ts.drop i = t :: ts.drop (i + 1) ∧ w.cell? ⟨b, off + i, none⟩ = some (str t) := by
  obtain ⟨b, off, u, hA, hb, hu, hc⟩ := Sl.at_ h hi
  have hl : ts.length = n := by have := h.1; simpa using this
  have hil : i < ts.length := by omega
  rw [List.getElem?_map, List.getElem?_eq_getElem hil] at hu
  injection hu with hu
  exact ⟨b, off, ts[i], hA, hb, List.drop_eq_getElem_cons hil, by rw [hc, ← hu]⟩
set_option maxRecDepth 100000 in
set_option maxHeartbeats 2000000 in
theorem linkPuts_walk (A TA : Option Addr) (n c tn tc : Nat) (l : List UInt8) (ts : List (List UInt8)) (w : World) (hM : MaxLenOk w) (hb : By w w.heap.size A n l) (hc : n ≤ c) (hcm : c ≤ maxLen) (hts : Sl w w.heap.size 1 TA tn (ts.map str)) (hT : sumL ts ≤ 1048576) :
    Calls Tryd.prog 5 #[.slice A n c, .slice TA tn tc] w (YesPost w) := by
  obtain ⟨i0, hi0, hz0, hz1, hz2⟩ := info_parts infoStr
  have Hi0 := Lib.hid hi0
  have hi1 : (Tryd.prog.info? 9).map (·.size) = some 1 := by rw [hi0]; simp [hz1]
  clear hi0
  have hnl := hb.len
  have htn : ts.length = tn := by have := hts.1; simpa using this
  have hf := Find_any A n c l w hM hb hc hcm
  rcases findE_two l with h2 | h2
  · obtain ⟨e1, e2, _⟩ := putE_some (ts := []) h2
    obtain ⟨ls, hls⟩ : ∃ ls, ls = (findE l).1 := ⟨_, rfl⟩
    have hF : findE l = (ls, 0) := by rw [hls, ← h2]
    rw [hF] at hf
    rw [← hls] at e1
    have hlen := findB_len e1
    have hok := LOk.find e1
    rw [hnl] at hok
    clear hls h2
    obtain ⟨m, hm⟩ : ∃ m, m = ls.length := ⟨_, rfl⟩
    unfold FindOut at hf
    simp only at hf
    rw [← hm] at hf hlen
    have hcodes := putE_codes l (fitL m ts) ls e1 e2 (by rw [fitL_len, hm])
    have hsmall := fun h => putE_small l (fitL m ts) h e2
    have hlaw := puts_law l ls (fitL m ts) e1
    have hn4 : n ≤ 4000 := by omega
    have hsum := Nat.le_trans (fitL_sum m ts) hT
    have hflen := fitL_len m ts
    obtain ⟨fit, hfit⟩ : ∃ fit, fit = fitL m ts := ⟨_, rfl⟩
    rw [← hfit] at hcodes hsmall hlaw hsum hflen
    have Hf := Lib.hid hf
    have Hm := Lib.hid hm
    have Hb := Lib.hid hb
    have Hts := Lib.hid hts
    have Hnl := Lib.hid hnl
    have Htn := Lib.hid htn
    have Hspl := Lib.hid hfit
    have Hcodes := Lib.hid hcodes
    have Hsmall := Lib.hid hsmall
    have Hlaw := Lib.hid hlaw
    have Hflen := Lib.hid hflen
    clear hf hm hF e1 e2 hnl hb hts htn hfit hcodes hsmall hlaw hflen
    go_enter Tryd.func5, Tryd.ntmps5
    go_wp2_with fail
    refine Hf.out.mono ?_
    clear Hf
    rintro e w1 ⟨S, cS, rfl, hown1, hb1⟩
    go_wp2_with fail
    refine (linked_any _ (hM.below hb1)).mono ?_
    rintro e w2 ⟨rfl, hb2⟩
    have hbel2 := hb1.trans (hb2.mono hb1.size)
    have hL2 := (Sl.of_own hown1).below hb2
    obtain ⟨wm, hrunm, hownm, hgm⟩ := run_make_full (P := Tryd.prog) w2 w2.heap.size 48 9 i0 _ 1 Tryd.underlying48 Hi0.out hz0 hz1 .i64 .i64 m (by rw [hz2]; omega) (by unfold maxLen; omega) (Nat.le_refl _)
    rw [madeStr] at hownm
    have hbm : Below w2.heap.size w2 wm := (Below.refl _ w2).grown hgm (Nat.le_refl _) (fun k hk => by cases hk)
    have hbelm := hbel2.trans (hbm.mono hbel2.size)
    obtain ⟨g, hg⟩ : ∃ g, g = w2.heap.size := ⟨_, rfl⟩
    rw [← hg] at hrunm hownm
    have hblk : wm.heap[g]? = some (.cells ((List.replicate m ([] : List UInt8)).map str).toArray 9 (0, 0)) := by
      rcases hownm.2 with ⟨hv, _⟩ | ⟨g', cap, cur, hv, _, h2, h3, h4, h5, h6⟩
      · cases hv
      · injection hv with hv _ hcap
        injection hv with hv
        injection hv with hv
        subst hv
        rw [h2]
        congr 2
        rw [← h6, List.take_of_length_le (by simp [h5]; omega)]
    have htsm := Hts.out.below hbelm
    have hg2 : w2.heap.size ≤ g := by rw [hg]; exact Nat.le_refl _
    obtain ⟨wc, vc, hcopy, hblkc, hbc⟩ := copy_fit wm w2 g m tn tc _ _ TA ts hblk htsm hbm hg2
    rw [← Hspl.out] at hblkc
    have Hg := Lib.hid hg
    have Hblkc := Lib.hid hblkc
    clear hownm hgm hg hown1 hblkc
    go_wp2_with fail
    have hblkc := Hblkc.out
    have hbelc := hbel2.trans (hbc.mono hbel2.size)
    have hFit : Sl wc wc.heap.size 1 (some ⟨g, 0, none⟩) m (fit.map str) := Sl.of_block hblkc (by simp [Hflen.out]) (fun j u hu => by rw [Nat.zero_add]; simpa using hu)
    have hp := Put_any A (some ⟨g, 0, none⟩) n c m m l fit wc (hM.below hbelc) ((Hb.out.below hbelc).more hbelc.size) hc hcm hFit (by omega)
    have hL3 := hL2.below (hbc.mono hb2.size)
    obtain ⟨P, hP⟩ : ∃ P, P = putE l fit := ⟨_, rfl⟩
    rw [← hP] at hp
    have hcd := Hcodes.out
    have hsm := Hsmall.out
    have hlw := Hlaw.out
    rw [← hP] at hcd hsm
    obtain ⟨cB, pe⟩ := P
    unfold PutOut at hp
    simp only at hp hcd hsm
    have Hp := Lib.hid hp
    clear hp hblk hblkc Hblkc htsm hbm hrunm hcopy Hcodes Hsmall Hlaw
    by_cases hpe : pe = 0
    · subst hpe
      obtain ⟨s1, s2⟩ := hsm rfl
      rw [← s2] at hlw
      obtain ⟨ms, l1, l2, l3⟩ := hlw rfl
      have hF2 : findE cB = (ms, 0) := by unfold findE; rw [if_neg (by omega), l1]; rfl
      have hok2 := LOk.find l1
      simp only at s1 hok2 l3
      rw [← Hm.out] at l2
      obtain ⟨n', hn'⟩ : ∃ n', n' = cB.length := ⟨_, rfl⟩
      rw [← hn'] at hok2 s1
      have HF2 := Lib.hid hF2
      have L2 := Lib.hid l2
      have L3 := Lib.hid l3
      have Hn' := Lib.hid hn'
      rw [← hn'] at Hp
      clear hF2 l1 l2 l3 hn' hlw hsm s2 hcd hP
      go_wp2_with fail
      refine Hp.out.mono ?_
      clear Hp
      rintro e w4 ⟨S4, c4, rfl, hown4, hb4⟩
      have hbel4 := hbelc.trans (hb4.mono hbelc.size)
      have hby4 : By w4 w4.heap.size S4 n' cB := By.of_own hown4
      have hf5 := Find_any S4 n' c4 cB w4 (hM.below hbel4) hby4 (own_cap hown4) (own_capm hown4)
      rw [HF2.out] at hf5
      unfold FindOut at hf5
      simp only at hf5
      rw [L2.out] at hf5
      have hcap4 := own_cap hown4
      have Hf5 := Lib.hid hf5
      clear hf5 hown4
      go_wp2_with fail
      refine Hf5.out.mono ?_
      clear Hf5
      rintro e wz ⟨S5, c5, rfl, hown5, hb5⟩
      have hbelz := hbel4.trans (hb5.mono hbel4.size)
      have hMs := Sl.of_own hown5
      have hCz := hby4.below hb5
      have hPz := Hb.out.below hbelz
      have hFz := (hFit.below hb4).belowN hb5 hb4.size
      have hLz := (hL3.belowN hb4 (Nat.le_trans hb2.size hbc.size)).belowN hb5 (Nat.le_trans (Nat.le_trans hb2.size hbc.size) hb4.size)
      have hdm : ((m : Int) != (m : Int)) = false := by simp
      clear hown5 hby4
      go_wp2_with fail
      go_loopw [10, 11, 62] (fun xv yv iv wr => PutsRel wz m n n' l cB ls ms fit xv yv iv wr) (fun _ _ iv _ => m - (intOf iv).toNat)
      case atStart => exact ⟨0, 0, 0, 0, rfl, rfl, rfl, Nat.zero_le _, rfl, hok, hok2, L3.out⟩
      case round =>
        obtain ⟨x, y, i, q, rfl, rfl, rfl, hi, rfl, ok1, ok2, hE⟩ := hrel
        have hxn := ok1.le
        have hyn := ok2.le
        by_cases hin : i < m
        · obtain ⟨b1, o1, X, rfl, -, hdx, x0, x1, x2⟩ := hLz.link i hin
          obtain ⟨b2, o2, Y, rfl, -, hdy, y0, y1, y2⟩ := hMs.link i hin
          obtain ⟨b3, o3, T, hA3, -, hdt, t0⟩ := hFz.str_at i hin
          injection hA3 with hA3
          injection hA3 with hA3 hA4
          subst hA3
          subst hA4
          rw [Nat.zero_add] at t0
          rw [hdx] at ok1
          rw [hdy] at ok2
          obtain ⟨p1, p2, p3⟩ := ok1
          obtain ⟨r1, r2, r3⟩ := ok2
          have p4 := p3.le
          have r4 := r3.le
          have hE := hE.out
          rw [hdx, hdy, hdt] at hE
          simp only [putsL, Bool.and_eq_true, beq_iff_eq, decide_eq_true_eq] at hE
          obtain ⟨⟨⟨e1, e2⟩, -⟩, e4⟩ := hE
          have hXn : X.frm ≤ n := by omega
          have hYn : Y.frm ≤ n' := by omega
          have hg1 : decide (X.frm > X.til) = false := decide_eq_false (by omega)
          have hmA := (hPz.upto (k := X.frm) (by omega)).cut (k := x) (c := c) p1 (by omega)
          have hmB := (hCz.upto (k := Y.frm) (by omega)).cut (k := y) (c := c4) r1 (by omega)
          rw [← e2] at hmB
          obtain ⟨u, hu⟩ : ∃ u, u = (l.take X.frm).drop x := ⟨_, rfl⟩
          rw [← hu] at hmA hmB
          have htA := fun k => run_toStr (P := Tryd.prog) (wz.drewN k) 22 9 5 _ (cutA A c x 1) (X.frm - x) (c - x) u hmA Tryd.underlying22 Tryd.underlying5 Tryd.underlying9
          have htB := fun k => run_toStr (P := Tryd.prog) (wz.drewN k) 22 9 5 _ (cutA S4 c4 y 1) (Y.frm - y) (c4 - y) u hmB Tryd.underlying22 Tryd.underlying5 Tryd.underlying9
          have huu : (u == u) = true := beq_self_eq_true u
          have P3 := Lib.hid p3
          have R3 := Lib.hid r3
          have E4 := Lib.hid e4
          have Hbz := Lib.hid hbelz
          clear p3 r3 e4 e2 hu hmA hmB hdx hdy hdt hLz hMs hFz hCz hPz hbelz
          by_cases hT0 : T = []
          case' pos =>
            have hTe : (T == []) = true := by rw [hT0]; rfl
            rw [if_pos hT0] at e1
            rw [← e1] at x2
          case' neg =>
            have hTe : (T == []) = false := by simpa using hT0
            rw [if_neg hT0] at e1
            rw [← e1] at t0
            rw [← e1] at hTe
          all_goals
            have hYY : (Y.text == Y.text) = true := beq_self_eq_true _
            clear e1 hT0
            go_wp2_with fail
            go_quiet (fail)
            go_wp2_with fail
            go_quiet (fail)
            go_wp2_with fail
            exact ⟨⟨X.til, Y.til, i + 1, _, rfl, rfl, by go_num, by omega, rfl, P3.out, R3.out, E4.out⟩, by simp [intOf]; omega⟩
        · obtain rfl : i = m := by omega
          rw [List.drop_of_length_le (by rw [Hm.out]; exact Nat.le_refl _), List.drop_of_length_le (by rw [L2.out]; exact Nat.le_refl _)] at hE
          have hE := hE.out
          have e2 : l.drop x = cB.drop y := by simpa [putsL] using hE
          have hmA := hPz.cut (k := x) (c := c) (by omega) (by omega)
          have hmB := hCz.cut (k := y) (c := c4) (by omega) (by omega)
          rw [← e2] at hmB
          obtain ⟨u, hu⟩ : ∃ u, u = l.drop x := ⟨_, rfl⟩
          rw [← hu] at hmA hmB
          have htA := fun k => run_toStr (P := Tryd.prog) (wz.drewN k) 22 9 5 _ (cutA A c x 1) (n - x) (c - x) u hmA Tryd.underlying22 Tryd.underlying5 Tryd.underlying9
          have htB := fun k => run_toStr (P := Tryd.prog) (wz.drewN k) 22 9 5 _ (cutA S4 c4 y 1) (n' - y) (c4 - y) u hmB Tryd.underlying22 Tryd.underlying5 Tryd.underlying9
          have huu : (u == u) = true := beq_self_eq_true u
          have Hbz := Lib.hid hbelz
          clear e2 hu hmA hmB hLz hMs hFz hCz hPz hbelz hE ok1 ok2
          go_wp2_with fail
          go_quiet (fail)
          go_wp2_with fail
          go_ret
          exact ⟨rfl, belN (belN Hbz.out _) _⟩
    · have hpe2 : pe = 1 ∨ pe = 2 := by omega
      clear hcd hsm hlw hP hpe
      have hd0 : ((pe : Int) == 0) = false := by rcases hpe2 with rfl | rfl <;> rfl
      have hd0' : ((pe : Int) != 0) = true := by rcases hpe2 with rfl | rfl <;> rfl
      rcases hpe2 with rfl | rfl
      all_goals
        go_wp2_with fail
        refine Hp.out.mono ?_
        clear Hp
        rintro e w4 ⟨S4, c4, rfl, hown4, hb4⟩
        have hbel4 := hbelc.trans (hb4.mono hbelc.size)
        go_wp2_with fail
        go_ret
        exact ⟨rfl, hbel4⟩
  · rw [h2] at hf
    have Hf := Lib.hid hf
    clear hf h2 hnl htn
    go_enter Tryd.func5, Tryd.ntmps5
    go_wp2_with fail
    refine Hf.out.mono ?_
    clear Hf
    rintro e w1 ⟨S, cS, rfl, hown1, hb1⟩
    go_wp2_with fail
    refine (linked_any _ (hM.below hb1)).mono ?_
    rintro e w2 ⟨rfl, hb2⟩
    have hbel2 := hb1.trans (hb2.mono hb1.size)
    go_wp2_with fail
    refine (linked_any _ (hM.below hbel2)).mono ?_
    rintro e w3 ⟨rfl, hb3⟩
    go_wp2_with fail
    go_ret
    exact ⟨rfl, hbel2.trans (hb3.mono hbel2.size)⟩
end Go.Proofs.YtoolfhjlhhcbgaaDoor
