import Derived.Test.YtlbdnohnngkapaaGreatDoorU13
import Derived.Test.YtlbdnohnngkapaaGreatDoorU14
import Derived.Test.YtlbdnohnngkapaaGreatDoorU1
import Derived.Test.YtlbdnohnngkapaaGreatDoorRows
import Derived.ProofKit
import Derived.OpenShut
import Derived.ShutString
import Derived.ChangeOld
import Derived.Below
import Derived.Test.YtlbdnohnngkapaaGreatDoorU2
import Derived.Deep.Slices
import Derived.Deep.Fields
import Derived.Lib.SmallJoins
import Derived.Test.YtlbdnohnngkapaaGreatDoorU4
import Derived.Test.YtlbdnohnngkapaaGreatDoorCards
import Derived.Test.YtlbdnohnngkapaaGreatDoorTie
import Derived.Deep.DeepHandedRow
import Derived.Lay
import Derived.Deep.DeepWitnessRowRef
namespace Go.Proofs.YtlbdnohnngkapaaGreatDoor
open Go.RowKit

theorem first_split (s : List UInt8) : ∀ k, (k = 0 → s = []) → (splitK [35] k s).head? = some (bareB s)
  | 0, h => by
    rw [h rfl]
    decide +kernel
  | k + 1, _ => by
    unfold splitK bareB Lib.cut
    by_cases h : Lib.index s [35] = -1
    · rw [h]; rfl
    · have h0 := Lib.index_ge s [35]
      rw [if_neg (by simpa using h), if_pos (by omega)]
      rfl
theorem bareL_any (s : List UInt8) (w : World) (hM : MaxLenOk w) (hs : s.length ≤ 1000000) : Calls Tryz.prog 43 #[str s] w fun e w' => e = .returned (str (bareB s)) ∧ Below w.heap.size w w' := by
  obtain ⟨m, hm⟩ := hM
  have hc := Go.Proofs.Tryz.strings_SplitN ⟨s.toArray⟩ ⟨#[35]⟩ 2 m w (by simp [ByteArray.size]; omega) hm (by decide) (by omega) (by omega)
  have hsz : (⟨s.toArray⟩ : ByteArray).size = s.length := by simp [ByteArray.size]
  rw [hsz] at hc
  generalize hk : min 2 (s.length + 1) - 1 = k at hc
  have hk0 : k = 0 → s = [] := fun e => List.eq_nil_of_length_eq_zero (by omega)
  have hf := first_split s k hk0
  have hd := splitB_data [35] k ⟨s.toArray⟩
  simp only [List.toList_toArray] at hd
  generalize Lib.splitB ⟨#[35]⟩ 0 k ⟨s.toArray⟩ = D at hc hd
  have hD : ∃ D', D.map Value.string = str (bareB s) :: D' := by
    rw [hd]
    cases hL : splitK [35] k s with
    | nil => rw [hL] at hf; cases hf
    | cons a L =>
      rw [hL] at hf
      injection hf with hf
      exact ⟨L.map str, by rw [List.map_cons, hf]⟩
  obtain ⟨D', hD'⟩ := hD
  have hDl : 0 < D.length := by have := congrArg List.length hD'; simp at this; omega
  have hcell : (w.alloc (.cells (Lib.cellsOf D (min 2 (s.length + 1))) 9)).cell? ⟨w.heap.size, 0, none⟩ = some (str (bareB s)) := by
    have := heap_alloc_new w (.cells (Lib.cellsOf D (min 2 (s.length + 1))) 9)
    unfold World.cell?
    rw [this]
    unfold Lib.cellsOf
    rw [hD']
    rfl
  have HC := Lib.hid hc
  obtain ⟨n, hn⟩ : ∃ n, n = D.length := ⟨_, rfl⟩
  rw [← hn] at HC hDl
  clear hc hd hD' hf hk0 hk hn hm
  go_enter Tryz.func43, Tryz.ntmps43
  go_wp2_with fail
  refine HC.out.mono ?_
  rintro e w1 ⟨rfl, rfl⟩
  have hin : (0 : Int) < n := by omega
  go_wp2_with fail
  go_ret
  exact ⟨rfl, (Below.refl _ _).alloc (Nat.le_refl _) _⟩
theorem prefix4 (tt id : List UInt8) (h : Lib.hasPrefix tt [99, 105, 100, 58] = true) : (tt == [99, 105, 100, 58] ++ id) = (id == tt.drop 4) := by
  unfold Lib.hasPrefix at h
  obtain ⟨r, hr⟩ := List.isPrefixOf_iff_prefix.1 h
  subst hr
  rw [Bool.eq_iff_iff, beq_iff_eq, beq_iff_eq]
  simp
  exact eq_comm
theorem chk_id (q : PartD) (h : chkD q = 0) : q.id.length ≤ 120 := by
  unfold chkD chkB at h
  split at h
  · cases h
  · rename_i h1
    cases hw : wordB q.id with
    | false => rw [hw] at h1; simp at h1
    | true =>
      unfold wordB at hw
      simp only [Bool.and_eq_true, decide_eq_true_eq] at hw
      exact hw.1
def BgRel (n : Nat) (F : List PartD) (L : List (List UInt8)) (gs : List GoalD) (w4 : World) (kv iv : Value) (wr : World) : Prop :=
  ∃ i k : Nat, iv = .int .i64 i ∧ kv = .int .i64 k ∧ i ≤ n ∧ k ≤ gs.length ∧ Below w4.heap.size w4 wr ∧ Hid (goalsF F L (F.drop i) (L.drop i) i (gs.take k) = some gs)
def BgRel2 (k0 m3 : Nat) (w6 : World) (kv jv : Value) (wr : World) : Prop :=
  ∃ j k : Nat, jv = .int .i64 j ∧ kv = .int .i64 k ∧ k = k0 + j ∧ j ≤ m3 ∧ Below w6.heap.size w6 wr
def BgRel3 (n : Nat) (F : List PartD) (L : List (List UInt8)) (LL : List UInt8) (fd : Int) (w8 : World) (tv : Value) (wr : World) : Prop :=
  ∃ t : Nat, tv = .int .i64 t ∧ t ≤ n ∧ Below w8.heap.size w8 wr ∧ Hid (LL ≠ [] → findF (F.drop t) (L.drop t) (bareB LL) t = fd)
theorem drop_map_get {F : List PartD} {i : Nat} {q1 : PartD} (hq1 : (F.map bareD).drop i = q1 :: (F.map bareD).drop (i + 1)) : ∃ q, F.drop i = q :: F.drop (i + 1) ∧ q1 = bareD q ∧ q ∈ F := by
  have hiF : i < F.length := by
    rcases Nat.lt_or_ge i F.length with h | h
    · exact h
    · rw [List.drop_of_length_le (by simpa using h)] at hq1; cases hq1
  have h1 := List.drop_eq_getElem_cons (l := F) (i := i) hiF
  rw [← List.map_drop, h1, List.map_cons] at hq1
  injection hq1 with hq1 _
  exact ⟨_, h1, hq1.symm, List.getElem_mem _⟩
set_option maxRecDepth 100000 in
set_option maxHeartbeats 8000000 in
theorem bundleGoals_walk (p : PartD) (v : List Value) (w : World) (hM : MaxLenOk w) (hp : PartAt (· < w.heap.size) w p v) :
    Calls Tryz.prog 7 #[.agg v.toArray] w (TruePost w) := by
  have hok := checkD_ok p
  have hal := fun W h => All_any p v W h
  have hgl := fun W hM h => Goals_any p v W hM h
  have hwh := fun W hM h => Where_any p v W hM h
  unfold AllOut at hal
  unfold GoalsOut at hgl
  unfold WhereOut at hwh
  have hws := whereD_small p
  have hwn := whereD_len p
  have hgE : (goalsE p).2 = 0 → checkD p = 0 ∧ goalsD p = some (goalsE p).1 := by
    intro h
    unfold goalsE at h ⊢
    by_cases hc : checkD p = 0
    · rw [if_pos hc] at h ⊢
      refine ⟨hc, ?_⟩
      cases hg : goalsD p with
      | none => rw [hg] at h; simp at h
      | some G => rfl
    · rw [if_neg hc] at h
      exact absurd h hc
  obtain ⟨A, c, A2, c2, rfl, _⟩ := hp.open
  obtain ⟨W, hW⟩ : ∃ W, W = w.alloc (.cells #[str p.type, str p.cs, str p.id, str p.loc, .int .i64 p.how, .slice A p.body.length c, .slice A2 p.parts.length c2] 25) := ⟨_, rfl⟩
  have hbW : Below w.heap.size w W := by rw [hW]; exact (Below.refl _ w).alloc (Nat.le_refl _) _
  have hbx : Box7 W w.heap.size (str p.type) (str p.cs) (str p.id) (str p.loc) (.int .i64 p.how) (.slice A p.body.length c) (.slice A2 p.parts.length c2) := by rw [hW]; exact Box7.new w _ _ _ _ _ _ _ _
  have Hal := Lib.hid hal
  have Hgl := Lib.hid hgl
  have Hwh := Lib.hid hwh
  have Hp := Lib.hid hp
  have HM := Lib.hid hM
  unfold goalsD at hgE
  clear hal hgl hwh hp hM
  generalize goalsE p = GE at *
  obtain ⟨gs, ge⟩ := GE
  generalize checkD p = K at *
  generalize whereD p = L at *
  generalize flatD p = F at *
  simp only at Hgl hgE
  by_cases hge : ge = 0
  · subst hge
    obtain ⟨hK, hgd⟩ := hgE rfl
    subst hK
    simp only [if_true] at Hal Hwh
    obtain ⟨h12, hch⟩ := hok rfl
    have hbod : ∀ q ∈ F, q.body.length ≤ 4000 := fun q hq => chk_body q (hch q hq)
    have Hbod := Lib.hid hbod
    have hids : ∀ q ∈ F, q.id.length ≤ 120 := fun q hq => chk_id q (hch q hq)
    have Hids := Lib.hid hids
    clear hids
    obtain ⟨n, hn⟩ : ∃ n, n = F.length := ⟨_, rfl⟩
    rw [← hn] at Hal Hwh h12 hwn
    obtain ⟨gn, hgn⟩ : ∃ gn, gn = gs.length := ⟨_, rfl⟩
    rw [← hgn] at Hgl
    have hgcap : gn ≤ 720 := by
      have := goalsF_len _ _ _ _ _ _ _ hgd
      simp only [List.length_nil, ← hn] at this
      omega
    have Hn := Lib.hid hn
    have Hgn := Lib.hid hgn
    have Hws := Lib.hid hws
    have Hwn := Lib.hid hwn
    have Hgd := Lib.hid hgd
    clear hok hch hbod hn hgn hws hwn hgd hgE
    go_enter Tryz.func7, Tryz.ntmps7
    go_wp2_with fail
    rw [← hW]
    clear hW
    refine (Hgl.out W (HM.out.below hbW) ((Hp.out.below hbW).more hbW.size)).mono ?_
    rintro e w1 ⟨S1, c1, rfl, hown1, hb1⟩
    have hbel1 := hbW.trans (hb1.mono hbW.size)
    have hbx1 := hbx.below hb1
    have Hs1 := Lib.hid (Sl.of_own hown1)
    clear hbx hb1 hbW Hgl hown1
    go_wp2_with fail
    refine (led_any w1 (HM.out.below hbel1)).mono ?_
    rintro e w2 ⟨rfl, hb2⟩
    have hbel2 := hbel1.trans (hb2.mono hbel1.size)
    have hbx2 := hbx1.below hb2
    have Hs2 := Lib.hid ((Sl.below Hs1.out hb2).more hb2.size)
    have ⟨x0, x1, x2, x3, x4, x5, x6⟩ := hbx2
    clear hbx1 hb2 Hs1
    go_wp2_with fail
    refine (Hal.out w2 ((Hp.out.below hbel2).more hbel2.size)).mono ?_
    rintro e w3 ⟨S3, c3, rfl, hs3, hc3, hm3, hb3⟩
    have hbel3 := hbel2.trans (hb3.mono hbel2.size)
    have hbx3 := hbx2.below hb3
    have Hg3 := Lib.hid ((Sl.below Hs2.out hb3).more hb3.size)
    have Ha3 := Lib.hid hs3
    clear x0 x1 x2 x3 x4 x5 x6 hbx2 hb3 Hs2 hs3 Hal
    have ⟨x0, x1, x2, x3, x4, x5, x6⟩ := hbx3
    go_wp2_with fail
    refine (Hwh.out w3 (HM.out.below hbel3) ((Hp.out.below hbel3).more hbel3.size)).mono ?_
    rintro e w4 ⟨S4, c4, rfl, hs4, hc4, hm4, hb4⟩
    have hbel4 := hbel3.trans (hb4.mono hbel3.size)
    have Hg4 := Lib.hid ((Sl.below Hg3.out hb4).more hb4.size)
    have Ha4 := Lib.hid ((Ha3.out.below hb4).more hb4.size)
    have Hw4 := Lib.hid hs4
    have Hbel4 := Lib.hid hbel4
    clear x0 x1 x2 x3 x4 x5 x6 hbx3 hb4 Hg3 Ha3 hs4 Hwh hbel4 hbel1 hbel2 hbel3
    go_wp2_with fail
    go_loopw [9, 59] (BgRel n F L gs w4) (fun _ iv _ => n - (intOf iv).toNat)
    case atStart => exact ⟨0, 0, rfl, rfl, Nat.zero_le _, Nat.zero_le _, Below.refl _ _, Lib.hid (by rw [List.drop_zero, List.drop_zero, List.take_zero]; exact Hgd.out)⟩
    case round =>
      obtain ⟨i, k, rfl, rfl, hi, hk, hbel, HS⟩ := hrel
      rw [← Hgn.out] at hk
      by_cases hin : i < n
      · obtain ⟨b, off, q1, A', n', c', A2', n2', c2'', hS3, hbS, hq1, hqa, y0, y1, y2, y3, y4, y5, y6⟩ := (Ha4.out.below hbel).cells7 hin
        subst hS3
        obtain ⟨q, hq, rfl, hqm⟩ := drop_map_get hq1
        have hbody := Hbod.out q hqm
        have hby : By wr w4.heap.size A' q.body.length q.body ∧ n' = q.body.length ∧ q.body.length ≤ c' ∧ c' ≤ maxLen := by
          obtain ⟨A3, c3, A4, c4, hv, _, hb3, hc3, hm3, _⟩ := hqa.open
          simp only [List.cons.injEq, and_true] at hv
          obtain ⟨_, _, _, _, _, h5, _⟩ := hv
          injection h5 with h5 h6 h7
          subst h5
          subst h7
          exact ⟨hb3.sl, h6, hc3, hm3⟩
        obtain ⟨hby, rfl, hbc, hbm⟩ := hby
        have hiL : i < L.length := by rw [Hwn.out]; exact hin
        have hdL := List.drop_eq_getElem_cons (l := L) (i := i) hiL
        obtain ⟨h, hh⟩ : ∃ h, h = L[i] := ⟨_, rfl⟩
        have hsl := Hws.out _ (List.getElem_mem hiL)
        rw [← hh] at hdL hsl
        have hstep : (if q.type = htmlB then (if (findE q.body).2 = 0 then goalsF F L (F.drop (i + 1)) (L.drop (i + 1)) (i + 1) (gs.take k ++ (findE q.body).1.map (goalOf F L i (fromG h))) else none) else goalsF F L (F.drop (i + 1)) (L.drop (i + 1)) (i + 1) (gs.take k)) = some gs := by
          have := HS.out
          rw [hq, hdL, goalsF] at this
          exact this
        have Hstep := Lib.hid hstep
        have Hsl := Lib.hid hsl
        simp only [bareD] at y0 y1 y2 y3 y4 y5 y6
        clear hstep hq hqm hdL hh HS hq1 hqa hsl
        go_upto_region 13 with fail
        obtain ⟨W1, hW1⟩ : ∃ W1, W1 = wr.alloc (.cells #[str q.type, str q.cs, str q.id, str q.loc, .int .i64 q.how, .slice A' q.body.length c', .slice A2' n2' c2''] 25) := ⟨_, rfl⟩
        have hbA : Below wr.heap.size wr W1 := by rw [hW1]; exact (Below.refl _ _).alloc (Nat.le_refl _) _
        have hX := Box7.new wr 25 (str q.type) (str q.cs) (str q.id) (str q.loc) (.int .i64 q.how) (.slice A' q.body.length c') (.slice A2' n2' c2'')
        rw [← hW1] at hX
        rw [← hW1]
        clear hW1
        have ⟨x0, x1, x2, x3, x4, x5, x6⟩ := hX
        have hbel1 := hbel.trans (hbA.mono hbel.size)
        have hby1 := (hby.below (hbA.mono hbel.size)).more hbel1.size
        clear y0 y1 y2 y3 y4 y5 y6 hbA hX hbel hby
        by_cases ht : q.type = htmlB
        · have ht1 : (q.type == [116, 101, 120, 116, 47, 104, 116, 109, 108]) = true := by rw [ht]; rfl
          have hFn := Find_any A' q.body.length c' q.body W1 (HM.out.below (Hbel4.out.trans (hbel1.mono Hbel4.out.size))) hby1 hbc hbm
          have HFn := Lib.hid hFn
          have hst := Hstep.out
          rw [if_pos ht] at hst
          have Ht := Lib.hid ht
          have Hst0 := Lib.hid hst
          clear hFn ht hby1 hst
          go_wp2_with fail
          refine HFn.out.mono ?_
          rintro e w6 ⟨S5, c5, rfl, hown5, hb6⟩
          have hlk := findE_text q.body
          have hl60 := findE_len q.body
          have hst := Hst0.out
          have hbel6 := hbel1.trans (hb6.mono hbel1.size)
          generalize findE q.body = T at *
          obtain ⟨ls, fe⟩ := T
          simp only at hown5 hlk hst hl60 ⊢
          obtain rfl : fe = 0 := by
            rcases Classical.em (fe = 0) with h | h
            · exact h
            · rw [if_neg h] at hst; cases hst
          rw [if_pos rfl] at hst
          obtain ⟨g1, g2, g3⟩ := goals_page (i := i + 1) (by rw [← Hgn.out]; exact hk) hst
          rw [Nat.add_sub_cancel] at g2 g3
          rw [g2] at hst
          rw [← Hgn.out] at g1
          have Hlk := Lib.hid hlk
          have Hst := Lib.hid hst
          have Hg3 := Lib.hid g3
          have Hl5 := Lib.hid (Sl.of_own hown5)
          obtain ⟨m3, hm3⟩ : ∃ m3, m3 = ls.length := ⟨_, rfl⟩
          rw [← hm3] at hl60 g1 Hst Hl5
          rw [← hm3]
          have Hm3 := Lib.hid hm3
          clear x0 x1 x2 x3 x4 x5 x6 HFn hlk hb6 hown5 hst g2 g3 hm3 Hst0 hbel1
          go_wp2_with fail
          go_loopw [9, 77] (BgRel2 k m3 w6) (fun _ jv _ => m3 - (intOf jv).toNat)
          case atStart => exact ⟨0, k, rfl, rfl, rfl, Nat.zero_le _, Below.refl _ _⟩
          case round =>
            obtain ⟨j, kj, rfl, rfl, hkj, hj, hbelx⟩ := hrel
            by_cases hjm : j < m3
            · obtain ⟨bl, offl, x, hS5, hbl, hdl, l0, l1, l2⟩ := Sl.link Hl5.out j hjm
              subst hS5
              have hxm : x ∈ ls := List.mem_of_mem_drop (by rw [hdl]; simp)
              have hxt := Hlk.out x hxm
              have hgk : gs[kj]? = some (goalOf F L i (fromG h) x) := by
                have hjl : j < ls.length := by rw [← Hm3.out]; exact hjm
                have e1 : ls[j] = x := by rw [List.drop_eq_getElem_cons hjl] at hdl; injection hdl
                have := Hg3.out j hjl
                rw [e1] at this
                rw [hkj]
                exact this
              have hbelw := hbel6.trans (hbelx.mono hbel6.size)
              obtain ⟨bg, offg, gx, hS1, hbg, hgx, hgc⟩ := Sl.goal Hg4.out kj (by omega)
              subst hS1
              rw [hgk] at hgx
              have hgx := Option.some.inj hgx
              obtain ⟨LL, hLL⟩ : ∃ LL, LL = ledB (fromG h) x.text := ⟨_, rfl⟩
              obtain ⟨fd, hfd⟩ : ∃ fd, fd = (if LL = [] then (-1 : Int) else findG F L LL) := ⟨_, rfl⟩
              have hgxx : gx = ⟨i, x, LL, fd⟩ := by rw [← hgx, hfd, hLL]; rfl
              subst hgxx
              have hLLn : LL.length ≤ 605 := by rw [hLL]; exact ledB_len _ _
              have hLe : LL ≠ [] → ∃ xu, readU LL = (xu, 0) := by
                intro hne
                obtain ⟨xu, h1, _⟩ := led_led (f := fromG h) (t := x.text) (by rw [← hLL]; exact hne)
                rw [← hLL] at h1
                exact ⟨xu, h1⟩
              have hrange : -1 ≤ fd ∧ fd < n := by
                rw [hfd]
                split
                · omega
                · have := findF_range F L (bareB LL) 0
                  rw [← Hn.out, Nat.zero_add] at this
                  exact this
              have hfE : LL = [] → fd = -1 := fun e => by rw [hfd, if_pos e]
              have hfF : LL ≠ [] → findF F L (bareB LL) 0 = fd := fun e => by rw [hfd, if_neg e]; rfl
              have k0 := (hbelx.cell (p := ⟨bl, offl + j * 3, none⟩) hbl).trans l0
              have k1 := (hbelx.cell (p := ⟨bl, offl + j * 3 + 1, none⟩) hbl).trans l1
              have k2 := (hbelx.cell (p := ⟨bl, offl + j * 3 + 2, none⟩) hbl).trans l2
              have hd : ∀ c u, (goalCells ⟨i, x, LL, fd⟩)[c]? = some u → ∀ wx, Below w4.heap.size w4 wx → wx.cell? ⟨bg, offg + kj * 6 + c, none⟩ = some u := by
                intro c u hu wx hb
                rw [Nat.add_assoc, hb.cell (by exact hbg)]
                exact hgc c u hu
              have HD := Lib.hid hd
              have HLe := Lib.hid hLe
              have HfE := Lib.hid hfE
              have HfF := Lib.hid hfF
              have Hkj := Lib.hid hkj
              have hkj1 : (kj : Int) < gn := by omega
              have ekj : ((kj : Int) == (gn : Int)) = false := by simp; omega
              clear l0 l1 l2 hxm hdl hgc hgk hgx hfd hLL hLe hfE hfF hd
              go_upto_region 20 with fail
              obtain ⟨W3, hW3⟩ : ∃ W3, W3 = wr.alloc (.cells #[.int .i64 (x.frm : Nat), .int .i64 (x.til : Nat), str x.text] 53) := ⟨_, rfl⟩
              have hbA : Below wr.heap.size wr W3 := by rw [hW3]; exact (Below.refl _ _).alloc (Nat.le_refl _) _
              have hxb : W3.heap[wr.heap.size]? = some (.cells #[.int .i64 (x.frm : Nat), .int .i64 (x.til : Nat), str x.text] 53) := by rw [hW3]; exact heap_alloc_new wr _
              rw [← hW3]
              clear hW3 hkj
              have c0 : W3.cell? ⟨wr.heap.size, 0, none⟩ = some (.int .i64 (x.frm : Nat)) := by unfold World.cell?; rw [hxb]; rfl
              have c1 : W3.cell? ⟨wr.heap.size, 1, none⟩ = some (.int .i64 (x.til : Nat)) := by unfold World.cell?; rw [hxb]; rfl
              have c2 : W3.cell? ⟨wr.heap.size, 2, none⟩ = some (str x.text) := by unfold World.cell?; rw [hxb]; rfl
              have hbel3 := hbelx.trans (hbA.mono hbelx.size)
              have hbelw3 := hbel6.trans (hbel3.mono hbel6.size)
              have d0 : W3.cell? ⟨bg, offg + kj * 6, none⟩ = some (.int .i64 (i : Nat)) := HD.out 0 _ rfl W3 hbelw3
              have d1 := HD.out 1 _ rfl W3 hbelw3
              have d2 := HD.out 2 _ rfl W3 hbelw3
              have d3 := HD.out 3 _ rfl W3 hbelw3
              have e2 : W3.cell? ⟨bg, offg + kj * 6 + 1 + 1, none⟩ = some (.int .i64 (x.til : Nat)) := d2
              have e3 : W3.cell? ⟨bg, offg + kj * 6 + 1 + 2, none⟩ = some (str x.text) := d3
              have hneq : ∀ X, (binOp .neq 53 (.agg #[.int .i64 (x.frm : Nat), .int .i64 (x.til : Nat), str x.text]) (.agg #[.int .i64 (x.frm : Nat), .int .i64 (x.til : Nat), str x.text])).run Tryz.prog X = .ok (.bool false) X := by
                intro X
                rw [neq_link]
                simp
              clear k0 k1 k2 hxb hbA hbelw
              go_cut [102] from 81 to 101 (fun s102 wx => s102 = .bool false ∧ ∃ q, wx = W3.drewN q)
              case first =>
                go_quiet (fail)
                go_wp2_with fail
                go_meet
                exact ⟨rfl, _, rfl⟩
              case rest =>
                obtain ⟨rfl, q3, rfl⟩ := hcut
                clear hneq d0 d1 d2 d3 e2 e3 c0 c1 c2
                have hbel3' := belN hbel3 q3
                have hbelw3' := belN hbelw3 q3
                clear hbel3 hbelw3
                generalize W3.drewN q3 = w7 at *
                clear W3
                have d2 := HD.out 4 _ rfl w7 hbelw3'
                have KP := Lib.hid (fun X => Parse_any LL X (by unfold maxLen; omega))
                have HLe2 : ∀ xu xe, readU LL = (xu, xe) → LL ≠ [] → xe = 0 := by
                  intro xu xe h1 h2
                  obtain ⟨xu', h3⟩ := HLe.out h2
                  rw [h1] at h3
                  injection h3
                obtain ⟨xu, xe, hru⟩ : ∃ xu xe, readU LL = (xu, xe) := ⟨_, _, rfl⟩
                have HLx := Lib.hid (HLe2 xu xe hru)
                rw [hru] at KP
                simp only [UrlD.val] at KP
                clear HLe2 hru
                go_wp2_with fail
                refine (KP.out _).mono ?_
                rintro e w8 ⟨rfl, hb8⟩
                clear d2
                obtain ⟨w9, hw9⟩ : ∃ w9, w9 = w8.alloc (.cells #[str xu.scheme, .bool xu.hasHost, str xu.host, str xu.path, .bool xu.hasQuery, str xu.query, .bool xu.hasFrag, str xu.frag] 66) := ⟨_, rfl⟩
                have hb9 : Below w8.heap.size w8 w9 := by rw [hw9]; exact (Below.refl _ _).alloc (Nat.le_refl _) _
                have hb79 := hb8.trans (hb9.mono hb8.size)
                have hbel9 := hbel3'.trans (hb79.mono hbel3'.size)
                have hbelw9 := hbelw3'.trans (hb79.mono hbelw3'.size)
                clear hb8 hb9 hb79 hbel3' hbelw3'
                have z4 := HD.out 4 _ rfl w9 hbelw9
                have z5 := HD.out 5 _ rfl w9 hbelw9
                go_upto_region 23 with fail
                rw [← hw9]
                clear hw9
                go_cut [155] from 112 to 154 (fun s155 wx => s155 = .bool false ∧ w9 = wx)
                case first =>
                  by_cases hl0 : LL = []
                  · have l1 : (LL == []) = true := by rw [hl0]; rfl
                    obtain rfl := HfE.out hl0
                    have hn0 : (n : Int) > -1 := by omega
                    have hn1 : decide ((n : Int) ≤ -1) = false := by simp; omega
                    have Hl0 := Lib.hid hl0
                    clear hl0
                    go_wp2_with fail
                    go_meet
                    exact ⟨rfl, rfl⟩
                  · have l1 : (LL == []) = false := by simpa using hl0
                    obtain rfl := HLx.out hl0
                    have r1 : ¬ fd < -1 := by omega
                    have r2 : decide (fd < -1) = false := by simp; omega
                    have r3 : decide ((n : Int) ≤ fd) = false := by simp; omega
                    have Hl0 := Lib.hid hl0
                    clear hl0
                    go_wp2_with fail
                    go_meet
                    exact ⟨rfl, rfl⟩
                case rest =>
                  obtain ⟨rfl, hwc⟩ := hcut
                  subst hwc
                  clear z4 z5
                  go_wp2_with fail
                  go_loopw [158] (BgRel3 n F L LL fd w9) (fun tv _ => n - (intOf tv).toNat)
                  case atStart => exact ⟨0, rfl, Nat.zero_le _, Below.refl _ _, Lib.hid (fun hne => by rw [List.drop_zero, List.drop_zero]; exact HfF.out hne)⟩
                  case round =>
                    obtain ⟨t, rfl, htn, hbelt, HF⟩ := hrel
                    by_cases htl : t < n
                    · obtain ⟨bb, offb, z1, A8, n8, c8, A9, n9, c9, hS3', hbb, hz1, _, y0, y1, y2, y3, y4, y5, y6⟩ := (Ha4.out.below (hbelw9.trans (hbelt.mono hbelw9.size))).cells7 htl
                      injection hS3' with hS3'
                      injection hS3' with hb1 hb2
                      subst hb1
                      subst hb2
                      obtain ⟨z, hz, rfl, hzm⟩ := drop_map_get hz1
                      have hidl := Hids.out z hzm
                      obtain ⟨bt, offt, u, hS4, hbt, hu, hcu⟩ := Hw4.out.at_ htl
                      subst hS4
                      have htL : t < L.length := by rw [Hwn.out]; exact htl
                      have hdL := List.drop_eq_getElem_cons (l := L) (i := t) htL
                      rw [List.getElem?_map, List.getElem?_eq_getElem htL] at hu
                      injection hu with hu
                      obtain ⟨ht, hht⟩ : ∃ ht, ht = L[t] := ⟨_, rfl⟩
                      have hhl := Hws.out _ (List.getElem_mem htL)
                      rw [← hht] at hdL hu hhl
                      subst hu
                      have hstepF : LL ≠ [] → (if isB (bareB LL) z ht then (t : Int) else findF (F.drop (t + 1)) (L.drop (t + 1)) (bareB LL) (t + 1)) = fd := by
                        intro hne
                        have := HF.out hne
                        rw [hz, hdL, findF] at this
                        exact this
                      simp only [bareD] at y0 y1 y2 y3 y4 y5 y6
                      have HsF := Lib.hid hstepF
                      have KB := Lib.hid (fun X (h : MaxLenOk X) => bareL_any LL X h (by omega))
                      have KH := Lib.hid (fun X (h : MaxLenOk X) => bareL_any ht X h (by omega))
                      have KM := Lib.hid (fun X => Many_any z.type X)
                      clear hstepF hz1 hz hzm hdL hht HF
                      go_upto_region 28 with fail
                      obtain ⟨W5, hW5⟩ : ∃ W5, W5 = wr.alloc (.cells #[str z.type, str z.cs, str z.id, str z.loc, .int .i64 z.how, .slice A8 n8 c8, .slice A9 n9 c9] 25) := ⟨_, rfl⟩
                      have hbA : Below wr.heap.size wr W5 := by rw [hW5]; exact (Below.refl _ _).alloc (Nat.le_refl _) _
                      have hX := Box7.new wr 25 (str z.type) (str z.cs) (str z.id) (str z.loc) (.int .i64 z.how) (.slice A8 n8 c8) (.slice A9 n9 c9)
                      rw [← hW5] at hX
                      rw [← hW5]
                      clear hW5 y0 y1 y2 y3 y4 y5 y6
                      have hbel5 := hbelt.trans (hbA.mono hbelt.size)
                      have hbelw5 := hbelw9.trans (hbel5.mono hbelw9.size)
                      have hM5 : MaxLenOk W5 := HM.out.below (Hbel4.out.trans (hbelw5.mono Hbel4.out.size))
                      have z4 := HD.out 4 _ rfl W5 hbelw5
                      clear hbA
                      go_wp2_with fail
                      refine (KB.out _ hM5).mono ?_
                      rintro e wa ⟨rfl, hba⟩
                      have hXa := hX.below hba
                      have hbela := hbel5.trans (hba.mono hbel5.size)
                      have hbelwa := hbelw5.trans (hba.mono hbelw5.size)
                      have hMa : MaxLenOk wa := HM.out.below (Hbel4.out.trans (hbelwa.mono Hbel4.out.size))
                      have HMa := Lib.hid hMa
                      clear hX hba hbel5 hbelw5 hM5 z4 KB hMa
                      obtain ⟨tt, htt⟩ : ∃ tt, tt = bareB LL := ⟨_, rfl⟩
                      rw [← htt]
                      obtain ⟨bh, hbh⟩ : ∃ bh, bh = bareB ht := ⟨_, rfl⟩
                      rw [← hbh] at KH
                      obtain ⟨b1, hb1⟩ : ∃ b1, b1 = (!(z.loc == []) && (!(ht == []) && (bh == tt))) := ⟨_, rfl⟩
                      have Htt := Lib.hid htt
                      have Hbh := Lib.hid hbh
                      have Hb1 := Lib.hid hb1
                      clear htt hbh hb1
                      have u0 : wa.cell? ⟨bt, offt + t, none⟩ = some (str ht) := by rw [hbelwa.cell (by exact hbt)]; exact hcu
                      have ⟨x0, x1, x2, x3, x4, x5, x6⟩ := hXa
                      go_upto_region 29 with fail
                      go_cut [21] from 170 to 189 (fun s21 wx => s21 = .bool b1 ∧ Below wa.heap.size wa wx)
                      case first =>
                        have hb1 := Hb1.out
                        by_cases h1 : z.loc = []
                        · have d1 : (z.loc == []) = true := by rw [h1]; rfl
                          have Hh1 := Lib.hid h1
                          rw [d1] at hb1
                          have HB := Lib.hid hb1
                          clear h1 hb1
                          go_wp2_with fail
                          go_meet
                          exact ⟨by rw [HB.out]; rfl, Below.refl _ _⟩
                        · have d1 : (z.loc == []) = false := by simpa using h1
                          have Hh1 := Lib.hid h1
                          rw [d1] at hb1
                          clear h1
                          by_cases h2 : ht = []
                          · have d2 : (ht == []) = true := by rw [h2]; rfl
                            have Hh2 := Lib.hid h2
                            rw [d2] at hb1
                            have HB := Lib.hid hb1
                            clear h2 hb1
                            go_wp2_with fail
                            go_meet
                            exact ⟨by rw [HB.out]; rfl, Below.refl _ _⟩
                          · have d2 : (ht == []) = false := by simpa using h2
                            have Hh2 := Lib.hid h2
                            rw [d2] at hb1
                            have HB := Lib.hid hb1
                            clear h2 hb1
                            go_wp2_with fail
                            refine (KH.out _ HMa.out).mono ?_
                            rintro e wh ⟨rfl, hbh⟩
                            go_wp2_with fail
                            go_meet
                            exact ⟨by rw [HB.out]; simp, hbh⟩
                      case rest =>
                        obtain ⟨rfl, hbb1⟩ := hcut
                        clear u0 x0 x1 x2 x3 x4 x5 x6
                        have hXb := hXa.below hbb1
                        have hbelb := hbela.trans (hbb1.mono hbela.size)
                        have hbelwb := hbelwa.trans (hbb1.mono hbelwa.size)
                        clear hXa hbela hbelwa hbb1
                        obtain ⟨wz, hwz⟩ : ∃ wz, wz = wc := ⟨_, rfl⟩
                        rw [← hwz] at hXb hbelb hbelwb ⊢
                        clear hwz
                        obtain ⟨cid, hcid⟩ : ∃ cid, cid = Lib.hasPrefix tt [99, 105, 100, 58] := ⟨_, rfl⟩
                        have KP2 := Lib.hid (fun X => HasPrefix_any tt [99, 105, 100, 58] X)
                        rw [← hcid] at KP2
                        have Hcid := Lib.hid hcid
                        clear hcid
                        have ⟨x0, x1, x2, x3, x4, x5, x6⟩ := hXb
                        obtain ⟨b2, hb2⟩ : ∃ b2, b2 = (if cid then !(z.id == []) && (tt == [99, 105, 100, 58] ++ z.id) else b1) := ⟨_, rfl⟩
                        have Hb2 := Lib.hid hb2
                        clear hb2
                        go_wp2_with fail
                        refine (KP2.out _).mono ?_
                        rintro e wp ⟨rfl, rfl⟩
                        go_upto_if 191 with (fail)
                        go_cut [21] from 190 to 201 (fun s21 wx => s21 = .bool b2 ∧ wz = wx)
                        case first =>
                          have hb2 := Hb2.out
                          cases cid
                          · simp only [Bool.false_eq_true, if_false] at hb2
                            have HB := Lib.hid hb2
                            clear hb2
                            go_wp2_with fail
                            go_meet
                            exact ⟨by rw [HB.out], rfl⟩
                          · simp only [if_true] at hb2
                            by_cases h1 : z.id = []
                            · have d1 : (z.id == []) = true := by rw [h1]; rfl
                              have Hh1 := Lib.hid h1
                              rw [d1] at hb2
                              have HB := Lib.hid hb2
                              clear h1 hb2
                              go_wp2_with fail
                              go_meet
                              exact ⟨by rw [HB.out]; rfl, rfl⟩
                            · have d1 : (z.id == []) = false := by simpa using h1
                              have Hh1 := Lib.hid h1
                              rw [d1] at hb2
                              have HB := Lib.hid hb2
                              clear h1 hb2
                              go_wp2_with fail
                              go_meet
                              exact ⟨by rw [HB.out]; simp, rfl⟩
                        case rest =>
                          obtain ⟨rfl, hwc⟩ := hcut
                          subst hwc
                          have z4 := HD.out 4 _ rfl wz hbelwb
                          have z5 := HD.out 5 _ rfl wz hbelwb
                          generalize hmm : manyB z.type = mm at KM
                          obtain ⟨b3, hb3⟩ : ∃ b3, b3 = (b2 && (!(LL == []) && !mm)) := ⟨_, rfl⟩
                          have Hb3 := Lib.hid hb3
                          have Hmm := Lib.hid hmm
                          clear hb3 hmm
                          go_upto_region 32 with fail
                          go_cut [216] from 202 to 215 (fun s216 wx => s216 = .bool b3 ∧ wz = wx)
                          case first =>
                            have hb3 := Hb3.out
                            cases b2
                            · rw [Bool.false_and] at hb3
                              have HB := Lib.hid hb3
                              clear hb3
                              go_wp2_with fail
                              go_meet
                              exact ⟨by rw [HB.out], rfl⟩
                            · rw [Bool.true_and] at hb3
                              by_cases hl0 : LL = []
                              · have l1 : (LL == []) = true := by rw [hl0]; rfl
                                have Hl0 := Lib.hid hl0
                                rw [l1] at hb3
                                have HB := Lib.hid hb3
                                clear hl0 hb3
                                go_wp2_with fail
                                go_meet
                                exact ⟨by rw [HB.out]; rfl, rfl⟩
                              · have l1 : (LL == []) = false := by simpa using hl0
                                have Hl0 := Lib.hid hl0
                                rw [l1] at hb3
                                have HB := Lib.hid hb3
                                clear hl0 hb3
                                go_wp2_with fail
                                refine (KM.out _).mono ?_
                                rintro e wm ⟨rfl, rfl⟩
                                go_wp2_with fail
                                go_meet
                                exact ⟨by rw [HB.out]; simp, rfl⟩
                          case rest =>
                            obtain ⟨rfl, hwc⟩ := hcut
                            subst hwc
                            have his : b3 = (!(LL == []) && isB tt z ht) := by
                              rw [Hb3.out, Hb2.out, Hb1.out, Hbh.out]
                              unfold isB
                              rw [← Hcid.out, Hmm.out]
                              cases hcc : cid with
                              | false => cases mm <;> cases (LL == []) <;> simp
                              | true =>
                                have h1 := Hcid.out
                                rw [hcc] at h1
                                simp only [if_true]
                                rw [prefix4 tt z.id h1.symm]
                                cases mm <;> cases (LL == []) <;> simp
                            rw [Htt.out] at his
                            clear x0 x1 x2 x3 x4 x5 x6
                            cases b3
                            · have hno : LL ≠ [] → isB (bareB LL) z ht = false := by
                                intro hne
                                have l1 : (LL == []) = false := by simpa using hne
                                rw [l1] at his
                                simpa using his.symm
                              have Hno := Lib.hid hno
                              clear his hno
                              go_wp2_with fail
                              refine ⟨⟨t + 1, by go_num, by omega, hbelb, Lib.hid fun hne => ?_⟩, by simp [intOf]; omega⟩
                              have := HsF.out hne
                              rw [Hno.out hne] at this
                              simpa using this
                            · have hyes : LL ≠ [] ∧ isB (bareB LL) z ht = true := by
                                cases hl : (LL == []) with
                                | true => rw [hl] at his; simp at his
                                | false =>
                                  rw [hl] at his
                                  exact ⟨by simpa using hl, by simpa using his.symm⟩
                              have hft := HsF.out hyes.1
                              rw [hyes.2, if_pos rfl] at hft
                              subst hft
                              have Hyes := Lib.hid hyes
                              have hbelz := hbel9.trans (hbelb.mono hbel9.size)
                              have Hbelz := Lib.hid hbelz
                              clear his hyes hbelz
                              go_wp2_with fail
                              exact ⟨⟨j + 1, kj + 1, by go_num, by go_num, by have := Hkj.out; omega, by omega, Hbelz.out⟩, by simp [intOf]; omega⟩
                    · obtain rfl : t = n := by omega
                      have hbelz := hbel9.trans (hbelt.mono hbel9.size)
                      have Hbelz := Lib.hid hbelz
                      clear hbelz hbelt hbel9 hbelw9
                      go_wp2_with fail
                      exact ⟨⟨j + 1, kj + 1, by go_num, by go_num, by have := Hkj.out; omega, by omega, Hbelz.out⟩, by simp [intOf]; omega⟩
            · obtain rfl : j = m3 := by omega
              have Hkj := Lib.hid hkj
              have hbely := hbel6.trans (hbelx.mono hbel6.size)
              clear hkj
              go_wp2_with fail
              refine ⟨⟨i + 1, kj, by go_num, rfl, by omega, by rw [← Hgn.out, Hkj.out]; exact g1, hbely, Lib.hid ?_⟩, by simp [intOf]; omega⟩
              rw [Hkj.out]
              exact Hst.out
        · have ht1 : (q.type == [116, 101, 120, 116, 47, 104, 116, 109, 108]) = false := by simpa [htmlB] using ht
          have hst := Hstep.out
          rw [if_neg ht] at hst
          have Hst := Lib.hid hst
          clear hst ht
          go_wp2_with fail
          exact ⟨⟨i + 1, k, by go_num, rfl, by omega, by rw [← Hgn.out]; exact hk, hbel1, Hst⟩, by simp [intOf]; omega⟩
      · obtain rfl : i = n := by omega
        have hb := Hbel4.out.trans (hbel.mono Hbel4.out.size)
        have hfin := HS.out
        rw [List.drop_eq_nil_of_le (by rw [← Hn.out]; exact Nat.le_refl _), goalsF] at hfin
        injection hfin with hfin
        have hkn : k = gn := by
          have := congrArg List.length hfin
          rw [List.length_take, ← Hgn.out] at this
          omega
        subst hkn
        clear hfin
        have hkk : ((k : Int) == (k : Int)) = true := by simp
        go_wp2_with fail
        go_ret
        exact ⟨rfl, hb⟩
  · have hK1 : ((ge : Int) != 0) = true := by simp; omega
    have Hge := Lib.hid hge
    clear hok hge hgE
    go_enter Tryz.func7, Tryz.ntmps7
    go_wp2_with fail
    rw [← hW]
    clear hW
    refine (Hgl.out W (HM.out.below hbW) ((Hp.out.below hbW).more hbW.size)).mono ?_
    rintro e w1 ⟨S1, c1, rfl, hown1, hb1⟩
    have hbel1 := hbW.trans (hb1.mono hbW.size)
    clear hbx hb1 hbW Hal hown1
    go_wp2_with fail
    refine (led_any w1 (HM.out.below hbel1)).mono ?_
    rintro e w2 ⟨rfl, hb2⟩
    have hbel2 := hbel1.trans (hb2.mono hbel1.size)
    clear hb2
    go_wp2_with fail
    refine (led_any w2 (HM.out.below hbel2)).mono ?_
    rintro e w3 ⟨rfl, hb3⟩
    have hbel3 := hbel2.trans (hb3.mono hbel2.size)
    go_wp2_with fail
    go_ret
    exact ⟨rfl, hbel3⟩
end Go.Proofs.YtlbdnohnngkapaaGreatDoor

namespace Go.Proofs.YtlbdnohnngkapaaGreatDoor
open Go.ChangeShapes Go.WideShapes Go.ChangeAt Go.RowKit
open Go.ChangeMaps (open_string shut_string)

theorem own : ownKnob Tryz.prog.godebug = none := by kernel_rfl
theorem laidOut : laidOutB Tryz.prog = true := by kernel_rfl

theorem bd64 {n : Int} (h : (Lit.int .i64 n).wf = true) : -9223372036854775808 ≤ n ∧ n ≤ 9223372036854775807 := bounds_i64 h

/-- What the walk is told of a slice of integers that came in. -/
def IsRow (k : IntKind) (w : World) (a : Option Addr) (len cap : Nat) (zs : List Int) : Prop :=
  (a = none ∧ len = 0 ∧ cap = 0 ∧ zs = []) ∨
  ∃ x, a = some x ∧ len ≤ cap ∧ cap ≤ maxLen ∧ zs.length = cap ∧ (∀ i, i < zs.length → w.cell? (x.add i) = some (.int k (zs.getD i 0))) ∧ ∀ n ∈ zs, (Lit.int k n).wf = true

theorem cell_lt {w : World} {a : Addr} {v : Value} (h : w.cell? a = some v) : a.block < w.heap.size := by
  rcases Nat.lt_or_ge a.block w.heap.size with h' | h'
  · exact h'
  · simp [World.cell?, Array.getElem?_eq_none h'] at h

/-- A slice of bytes that came in, as a list of bytes. -/
theorem IsRow.toBy {w : World} {a : Option Addr} {len cap : Nat} {zs : List Int} (h : IsRow .u8 w a len cap zs) : ∃ l, By w w.heap.size a len l ∧ len ≤ cap ∧ cap ≤ maxLen := by
  rcases h with ⟨rfl, rfl, rfl, rfl⟩ | ⟨x, rfl, hl, hm, hz, hcell, hwf⟩
  · exact ⟨[], By.nil_ _ _ _, Nat.le_refl _, Nat.zero_le _⟩
  · refine ⟨(zs.take len).map fun z => UInt8.ofNat z.toNat, ⟨by simp [Lib.byteCells]; omega, fun h0 => ?_⟩, hl, hm⟩
    obtain ⟨b, off, rfl, hc⟩ := ints_at hcell (by omega)
    refine ⟨b, off, rfl, ?_, fun j u hu => ?_⟩
    · exact cell_lt (hc 0 (by omega))
    · have hj : j < len := by
        rcases Nat.lt_or_ge j len with h' | h'
        · exact h'
        · rw [List.getElem?_eq_none (by simp [Lib.byteCells]; omega)] at hu; cases hu
      have hjz : j < zs.length := by omega
      rw [hc j hjz]
      have hmem : zs[j] ∈ zs := List.getElem_mem hjz
      have hb := bounds_u8 (hwf _ hmem)
      have e : ((UInt8.ofNat zs[j].toNat).toNat : Int) = zs[j] := by rw [UInt8.toNat_ofNat']; omega
      have e2 : (Lib.byteCells ((zs.take len).map fun z => UInt8.ofNat z.toNat))[j]? = some (.int .u8 ((UInt8.ofNat zs[j].toNat).toNat : Int)) := by
        simp [Lib.byteCells, hj, hjz]
      rw [e2] at hu
      rw [← hu, e]
      simp [List.getD, hjz]
end Go.Proofs.YtlbdnohnngkapaaGreatDoor

namespace Go.Proofs.YtlbdnohnngkapaaGreatDoor
open Go.ChangeShapes Go.WideShapes Go.ChangeAt Go.RowKit Go.Deep

theorem partStruct : Tryz.prog.cellsOf 25 = 7 := by kernel_rfl
theorem cell_lt' {w : World} {b o : Nat} {v : Value} (h : w.cell? ⟨b, o, none⟩ = some v) : b < w.heap.size := cell_lt (a := ⟨b, o, none⟩) h
theorem plain_at {w : World} {a : Addr} {v : Value} (h : w.cell? (a.add 0) = some v) : ∃ b off, a = ⟨b, off, none⟩ := by
  obtain ⟨b, off, spot⟩ := a
  have hspot : spot = none := by
    simpa [Addr.add] using World.cell?_spot h
  subst hspot
  exact ⟨b, off, rfl⟩

section
variable {H : Type} {enc : TypeId × Value → H} {w : World} {base : Nat} {held : Bool}
set_option maxRecDepth 100000 in
theorem part_of_trod : ∀ (k fuel : Nat) (cs : List Value) (x : DataW H × List MemPlace), fuel ≤ k → DataW.trod enc Tryz.prog w base (fun _ => true) held fuel 25 cs = some x → ∃ p, PartAt (· < w.heap.size) w p cs := by
  intro k
  induction k with
  | zero =>
    intro fuel cs x hk h
    have : fuel = 0 := by omega
    subst this
    simp [DataW.trod] at h
  | succ k ih =>
    intro fuel cs x hk h
    obtain ⟨xs, n, hfu, _, hl, hxl, hf⟩ := DataW.trod_struct Tryz.underlying25 h
    rw [partStruct] at hl
    match cs, hl with
    | [c0, c1, c2, c3, c4, c5, c6], _ =>
      match xs, hxl with
      | [x0, x1, x2, x3, x4, x5, x6], _ =>
        have h0 : DataW.trod enc Tryz.prog w base (fun _ => true) held n 9 [c0] = some x0 := hf 0 _ rfl
        have h1 : DataW.trod enc Tryz.prog w base (fun _ => true) held n 9 [c1] = some x1 := hf 1 _ rfl
        have h2 : DataW.trod enc Tryz.prog w base (fun _ => true) held n 9 [c2] = some x2 := hf 2 _ rfl
        have h3 : DataW.trod enc Tryz.prog w base (fun _ => true) held n 9 [c3] = some x3 := hf 3 _ rfl
        have h4 : DataW.trod enc Tryz.prog w base (fun _ => true) held n 3 [c4] = some x4 := hf 4 _ rfl
        have h5 : DataW.trod enc Tryz.prog w base (fun _ => true) held n 22 [c5] = some x5 := hf 5 _ rfl
        have h6 : DataW.trod enc Tryz.prog w base (fun _ => true) held n 23 [c6] = some x6 := hf 6 _ rfl
        obtain ⟨s0, e0, _, b0⟩ := DataW.trod_string Tryz.underlying9 h0
        obtain ⟨s1, e1, _, b1⟩ := DataW.trod_string Tryz.underlying9 h1
        obtain ⟨s2, e2, _, b2⟩ := DataW.trod_string Tryz.underlying9 h2
        obtain ⟨s3, e3, _, b3⟩ := DataW.trod_string Tryz.underlying9 h3
        obtain ⟨i4, e4, _, b4⟩ := DataW.trod_int Tryz.underlying3 h4
        simp only [List.cons.injEq, and_true] at e0 e1 e2 e3 e4
        subst e0 e1 e2 e3 e4
        obtain ⟨hlo, hhi⟩ := bounds_i64 b4
        have hby : ∃ A n c l, c5 = .slice A n c ∧ By w w.heap.size A n l ∧ n ≤ c ∧ c ≤ maxLen := by
          rcases open_ints Tryz.underlying22 Tryz.underlying5 (by kernel_rfl) h5 with ⟨hcs, _⟩ | ⟨y, l, c, zs, hcs, _, hl, hm, hz, _, hcell, hwz⟩
          · simp only [List.cons.injEq, and_true] at hcs
            exact ⟨none, 0, 0, [], hcs, By.nil_ _ _ _, Nat.le_refl _, Nat.zero_le _⟩
          · simp only [List.cons.injEq, and_true] at hcs
            have hr : IsRow .u8 w (some y) l c zs := .inr ⟨y, rfl, hl, hm, by simpa using hz, hcell, hwz⟩
            obtain ⟨bl, hb, hle, hmx⟩ := hr.toBy
            exact ⟨some y, l, c, bl, hcs, hb, hle, hmx⟩
        have hps : ∃ A n c ps rows, c6 = .slice A n c ∧ SlS (· < w.heap.size) w 7 A n rows.flatten ∧ PartsAt (· < w.heap.size) w ps rows ∧ n ≤ c ∧ c ≤ maxLen := by
          rcases DataW.trod_slice Tryz.underlying23 h6 with ⟨hcs, _⟩ | ⟨a, len, cap, elems, rest, n', hfu', hcs, _, hb, hl, hm, hlen, hel, hsp, hns⟩
          · simp only [List.cons.injEq, and_true] at hcs
            exact ⟨none, 0, 0, [], [], hcs, ⟨rfl, fun h => absurd h (by omega)⟩, rfl, Nat.le_refl _, Nat.zero_le _⟩
          · simp only [List.cons.injEq, and_true] at hcs
            have hone : ∀ i, i < len → ∃ (q : PartD × List Value), w.cells? base (a.add (i * 7)) 7 = some q.2 ∧ PartAt (· < w.heap.size) w q.1 q.2 := by
              intro i hi
              have h1 := hel i hi
              rw [partStruct, List.getElem?_eq_getElem (by omega)] at h1
              obtain ⟨cs', hc', ht'⟩ := Option.bind_eq_some_iff.1 h1
              obtain ⟨p, hp⟩ := ih n' cs' _ (by omega) ht'
              exact ⟨(p, cs'), hc', hp⟩
            haveI : Inhabited (PartD × List Value) := ⟨(⟨[], [], [], [], 0, [], []⟩, [])⟩
            obtain ⟨f, hfp⟩ := choose_lt hone
            refine ⟨some a, len, cap, (List.range len).map (fun i => (f i).1), (List.range len).map (fun i => (f i).2), hcs, ?_, ?_, hl, hm⟩
            · have h7 : ∀ r ∈ (List.range len).map (fun i => (f i).2), r.length = 7 := by
                intro r hr
                obtain ⟨i, hi, rfl⟩ := List.mem_map.1 hr
                exact (hfp i (List.mem_range.1 hi)).2.row
              refine ⟨by rw [flat7_len _ h7]; simp, fun h0 => ?_⟩
              obtain ⟨_, hl0, hat0⟩ := World.cells?_some (hfp 0 h0).1
              have hx0 := hat0 0 (by omega)
              rw [List.getElem?_eq_getElem (by omega)] at hx0
              obtain ⟨b, off, hab⟩ : ∃ b off, a = ⟨b, off, none⟩ := by
                have e : (a.add (0 * 7)).add 0 = a.add 0 := by rw [Go.Deep.add_add]
                rw [e] at hx0
                exact plain_at hx0
              subst hab
              refine ⟨b, off, rfl, ?_, fun j u hu => ?_⟩
              · have e : ((⟨b, off, none⟩ : Addr).add (0 * 7)).add 0 = ⟨b, off, none⟩ := by rw [Go.Deep.add_add]; simp [Addr.add]
                rw [e] at hx0
                exact cell_lt' hx0
              · have hj : j < len * 7 := by
                  rcases Nat.lt_or_ge j (len * 7) with h | h
                  · exact h
                  · rw [List.getElem?_eq_none (by rw [flat7_len _ h7]; simp; omega)] at hu; cases hu
                have hi : j / 7 < len := by omega
                have hjj : j = j / 7 * 7 + j % 7 := by omega
                obtain ⟨_, hli, hati⟩ := World.cells?_some (hfp (j / 7) hi).1
                have hx := hati (j % 7) (by omega)
                rw [Go.Deep.add_add, ← hjj] at hx
                rw [hjj, flat7_at _ h7 (j / 7) (j % 7) (f (j / 7)).2 (by simp [hi]) (by omega)] at hu
                rw [hu] at hx
                have e : (⟨b, off, none⟩ : Addr).add j = ⟨b, off + j, none⟩ := Go.WideShapes.add_plain ..
                rw [e] at hx
                exact hx
            · refine PartsAt.mk _ _ (by simp) fun i hi => ?_
              have hi' : i < len := by simpa using hi
              refine ⟨(f i).2, by simp [hi'], ?_⟩
              simpa using (hfp i hi').2
        obtain ⟨A, n1, c1', l, rfl, hb1, hb2, hb3⟩ := hby
        obtain ⟨A2, n2, c2', ps, rows, rfl, hp1, hp2, hp3, hp4⟩ := hps
        exact ⟨⟨s0.data.toList, s1.data.toList, s2.data.toList, s3.data.toList, i4, l, ps⟩, A, n1, c1', A2, n2, c2', rows, rfl, ⟨b0, b1, b2, b3, hlo, hhi⟩, hb1, hb2, hb3, hp1, hp3, hp4, hp2⟩
set_option maxRecDepth 100000 in
theorem open_part {r : Reach} {b0 : Nat} {v : Value} {d : DataW H} {pl : List MemPlace} (hv : Value.okWide Tryz.prog w r b0 25 v) (h : DataW.Trod enc Tryz.prog w base (fun _ => true) held 25 v d pl) : ∃ p cs, v = .agg cs.toArray ∧ PartAt (· < w.heap.size) w p cs := by
  obtain ⟨cs, rfl, hsz⟩ := okWide_struct Tryz.underlying25 hv
  obtain ⟨l⟩ := cs
  obtain ⟨fuel, hf⟩ := h
  obtain ⟨p, hp⟩ := part_of_trod fuel fuel _ _ (Nat.le_refl _) hf
  exact ⟨p, l, rfl, hp⟩
end
end Go.Proofs.YtlbdnohnngkapaaGreatDoor

namespace Go.Proofs.YtlbdnohnngkapaaGreatDoor
open Go.ChangeShapes Go.WideShapes Go.ChangeAt Go.RowKit

theorem maxLen_of_shaped {W : World} (h : W.ShapedOpen Tryz.prog) : MaxLenOk W := Go.Proofs.Tryz.laysM219.s1_3 W h
end Go.Proofs.YtlbdnohnngkapaaGreatDoor


