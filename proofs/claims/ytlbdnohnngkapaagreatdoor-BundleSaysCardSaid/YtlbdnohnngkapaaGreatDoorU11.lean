import Derived.Test.YtlbdnohnngkapaaGreatDoorU3
import Derived.Test.YtlbdnohnngkapaaGreatDoorU10
import Derived.Deep.CutRange
import Derived.Test.YtlbdnohnngkapaaGreatDoorU2
import Derived.Test.YtlbdnohnngkapaaGreatDoorU5
import Derived.Shelf.Strings.SlTrimAscii
namespace Go.Proofs.YtlbdnohnngkapaaGreatDoor
open Go.RowKit

theorem infoGoal : (Tryz.prog.info? 55).map (fun i => (i.zero, i.size, i.bytes)) = some (some (.agg #[.int .i64 0, .int .i64 0, .int .i64 0, .string ⟨#[]⟩, .string ⟨#[]⟩, .int .i64 0]), 6, 64) := by kernel_rfl
theorem findE_two2 (l : List UInt8) : (findE l).2 = 0 ∨ (findE l) = ([], 2) := by
  unfold findE
  split
  · exact .inr rfl
  · cases findB l with
    | none => exact .inr rfl
    | some ls => exact .inl rfl
theorem findL_len60 (n : Nat) : ∀ (f : Nat) (r : List UInt8) (out : List LinkD), out.length ≤ 60 → ∀ ls, findL n f r out = some ls → ls.length ≤ 60
  | 0, r, out, ho, ls, h => by
    rw [findL] at h
    injection h with h
    exact h ▸ ho
  | f + 1, r, out, ho, ls, h => by
    rw [findL] at h
    split at h
    · injection h with h
      exact h ▸ ho
    · split at h
      · cases h
      · exact findL_len60 n f _ _ (by omega) ls h
theorem findE_len (l : List UInt8) : (findE l).1.length ≤ 60 := by
  unfold findE
  split
  · exact Nat.zero_le _
  · cases h : findB l with
    | none => exact Nat.zero_le _
    | some ls => exact findL_len60 _ _ _ _ (by simp) ls h
/-- A block that holds a goal. -/
def GB (w : World) (g : Nat) (x : GoalD) : Prop := w.heap[g]? = some (.cells (goalCells x).toArray 55 (0, 0))
theorem GB.lt {w : World} {g : Nat} {x : GoalD} (h : GB w g x) : g < w.heap.size := by
  rcases Nat.lt_or_ge g w.heap.size with h' | h'
  · exact h'
  · unfold GB at h; rw [Array.getElem?_eq_none h'] at h; cases h
theorem GB.box {w : World} {g : Nat} {x : GoalD} (h : GB w g x) : w.cell? ⟨g, 0, none⟩ = some (.int .i64 (x.part : Nat)) ∧ w.cell? ⟨g, 1, none⟩ = some (.int .i64 (x.l.frm : Nat)) ∧ w.cell? ⟨g, 2, none⟩ = some (.int .i64 (x.l.til : Nat)) ∧ w.cell? ⟨g, 3, none⟩ = some (str x.l.text) ∧ w.cell? ⟨g, 4, none⟩ = some (str x.goal) ∧ w.cell? ⟨g, 5, none⟩ = some (.int .i64 x.find) := by
  unfold GB goalCells at h
  refine ⟨?_, ?_, ?_, ?_, ?_, ?_⟩ <;> (unfold World.cell?; rw [h]; rfl)
theorem GB.fz {w : World} {g : Nat} {x : GoalD} (h : GB w g x) : ∀ i, w.frozen? ⟨g, i, none⟩ = false := by
  intro i
  unfold GB at h
  unfold World.frozen?
  rw [h]
  simp
theorem GB.below {w w' : World} {g : Nat} {x : GoalD} (h : GB w g x) (hb : Below w.heap.size w w') : GB w' g x := (hb.block g h.lt).trans h
theorem GB.set5 {w : World} {g : Nat} {x : GoalD} (h : GB w g x) (k : Int) : GB (w.setCell ⟨g, 5, none⟩ (.int .i64 k)) g { x with find := k } := by
  unfold GB at h ⊢
  simp only [World.setCell, Array.getElem?_modify, if_pos, h, Option.map_some]
  rfl
theorem GB.fill {w : World} {g : Nat} {z : GoalD} (h : GB w g z) (x : GoalD) : GB ((((((w.setCell ⟨g, 0, none⟩ (.int .i64 (x.part : Nat))).setCell ⟨g, 1, none⟩ (.int .i64 (x.l.frm : Nat))).setCell ⟨g, 2, none⟩ (.int .i64 (x.l.til : Nat))).setCell ⟨g, 3, none⟩ (str x.l.text)).setCell ⟨g, 4, none⟩ (str x.goal)).setCell ⟨g, 5, none⟩ (.int .i64 x.find)) g x := by
  unfold GB goalCells at h ⊢
  simp only [World.setCell, Array.getElem?_modify, if_pos, h, Option.map_some]
  rfl
theorem below_six {C : Nat} {w0 w : World} {b : Nat} (h : Below C w0 w) (hC : C ≤ b) (v0 v1 v2 v3 v4 v5 : Value) (k0 k1 k2 k3 k4 k5 : Nat) : Below C w0 ((((((w.setCell ⟨b, k0, none⟩ v0).setCell ⟨b, k1, none⟩ v1).setCell ⟨b, k2, none⟩ v2).setCell ⟨b, k3, none⟩ v3).setCell ⟨b, k4, none⟩ v4).setCell ⟨b, k5, none⟩ v5) :=
  (((((h.setCell hC _).setCell hC _).setCell hC _).setCell hC _).setCell hC _).setCell hC _
def GoRel2 (F : List PartD) (L : List (List UInt8)) (i m m3 : Nat) (ff : List UInt8) (ls : List LinkD) (out : List GoalD) (S3 : Option Addr) (w2 w3 : World) (ov jv : Value) (wx : World) : Prop :=
  ∃ (j m' c' : Nat) (S' : Option Addr) (out' : List GoalD), jv = .int .i64 j ∧ j ≤ m3 ∧ ov = .slice S' m' c' ∧ m' = out'.length ∧ m' = m + j ∧ Hid (out' = out ++ (ls.take j).map (goalOf F L i ff)) ∧ wx.ownsRow w2.heap.size 55 6 (.slice S' m' c') m' (goalC out') ∧ Below w2.heap.size w2 wx ∧
    Sl wx w3.heap.size 3 S3 m3 (linkC ls) ∧ w3.heap.size ≤ wx.heap.size ∧ Apart S3 (.slice S' m' c')
theorem findF_bare : ∀ (F : List PartD) (L : List (List UInt8)) (t : List UInt8) (i : Nat), findF (F.map bareD) L t i = findF F L t i
  | [], _, _, _ => by rw [List.map_nil]
  | x :: xs, [], t, i => by rw [List.map_cons, findF, findF]
  | x :: xs, h :: hs, t, i => by
    rw [List.map_cons, findF, findF, findF_bare xs hs t (i + 1)]
    rfl
theorem goals_next {α β : Type} (f : α → β) (ls : List α) (j : Nat) (x : α) (h : ls.drop j = x :: ls.drop (j + 1)) (out : List β) : (out ++ (ls.take j).map f) ++ [f x] = out ++ (ls.take (j + 1)).map f := by
  have hj : j < ls.length := by
    rcases Nat.lt_or_ge j ls.length with h' | h'
    · exact h'
    · rw [List.drop_eq_nil_of_le h'] at h; cases h
  have hx : ls[j] = x := by rw [List.drop_eq_getElem_cons hj] at h; injection h
  rw [List.take_succ_eq_append_getElem hj, hx, List.map_append, List.append_assoc]
  rfl
def GoRel (n : Nat) (F0 : List PartD) (W0 : List (List UInt8)) (R : Option (List GoalD)) (_w w2 : World) (av bv ov iv : Value) (wr : World) : Prop :=
  ∃ (i m c : Nat) (S : Option Addr) (out : List GoalD), av = .slice none 0 0 ∧ bv = .int .i64 0 ∧ iv = .int .i64 i ∧ i ≤ n ∧ ov = .slice S m c ∧ m = out.length ∧ m ≤ i * 60 ∧ wr.ownsRow w2.heap.size 55 6 (.slice S m c) m (goalC out) ∧ Below w2.heap.size w2 wr ∧ Hid (goalsF F0 W0 (F0.drop i) (W0.drop i) i out = R)
set_option maxRecDepth 100000 in
set_option maxHeartbeats 4000000 in
theorem Goals_any (p : PartD) (v : List Value) (w : World) (hM : MaxLenOk w) (hp : PartAt (· < w.heap.size) w p v) :
    Calls Tryz.prog 32 #[.agg v.toArray] w (GoalsOut p w) := by
  have hok := checkD_ok p
  have hal := fun W h => All_any p v W h
  have hwh := fun W hM h => Where_any p v W hM h
  unfold AllOut at hal
  unfold WhereOut at hwh
  unfold GoalsOut
  obtain ⟨R, hR⟩ : ∃ R, R = goalsE p := ⟨_, rfl⟩
  rw [← hR]
  unfold goalsE goalsD at hR
  have hwl := whereD_len p
  have hws := whereD_small p
  obtain ⟨A, c, A2, c2, rfl, _⟩ := hp.open
  obtain ⟨W, hW⟩ : ∃ W, W = w.alloc (.cells #[str p.type, str p.cs, str p.id, str p.loc, .int .i64 p.how, .slice A p.body.length c, .slice A2 p.parts.length c2] 25) := ⟨_, rfl⟩
  have hbW : Below w.heap.size w W := by rw [hW]; exact (Below.refl _ w).alloc (Nat.le_refl _) _
  have hbx : Box7 W w.heap.size (str p.type) (str p.cs) (str p.id) (str p.loc) (.int .i64 p.how) (.slice A p.body.length c) (.slice A2 p.parts.length c2) := by rw [hW]; exact Box7.new w _ _ _ _ _ _ _ _
  have Hal := Lib.hid hal
  have Hwh := Lib.hid hwh
  have Hp := Lib.hid hp
  have HM := Lib.hid hM
  clear hal hwh hp hM
  generalize checkD p = K at *
  generalize whereD p = L at *
  generalize flatD p = F at *
  by_cases hK : K = 0
  · subst hK
    simp only [if_true] at Hal Hwh hR
    obtain ⟨h12, hch⟩ := hok rfl
    have hbod : ∀ q ∈ F, q.body.length ≤ 4000 := fun q hq => chk_body q (hch q hq)
    have Hbod := Lib.hid hbod
    obtain ⟨n, hn⟩ : ∃ n, n = F.length := ⟨_, rfl⟩
    rw [← hn] at Hal Hwh h12 hwl
    have HR := Lib.hid hR
    have Hn := Lib.hid hn
    have Hwl := Lib.hid hwl
    have Hws := Lib.hid hws
    clear hok hch hbod hR hn hwl hws
    obtain ⟨i0, hi0, hz0, hz1, hz2⟩ := info_parts infoGoal
    have HI0 := Lib.hid (And.intro hi0 (And.intro hz0 (And.intro hz1 hz2)))
    clear hi0 hz0 hz1 hz2
    go_enter Tryz.func32, Tryz.ntmps32
    go_wp2_with fail
    rw [← hW]
    clear hW
    refine (Hal.out W ((Hp.out.below hbW).more hbW.size)).mono ?_
    rintro e w1 ⟨S1, c1', rfl, hs1, hc1, hm1, hb1⟩
    have hbel1 := hbW.trans (hb1.mono hbW.size)
    have hbx1 := hbx.below hb1
    have ⟨x0, x1, x2, x3, x4, x5, x6⟩ := hbx1
    clear hbx hbx1 hb1 hbW Hal
    go_wp2_with fail
    refine (Hwh.out w1 (HM.out.below hbel1) ((Hp.out.below hbel1).more hbel1.size)).mono ?_
    rintro e w2 ⟨S2, c2', rfl, hs2, hc2, hm2, hb2⟩
    have hbel2 := hbel1.trans (hb2.mono hbel1.size)
    have hs1b := (hs1.below hb2).more hb2.size
    clear hs1 hb2 x0 x1 x2 x3 x4 x5 x6 Hwh
    unfold maxLen at hm1 hm2
    have Hs1 := Lib.hid hs1b
    have Hs2 := Lib.hid hs2
    have Hbel2 := Lib.hid hbel2
    clear hs1b hs2 hbel2 hbel1
    go_wp2_with fail
    obtain ⟨RR, hRR⟩ : ∃ RR, RR = goalsF F L F L 0 [] := ⟨_, rfl⟩
    have HRR := Lib.hid hRR
    clear hRR
    go_loopw [2, 3, 8, 32] (GoRel n F L RR w w2) (fun _ _ _ iv _ => n - (intOf iv).toNat)
    case atStart => exact ⟨0, 0, 0, none, [], rfl, rfl, rfl, Nat.zero_le _, rfl, rfl, Nat.zero_le _, World.ownsRow_nil _ _ _ _, Below.refl _ _, Lib.hid (by rw [List.drop_zero, List.drop_zero]; exact HRR.out.symm)⟩
    case round =>
      obtain ⟨i, m, c, S, out, rfl, rfl, rfl, hi, rfl, hm, hm60, hown, hbel, HS⟩ := hrel
      have Hm := Lib.hid hm
      clear hm
      by_cases hin : i < n
      · obtain ⟨b, off, q1, A', n', c', A2', n2', c2'', hS1, hbS, hq1, hqa, y0, y1, y2, y3, y4, y5, y6⟩ := (Hs1.out.below hbel).cells7 hin
        subst hS1
        have hqd : ∃ q, F.drop i = q :: F.drop (i + 1) ∧ q1 = bareD q ∧ q ∈ F := by
          have hiF : i < F.length := by rw [← Hn.out]; exact hin
          have h1 := List.drop_eq_getElem_cons (l := F) (i := i) hiF
          rw [← List.map_drop, h1, List.map_cons] at hq1
          injection hq1 with hq1 _
          exact ⟨_, h1, hq1.symm, List.getElem_mem _⟩
        obtain ⟨q, hq, hqq, hqm⟩ := hqd
        have hbody := Hbod.out q hqm
        subst hqq
        have hby : By wr w2.heap.size A' q.body.length q.body ∧ n' = q.body.length ∧ q.body.length ≤ c' ∧ c' ≤ maxLen := by
          obtain ⟨A3, c3, A4, c4, hv, _, hb3, hc3, hm3, _⟩ := hqa.open
          simp only [List.cons.injEq, and_true] at hv
          obtain ⟨_, _, _, _, _, h5, _⟩ := hv
          injection h5 with h5 h6 h7
          subst h5
          subst h7
          exact ⟨hb3.sl, h6, hc3, hm3⟩
        obtain ⟨hby, rfl, hbc, hbm⟩ := hby
        obtain ⟨bt, offt, u, hS2, hbt, hu, hcu⟩ := Hs2.out.at_ hin
        subst hS2
        have hiL : i < L.length := by rw [Hwl.out]; exact hin
        have hdL := List.drop_eq_getElem_cons (l := L) (i := i) hiL
        rw [List.getElem?_map, List.getElem?_eq_getElem hiL] at hu
        injection hu with hu
        have hsl := Hws.out _ (List.getElem_mem hiL)
        obtain ⟨h, hh⟩ : ∃ h, h = L[i] := ⟨_, rfl⟩
        rw [← hh] at hdL hu hsl
        subst hu
        have hstep : (if q.type = htmlB then (if (findE q.body).2 = 0 then goalsF F L (F.drop (i + 1)) (L.drop (i + 1)) (i + 1) (out ++ (findE q.body).1.map (goalOf F L i (fromG h))) else none) else goalsF F L (F.drop (i + 1)) (L.drop (i + 1)) (i + 1) out) = RR := by
          have := HS.out
          rw [hq, hdL, goalsF] at this
          exact this
        have Hstep := Lib.hid hstep
        have Hhs := Lib.hid hsl
        simp only [bareD] at y0 y1 y2 y3 y4 y5 y6
        clear hstep hq hqm hdL hh HS hq1 hqa hsl
        go_upto_region 9 with fail
        obtain ⟨W1, hW1⟩ : ∃ W1, W1 = wr.alloc (.cells #[str q.type, str q.cs, str q.id, str q.loc, .int .i64 q.how, .slice A' q.body.length c', .slice A2' n2' c2''] 25) := ⟨_, rfl⟩
        have hbA : Below wr.heap.size wr W1 := by rw [hW1]; exact (Below.refl _ _).alloc (Nat.le_refl _) _
        have hX := Box7.new wr 25 (str q.type) (str q.cs) (str q.id) (str q.loc) (.int .i64 q.how) (.slice A' q.body.length c') (.slice A2' n2' c2'')
        have hown1 := own_below hown hbA
        rw [← hW1] at hX
        rw [← hW1]
        clear hW1
        have ⟨x0, x1, x2, x3, x4, x5, x6⟩ := hX
        have hbel1 := hbel.trans (hbA.mono hbel.size)
        have hby1 := (hby.below (hbA.mono hbel.size)).more hbel1.size
        clear y0 y1 y2 y3 y4 y5 y6 hbA hX hbel hown hby
        by_cases ht : q.type = htmlB
        · have ht1 : (q.type == [116, 101, 120, 116, 47, 104, 116, 109, 108]) = true := by rw [ht]; rfl
          have hFn := Find_any A' q.body.length c' q.body W1 (HM.out.below (Hbel2.out.trans (hbel1.mono Hbel2.out.size))) hby1 hbc hbm
          have HFn := Lib.hid hFn
          have Ht := Lib.hid ht
          clear hFn ht hby1
          go_wp2_with fail
          refine HFn.out.mono ?_
          rintro e w3 ⟨S3, c3, rfl, hown3, hb3⟩
          have hlk := findE_text q.body
          have h2 := findE_two2 q.body
          have hbel3 := hbel1.trans (hb3.mono hbel1.size)
          have hown3b := own_below hown1 hb3
          have hown1s := Lib.hid hown1
          have hst := Hstep.out
          rw [if_pos Ht.out] at hst
          have hl60 := findE_len q.body
          generalize findE q.body = T at *
          obtain ⟨ls, fe⟩ := T
          simp only at hown3 h2 hlk hst hl60 ⊢
          have Hlk := Lib.hid hlk
          have Hown3b := Lib.hid hown3b
          clear x0 x1 x2 x3 x4 x5 x6 HFn hlk hb3 hown1 hown3b
          by_cases he : fe = 0
          · subst he
            rw [if_pos rfl] at hst
            have Hst := Lib.hid hst
            clear hst h2
            obtain ⟨m3, hm3⟩ : ∃ m3, m3 = ls.length := ⟨_, rfl⟩
            rw [← hm3] at hown3 hl60
            have z0 : w3.cell? ⟨bt, offt + i, none⟩ = some (str h) := by rw [hbel3.cell (by exact hbt)]; exact hcu
            have hap0 : Apart S3 (.slice S m c) := by
              intro b off e
              subst e
              intro e2
              have h1 := (hown3.lt b rfl).1
              have h2 := (hown1s.out.lt b e2).2
              omega
            have Hap := Lib.hid hap0
            clear hap0
            have Hl3 := Lib.hid hown3
            have Hm3 := Lib.hid hm3
            rw [← hm3]
            clear hown3 hm3
            obtain ⟨ff, hff⟩ : ∃ ff, ff = fromG h := ⟨_, rfl⟩
            have hffl : ff.length ≤ 605 := by
              rw [hff]
              unfold fromG
              split
              · decide
              · exact Hhs.out
            rw [← hff] at Hst
            have Hff := Lib.hid hff
            clear hff
            obtain ⟨bb, hbb⟩ : ∃ bb, bb = (h == []) := ⟨_, rfl⟩
            have hbr := hbb.symm
            have Hbb := Lib.hid hbb
            clear hbb
            go_upto_if 54 with (fail)
            clear hbr
            go_cut [13] (fun s13 wx => s13 = str ff ∧ w3 = wx)
            case first =>
              have hf := Hff.out
              have hbb := Hbb.out
              unfold fromG at hf
              by_cases hh : h = []
              · rw [if_pos hh] at hf
                obtain rfl : bb = true := by rw [hbb, hh]; rfl
                have Hf := Lib.hid hf
                have Hh := Lib.hid hh
                clear hh hf hbb
                go_wp2_with fail
                go_meet
                exact ⟨by rw [Hf.out]; rfl, rfl⟩
              · rw [if_neg hh] at hf
                obtain rfl : bb = false := by rw [hbb]; simpa using hh
                have Hf := Lib.hid hf
                have Hh := Lib.hid hh
                clear hh hf hbb
                go_wp2_with fail
                go_meet
                exact ⟨by rw [Hf.out], rfl⟩
            case rest =>
              obtain ⟨rfl, rfl⟩ := hcut
              go_wp2_with fail
              go_loopw [8, 57] (GoRel2 F L i m m3 ff ls out S3 w2 w3) (fun _ jv _ => m3 - (intOf jv).toNat)
              case atStart => exact ⟨0, m, c, S, out, rfl, Nat.zero_le _, rfl, Hm.out, rfl, Lib.hid (by simp), Hown3b.out, hbel3, Sl.of_own Hl3.out, Nat.le_refl _, Hap.out⟩
              case round =>
                obtain ⟨j, m', c', S', out', rfl, hj, rfl, hm', hmj, HO, hown', hbelx, hsl3, hsz3, hap⟩ := hrel
                have Hm' := Lib.hid hm'
                have Hmj := Lib.hid hmj
                have Hsl3 := Lib.hid hsl3
                have Hap' := Lib.hid hap
                clear hm' hmj hsl3 hap
                by_cases hjm : j < m3
                · obtain ⟨bl, offl, x, hS3, hbl, hdl, l0, l1, l2⟩ := Sl.link Hsl3.out j hjm
                  subst hS3
                  have hxm : x ∈ ls := List.mem_of_mem_drop (by rw [hdl]; simp)
                  have hxt := Hlk.out x hxm
                  have k0 := l0
                  have k1 := l1
                  have k2 := l2
                  have Hdl := Lib.hid hdl
                  clear l0 l1 l2 hxm hdl
                  go_upto_region 19 with fail
                  obtain ⟨W3, hW3⟩ : ∃ W3, W3 = wr.alloc (.cells #[.int .i64 (x.frm : Nat), .int .i64 (x.til : Nat), str x.text] 53) := ⟨_, rfl⟩
                  have hbA : Below wr.heap.size wr W3 := by rw [hW3]; exact (Below.refl _ _).alloc (Nat.le_refl _) _
                  have hxb : W3.heap[wr.heap.size]? = some (.cells #[.int .i64 (x.frm : Nat), .int .i64 (x.til : Nat), str x.text] 53) := by rw [hW3]; exact heap_alloc_new wr _
                  rw [← hW3]
                  clear hW3
                  have hbl3 : wr.heap.size < W3.heap.size := by
                    rcases Nat.lt_or_ge wr.heap.size W3.heap.size with h' | h'
                    · exact h'
                    · rw [Array.getElem?_eq_none h'] at hxb; cases hxb
                  have c0 : W3.cell? ⟨wr.heap.size, 0, none⟩ = some (.int .i64 (x.frm : Nat)) := by unfold World.cell?; rw [hxb]; rfl
                  have c1 : W3.cell? ⟨wr.heap.size, 1, none⟩ = some (.int .i64 (x.til : Nat)) := by unfold World.cell?; rw [hxb]; rfl
                  have c2 : W3.cell? ⟨wr.heap.size, 2, none⟩ = some (str x.text) := by unfold World.cell?; rw [hxb]; rfl
                  clear k0 k1 k2 hxb
                  have KL := Lib.hid (fun X (hx : MaxLenOk X) => Led_any ff x.text X hx (by unfold maxLen; omega) (by unfold maxLen; omega))
                  have hLLn : (ledB ff x.text).length ≤ 605 := ledB_len _ _
                  obtain ⟨LL, hLL⟩ : ∃ LL, LL = ledB ff x.text := ⟨_, rfl⟩
                  rw [← hLL] at KL hLLn
                  have HLL := Lib.hid hLL
                  clear hLL
                  have hM3 : MaxLenOk W3.drew := HM.out.below (Hbel2.out.trans ((hbelx.trans (hbA.mono hbelx.size)).mono Hbel2.out.size)).drew
                  go_cut [16] from 61 to 67 (fun s16 wx => ∃ gbl, s16 = .pointer (some ⟨gbl, 0, none⟩) ∧ wr.heap.size ≤ gbl ∧ GB wx gbl ⟨i, x, LL, -1⟩ ∧ Below wr.heap.size wr wx)
                  case first =>
                    have hS : (fun W' : World => W'.cell? ⟨wr.heap.size, 0, none⟩ = some (.int .i64 (x.frm : Nat)) ∧ W'.cell? ⟨wr.heap.size, 1, none⟩ = some (.int .i64 (x.til : Nat)) ∧ W'.cell? ⟨wr.heap.size, 2, none⟩ = some (str x.text)) (World.drew W3) := ⟨c0, c1, c2⟩
                    refine wp_region_held (S := (fun W' : World => W'.cell? ⟨wr.heap.size, 0, none⟩ = some (.int .i64 (x.frm : Nat)) ∧ W'.cell? ⟨wr.heap.size, 1, none⟩ = some (.int .i64 (x.til : Nat)) ∧ W'.cell? ⟨wr.heap.size, 2, none⟩ = some (str x.text))) (by kernel_rfl) ?_
                    change wpAnyH _ _ _ _ _ _ _ _ (World.drew W3)
                    refine wpAnyH_take (i := 0) (v := ?_) rfl (by kernel_rfl) (by kernel_rfl) (by kernel_rfl) (fun _ _ _ h => h) (Or.inl ⟨by kernel_rfl, ?_⟩) hS ?_
                    rotate_left 1
                    · intro W' hb'; go_simp; try exact rfl
                    refine wpAnyH_take (i := 1) (v := ?_) rfl (by kernel_rfl) (by kernel_rfl) (by kernel_rfl) (fun _ _ _ h => h) (Or.inl ⟨by kernel_rfl, ?_⟩) hS ?_
                    rotate_left 1
                    · intro W' hb'; have q0 := hb'.1; have q1 := hb'.2.1; have q2 := hb'.2.2; go_simp; try exact rfl
                    refine wpAnyH_take (i := 2) (v := ?_) rfl (by kernel_rfl) (by kernel_rfl) (by kernel_rfl) (fun _ _ _ h => h) (Or.inl ⟨by kernel_rfl, ?_⟩) hS ?_
                    rotate_left 1
                    · intro W' hb'; go_simp; try exact rfl
                    refine wpAnyH_take (i := 3) (v := ?_) rfl (by kernel_rfl) (by kernel_rfl) (by kernel_rfl) (fun _ _ _ h => h) (Or.inl ⟨by kernel_rfl, ?_⟩) hS ?_
                    rotate_left 1
                    · intro W' hb'; go_simp; try exact rfl
                    refine wpAnyH_take (i := 4) (v := ?_) rfl (by kernel_rfl) (by kernel_rfl) (by kernel_rfl) (fun _ _ _ h => h) (Or.inl ⟨by kernel_rfl, ?_⟩) hS ?_
                    rotate_left 1
                    · intro W' hb'; have q0 := hb'.1; have q1 := hb'.2.1; have q2 := hb'.2.2; go_simp; try exact rfl
                    refine wpAnyH_all (rs := [5, 7]) (by kernel_rfl) (by simp) ?_
                    intro kk hkk
                    simp only [List.mem_cons, List.not_mem_nil, or_false] at hkk
                    rcases hkk with rfl | rfl
                    · go_simp
                      refine wpOp_callF rfl (by kernel_rfl) 42 #[str ff, str x.text] (by go_simp; try rfl) _ _ (KL.out _ hM3) ?_
                      intro wd hbc
                      have hblc : wr.heap.size < wd.heap.size := Nat.lt_of_lt_of_le hbl3 hbc.size
                      have hS := And.intro ((hbc.cell (p := ⟨wr.heap.size, 0, none⟩) hbl3).trans c0) (And.intro ((hbc.cell (p := ⟨wr.heap.size, 1, none⟩) hbl3).trans c1) ((hbc.cell (p := ⟨wr.heap.size, 2, none⟩) hbl3).trans c2))
                      have hSc := hS
                      refine ⟨hS, ?_⟩
                      refine wpAnyH_take (i := 6) (v := ?_) rfl (by kernel_rfl) (by kernel_rfl) (by kernel_rfl) (fun _ _ _ h => h) (Or.inl ⟨by kernel_rfl, ?_⟩) hS ?_
                      rotate_left 1
                      · intro W' hb'; go_simp; try exact rfl
                      refine wpAnyH_all (rs := [7]) (by kernel_rfl) (by simp) ?_
                      intro kk hkk
                      simp only [List.mem_singleton] at hkk
                      subst hkk
                      go_simp
                      refine wpOp_runv rfl (by kernel_rfl) (.pointer (some ⟨wd.heap.size, 0, none⟩)) (wd.alloc (.cells #[.int .i64 0, .int .i64 0, .int .i64 0, .string ⟨#[]⟩, .string ⟨#[]⟩, .int .i64 0] 55)) (by go_simp) ?_
                      have hS := And.intro ((World.cell?_alloc_lt wd (.cells #[.int .i64 0, .int .i64 0, .int .i64 0, .string ⟨#[]⟩, .string ⟨#[]⟩, .int .i64 0] 55) ⟨wr.heap.size, 0, none⟩ hblc).trans hS.1) (And.intro ((World.cell?_alloc_lt wd (.cells #[.int .i64 0, .int .i64 0, .int .i64 0, .string ⟨#[]⟩, .string ⟨#[]⟩, .int .i64 0] 55) ⟨wr.heap.size, 1, none⟩ hblc).trans hS.2.1) ((World.cell?_alloc_lt wd (.cells #[.int .i64 0, .int .i64 0, .int .i64 0, .string ⟨#[]⟩, .string ⟨#[]⟩, .int .i64 0] 55) ⟨wr.heap.size, 2, none⟩ hblc).trans hS.2.2))
                      refine ⟨hS, ?_⟩
                      refine wpAnyH_all (rs := [8]) (by kernel_rfl) (by simp) ?_
                      intro kk hkk
                      simp only [List.mem_singleton] at hkk
                      subst hkk
                      go_simp
                      have hbcg := (Below.refl wd.heap.size wd).alloc (Nat.le_refl _) (.cells #[.int .i64 (i : Nat), .int .i64 (x.frm : Nat), .int .i64 (x.til : Nat), str x.text, str LL, .int .i64 (-1)] 55)
                      have gb : GB (wd.alloc (.cells #[.int .i64 (i : Nat), .int .i64 (x.frm : Nat), .int .i64 (x.til : Nat), str x.text, str LL, .int .i64 (-1)] 55)) wd.heap.size ⟨i, x, LL, -1⟩ := heap_alloc_new wd _
                      refine wpOp_store rfl (by kernel_rfl) (wd.alloc (.cells #[.int .i64 (i : Nat), .int .i64 (x.frm : Nat), .int .i64 (x.til : Nat), str x.text, str LL, .int .i64 (-1)] 55)) (by go_simp; try rfl) ?_
                      have hS := And.intro ((World.cell?_alloc_lt wd (.cells #[.int .i64 (i : Nat), .int .i64 (x.frm : Nat), .int .i64 (x.til : Nat), str x.text, str LL, .int .i64 (-1)] 55) ⟨wr.heap.size, 0, none⟩ hblc).trans hSc.1) (And.intro ((World.cell?_alloc_lt wd (.cells #[.int .i64 (i : Nat), .int .i64 (x.frm : Nat), .int .i64 (x.til : Nat), str x.text, str LL, .int .i64 (-1)] 55) ⟨wr.heap.size, 1, none⟩ hblc).trans hSc.2.1) ((World.cell?_alloc_lt wd (.cells #[.int .i64 (i : Nat), .int .i64 (x.frm : Nat), .int .i64 (x.til : Nat), str x.text, str LL, .int .i64 (-1)] 55) ⟨wr.heap.size, 2, none⟩ hblc).trans hSc.2.2))
                      refine ⟨hS, ?_⟩
                      refine wpAnyH_done (by kernel_rfl) ?_ _
                      have hbyB : Below wr.heap.size wr (wd.alloc (.cells #[.int .i64 (i : Nat), .int .i64 (x.frm : Nat), .int .i64 (x.til : Nat), str x.text, str LL, .int .i64 (-1)] 55)) := hbA.drew.trans ((hbc.trans (hbcg.mono hbc.size)).mono hbA.size)
                      have Hfin := Lib.hid (And.intro (Nat.le_of_lt hblc) (And.intro gb hbyB))
                      clear gb hbyB hbcg hS hSc
                      go_simp
                      go_wp2_with fail
                      go_meet
                      exact ⟨_, rfl, Hfin.out⟩
                    · go_simp
                      refine wpOp_runv rfl (by kernel_rfl) (.pointer (some ⟨W3.heap.size, 0, none⟩)) ((World.drew W3).alloc (.cells #[.int .i64 0, .int .i64 0, .int .i64 0, .string ⟨#[]⟩, .string ⟨#[]⟩, .int .i64 0] 55)) (by go_simp; try rfl) ?_
                      have hS := And.intro ((World.cell?_alloc_lt (World.drew W3) (.cells #[.int .i64 0, .int .i64 0, .int .i64 0, .string ⟨#[]⟩, .string ⟨#[]⟩, .int .i64 0] 55) ⟨wr.heap.size, 0, none⟩ hbl3).trans hS.1) (And.intro ((World.cell?_alloc_lt (World.drew W3) (.cells #[.int .i64 0, .int .i64 0, .int .i64 0, .string ⟨#[]⟩, .string ⟨#[]⟩, .int .i64 0] 55) ⟨wr.heap.size, 1, none⟩ hbl3).trans hS.2.1) ((World.cell?_alloc_lt (World.drew W3) (.cells #[.int .i64 0, .int .i64 0, .int .i64 0, .string ⟨#[]⟩, .string ⟨#[]⟩, .int .i64 0] 55) ⟨wr.heap.size, 2, none⟩ hbl3).trans hS.2.2))
                      have gb : GB ((World.drew W3).alloc (.cells #[.int .i64 0, .int .i64 0, .int .i64 0, .string ⟨#[]⟩, .string ⟨#[]⟩, .int .i64 0] 55)) W3.heap.size ⟨0, ⟨0, 0, []⟩, [], 0⟩ := heap_alloc_new (World.drew W3) _
                      have hbB : Below wr.heap.size wr ((World.drew W3).alloc (.cells #[.int .i64 0, .int .i64 0, .int .i64 0, .string ⟨#[]⟩, .string ⟨#[]⟩, .int .i64 0] 55)) := hbA.drew.alloc hbA.size _
                      have hM4 : MaxLenOk ((World.drew W3).alloc (.cells #[.int .i64 0, .int .i64 0, .int .i64 0, .string ⟨#[]⟩, .string ⟨#[]⟩, .int .i64 0] 55)) := hM3.below ((Below.refl _ _).alloc (Nat.le_refl _) _)
                      refine ⟨hS, ?_⟩
                      generalize (World.drew W3).alloc (.cells #[.int .i64 0, .int .i64 0, .int .i64 0, .string ⟨#[]⟩, .string ⟨#[]⟩, .int .i64 0] 55) = W4 at hS gb hbB hM4 ⊢
                      have hbl4 : wr.heap.size < W4.heap.size := Nat.lt_trans hbl3 gb.lt
                      refine wpAnyH_all (rs := [5]) (by kernel_rfl) (by simp) ?_
                      intro kk hkk
                      simp only [List.mem_singleton] at hkk
                      subst hkk
                      go_simp
                      refine wpOp_callF rfl (by kernel_rfl) 42 #[str ff, str x.text] (by go_simp; try rfl) _ _ (KL.out _ hM4) ?_
                      intro wd hbc
                      have hS := And.intro ((hbc.cell (p := ⟨wr.heap.size, 0, none⟩) hbl4).trans hS.1) (And.intro ((hbc.cell (p := ⟨wr.heap.size, 1, none⟩) hbl4).trans hS.2.1) ((hbc.cell (p := ⟨wr.heap.size, 2, none⟩) hbl4).trans hS.2.2))
                      have gbd := gb.below hbc
                      have hbD := hbB.trans (hbc.mono hbB.size)
                      refine ⟨hS, ?_⟩
                      refine wpAnyH_take (i := 6) (v := ?_) rfl (by kernel_rfl) (by kernel_rfl) (by kernel_rfl) (fun _ _ _ h => h) (Or.inl ⟨by kernel_rfl, ?_⟩) hS ?_
                      rotate_left 1
                      · intro W' hb'; go_simp; try exact rfl
                      refine wpAnyH_all (rs := [8]) (by kernel_rfl) (by simp) ?_
                      intro kk hkk
                      simp only [List.mem_singleton] at hkk
                      subst hkk
                      go_simp
                      have ⟨g0, g1, g2, g3, g4, g5⟩ := gbd.box
                      have f0 := gbd.fz 0
                      have f1 := gbd.fz 1
                      have f2 := gbd.fz 2
                      have f3 := gbd.fz 3
                      have f4 := gbd.fz 4
                      have f5 := gbd.fz 5
                      have hfar : ∀ (X : World) (k k' : Nat) (u : Value), (X.setCell ⟨W3.heap.size, k, none⟩ u).cell? ⟨wr.heap.size, k', none⟩ = X.cell? ⟨wr.heap.size, k', none⟩ := fun X k k' u => World.cell?_setCell_other _ _ _ _ (by intro e; injection e with e; omega)
                      have Hfar := Lib.hid hfar
                      clear hfar
                      refine wpOp_store rfl (by kernel_rfl) ((((((wd.setCell ⟨W3.heap.size, 0, none⟩ (.int .i64 (i : Nat))).setCell ⟨W3.heap.size, 1, none⟩ (.int .i64 (x.frm : Nat))).setCell ⟨W3.heap.size, 2, none⟩ (.int .i64 (x.til : Nat))).setCell ⟨W3.heap.size, 3, none⟩ (str x.text)).setCell ⟨W3.heap.size, 4, none⟩ (str LL)).setCell ⟨W3.heap.size, 5, none⟩ (.int .i64 (-1))) (by go_simp; try rfl) ?_
                      clear g0 g1 g2 g3 g4 g5 f0 f1 f2 f3 f4 f5
                      have hF := Hfar.out
                      refine ⟨⟨by rw [hF, hF, hF, hF, hF, hF]; exact hS.1, by rw [hF, hF, hF, hF, hF, hF]; exact hS.2.1, by rw [hF, hF, hF, hF, hF, hF]; exact hS.2.2⟩, ?_⟩
                      clear hF
                      refine wpAnyH_done (by kernel_rfl) ?_ _
                      have hf1 := gbd.fill ⟨i, x, LL, -1⟩
                      have hf2 := below_six hbD (Nat.le_of_lt hbl3) (.int .i64 (i : Nat)) (.int .i64 (x.frm : Nat)) (.int .i64 (x.til : Nat)) (str x.text) (str LL) (.int .i64 (-1)) 0 1 2 3 4 5
                      simp only at hf1
                      have Hfin := Lib.hid (And.intro (Nat.le_of_lt hbl3) (And.intro hf1 hf2))
                      clear hf1 hf2 hS
                      go_simp
                      go_wp2_with fail
                      go_meet
                      exact ⟨_, rfl, Hfin.out⟩
                  case rest =>
                    obtain ⟨gbl, rfl, hgw, gb, hbyB⟩ := hcut
                    obtain ⟨bb2, hbb2⟩ : ∃ b, b = (LL == []) := ⟨_, rfl⟩
                    have hbr2 := hbb2.symm
                    have Hbb2 := Lib.hid hbb2
                    have Hgb := Lib.hid gb
                    have HbyB := Lib.hid hbyB
                    have HownX := Lib.hid hown'
                    have Hbelx := Lib.hid hbelx
                    have ⟨g0, g1, g2, g3, g4, g5⟩ := gb.box
                    clear hbb2 gb hown' c0 c1 c2 KL hM3
                    go_upto_if 70 with (fail)
                    clear hbr2 g0 g1 g2 g3 g4 g5
                    go_cut [] from 68 to 76 (fun wx => GB wx gbl (goalOf F L i ff x) ∧ Below wr.heap.size wr wx)
                    case first =>
                      have hll := HLL.out
                      have hbb2 := Hbb2.out
                      by_cases hl0 : LL = []
                      · obtain rfl : bb2 = true := by rw [hbb2, hl0]; rfl
                        have hg : goalOf F L i ff x = ⟨i, x, LL, -1⟩ := by unfold goalOf; rw [← hll, if_pos hl0]
                        have Hg := Lib.hid hg
                        clear hg hl0 hll hbb2
                        go_wp2_with fail
                        go_meet
                        rw [Hg.out]
                        exact ⟨Hgb.out, HbyB.out⟩
                      · obtain rfl : bb2 = false := by rw [hbb2]; simpa using hl0
                        have hg : goalOf F L i ff x = ⟨i, x, LL, findG F L LL⟩ := by unfold goalOf; rw [← hll, if_neg hl0]
                        have hbely := Hbelx.out.trans (HbyB.out.mono Hbelx.out.size)
                        have KN := find_any n c1' c2' (some ⟨b, off, none⟩) (some ⟨bt, offt, none⟩) (F.map bareD) L LL wc ((Hs1.out.below hbely).more hbely.size) ((Sl.below Hs2.out hbely).more hbely.size) (by omega) (by unfold maxLen; omega) Hws.out
                        rw [show findG (F.map bareD) L LL = findG F L LL from findF_bare _ _ _ _] at KN
                        obtain ⟨fd, hfd⟩ : ∃ fd, fd = findG F L LL := ⟨_, rfl⟩
                        rw [← hfd] at KN hg
                        have Hg := Lib.hid hg
                        have ⟨g0, g1, g2, g3, g4, g5⟩ := Hgb.out.box
                        have KNh := Lib.hid KN
                        clear hg hl0 hfd KN hll hbb2 hbely
                        go_wp2_with fail
                        refine KNh.out.mono ?_
                        rintro e wf ⟨rfl, hbf⟩
                        have gbf := Hgb.out.below hbf
                        have gfz := gbf.fz 5
                        clear g0 g1 g2 g3 g4 g5
                        have ⟨_, _, _, _, _, g5⟩ := gbf.box
                        have gb5 := gbf.set5 fd
                        have hbz5 := (HbyB.out.trans (hbf.mono HbyB.out.size)).setCell (p := ⟨gbl, 5, none⟩) hgw (.int .i64 fd)
                        simp only at gb5
                        have Hfin := Lib.hid (And.intro gb5 hbz5)
                        clear gb5 hbz5 gbf hbf
                        go_wp2_with fail
                        go_meet
                        rw [Hg.out]
                        exact Hfin.out
                    case rest =>
                      obtain ⟨gb, hbyB⟩ := hcut
                      have hown4 : wc.ownsRow w2.heap.size 55 6 (.slice S' m' c') m' (goalC out') := own_below HownX.out hbyB
                      have hbel4 := hbelx.trans (hbyB.mono hbelx.size)
                      have hsl4 := (Sl.below Hsl3.out (hbyB.mono hsz3))
                      have hsz4 := Nat.le_trans hsz3 hbyB.size
                      obtain ⟨gx, hgx⟩ : ∃ gx, gx = goalOf F L i ff x := ⟨_, rfl⟩
                      rw [← hgx] at gb
                      have Hgx := Lib.hid hgx
                      have ⟨g0, g1, g2, g3, g4, g5⟩ := gb.box
                      have hone : ∀ u ∈ goalCells gx, u.oneCell' = true := by
                        intro u hu
                        exact goalC_one [gx] u (by simpa [goalC] using hu)
                      have Hone := Lib.hid hone
                      have hmb : m' ≤ 800 := by have := Hmj.out; omega
                      have h63 : m' + 1 ≤ maxLen := by unfold maxLen; omega
                      have h47 : (m' + 1) * 64 ≤ 140737488355328 := by omega
                      have hbase : w2.heap.size ≤ wc.heap.size := hbel4.size
                      have Hown4 := Lib.hid hown4
                      have Hsl4 := Lib.hid hsl4
                      have Hbel4 := Lib.hid hbel4
                      obtain ⟨hi0, hz0, hz1, hz2⟩ := HI0.out
                      clear hgx hone HownX hown4 hsl4 hbel4 hbelx hbyB gb
                      go_upto_region 22 with fail
                      go_wp2_with (at_builtin; refine wpList_app2 rfl _ _ 45 rfl w2.heap.size 55 i0 _ 6 64 Tryz.underlying45 hi0 hz0 hz1 hz2 rfl (by decide) S' m' c' (goalC out') rfl (Hown4.out.alloc _) _ _ 1 1 (goalCells gx) rfl (Sl.row _ _ 6 1 _ rfl) Hone.out h63 h47 ?c2 ?_)
                      case c2 => simp; omega
                      intro S5 c5 w5 hown5 hb5 hgr5 hat5
                      have hal := Hsl4.out.alloc hsz4 (.cells (goalCells gx).toArray 55)
                      have hsl5 := Sl.grown2 hal (by simp; omega) hgr5 Hap'.out
                      have hap5 := Apart.next Hap'.out hal (by simp; omega) (by omega) (by rw [World.size_alloc]; exact hat5)
                      have hbel5 := (Hbel4.out.alloc hbase (.cells (goalCells gx).toArray 55)).trans hb5
                      have hsz5 : w3.heap.size ≤ w5.heap.size := by
                        have := hgr5.size
                        simp at this
                        omega
                      rw [show goalC out' ++ goalCells gx = goalC (out' ++ [gx]) from by rw [goalC_app]; simp [goalC]] at hown5
                      have Hfin := Lib.hid (And.intro hown5 (And.intro hbel5 (And.intro hsl5 (And.intro hsz5 hap5))))
                      clear hown5 hbel5 hsl5 hap5 hal hb5 hgr5 hat5 g0 g1 g2 g3 g4 g5 hi0 hz0 hz1 hz2
                      go_wp2_with fail
                      obtain ⟨e1, e2, e3, e4, e5⟩ := Hfin.out
                      refine ⟨⟨j + 1, m' + 1, c5, S5, out' ++ [gx], by go_num, by omega, rfl, by simp [Hm'.out], by have := Hmj.out; omega, Lib.hid ?_, e1, e2, e3, e4, e5⟩, by simp [intOf]; omega⟩
                      rw [HO.out, Hgx.out]
                      exact goals_next _ ls j x Hdl.out out
                · obtain rfl : j = m3 := by omega
                  have hbelx' := Lib.hid hbelx
                  have HownX := Lib.hid hown'
                  clear hbelx hown'
                  go_wp2_with fail
                  refine ⟨⟨i + 1, m', c', S', out', rfl, rfl, by go_num, by omega, rfl, Hm'.out, by have := Hmj.out; omega, HownX.out, hbelx'.out, Lib.hid ?_⟩, by simp [intOf]; omega⟩
                  have h1 := HO.out
                  rw [List.take_of_length_le (by rw [← Hm3.out]; exact Nat.le_refl _)] at h1
                  rw [h1]
                  exact Hst.out
          · have hfe : ls = [] ∧ fe = 2 := by rcases h2 with h2 | h2; exact absurd h2 he; injection h2 with h2 h3; exact ⟨h2, h3⟩
            obtain ⟨rfl, rfl⟩ := hfe
            rw [if_neg (by decide)] at hst
            have Hst := Lib.hid hst
            clear hst h2 he
            go_wp2_with fail
            go_ret2
            have hr := HR.out
            rw [← HRR.out, ← Hst.out] at hr
            rw [hr]
            exact ⟨none, 0, rfl, World.ownsRow_nil _ _ _ _, Hbel2.out.trans (hbel3.mono Hbel2.out.size)⟩
        · have ht1 : (q.type == [116, 101, 120, 116, 47, 104, 116, 109, 108]) = false := by simpa [htmlB] using ht
          have hst := Hstep.out
          rw [if_neg ht] at hst
          have Hst := Lib.hid hst
          have Hown := Lib.hid hown1
          clear hst ht hown1
          go_wp2_with fail
          exact ⟨⟨i + 1, m, c, S, out, rfl, rfl, by go_num, by omega, rfl, Hm.out, by omega, Hown.out, hbel1, Hst⟩, by simp [intOf]; omega⟩
      · obtain rfl : i = n := by omega
        have hfin := HS.out
        rw [List.drop_eq_nil_of_le (by rw [← Hn.out]; exact Nat.le_refl _), goalsF] at hfin
        have Hfin := Lib.hid hfin
        have Hown := Lib.hid hown
        have Hbel := Lib.hid hbel
        clear hfin hown hbel HS
        go_wp2_with fail
        go_ret2
        have hr := HR.out
        rw [← HRR.out, ← Hfin.out] at hr
        rw [hr]
        obtain rfl := Hm.out
        have hb := Hbel2.out
        exact ⟨_, _, rfl, own_base Hown.out hb.size, hb.trans (Hbel.out.mono hb.size)⟩
  · have hK1 : ((K : Int) != 0) = true := by simp; omega
    simp only [if_neg hK] at Hal hR
    have HR := Lib.hid hR
    clear hok hK hR
    go_enter Tryz.func32, Tryz.ntmps32
    go_wp2_with fail
    rw [← hW]
    clear hW
    refine (Hal.out W ((Hp.out.below hbW).more hbW.size)).mono ?_
    rintro e w1 ⟨S1, c1, rfl, hs1, hc1, hm1, hb1⟩
    have hbel1 := hbW.trans (hb1.mono hbW.size)
    clear hbx hb1 hbW Hal hs1
    go_wp2_with fail
    go_ret2
    rw [HR.out]
    exact ⟨none, 0, rfl, World.ownsRow_nil _ _ _ _, hbel1⟩
end Go.Proofs.YtlbdnohnngkapaaGreatDoor

namespace Go.Proofs.YtlbdnohnngkapaaGreatDoor
open Go.RowKit

/-! ### Plain laws of what package bundle computes -/
theorem read_ab : readU [97, 58, 98] = (⟨[97], false, [], [98], false, [], false, []⟩, 0) := by kernel_rfl
/-- Where one is led is an address with a scheme, and leads to itself. -/
theorem led_led {f t : List UInt8} (h : ledB f t ≠ []) : ∃ x, readU (ledB f t) = (x, 0) ∧ x.scheme ≠ [] ∧ ledB [97, 58, 98] (ledB f t) = ledB f t := by
  by_cases hf : (readU f).2 ≠ 0
  · exact absurd (by unfold ledB; rw [if_pos hf]) h
  · by_cases ht : (readU t).2 ≠ 0
    · exact absurd (by unfold ledB; rw [if_neg hf, if_pos ht]) h
    · by_cases hl : (leadU (readU f).1 (readU t).1).2 ≠ 0
      · exact absurd (by unfold ledB; rw [if_neg hf, if_neg ht, if_pos hl]) h
      · have he : ledB f t = (printU (leadU (readU f).1 (readU t).1).1).1 := by unfold ledB; rw [if_neg hf, if_neg ht, if_neg hl]
        obtain ⟨x, hx⟩ : ∃ x, x = (leadU (readU f).1 (readU t).1).1 := ⟨_, rfl⟩
        have hL : leadU (readU f).1 (readU t).1 = (x, 0) := by
          rw [hx]
          exact Prod.ext rfl (by simpa using hl)
        obtain ⟨_, _, hs, hu, hc⟩ := lead_parts hL
        have hp : printU x = (textU x, 0) := by unfold printU; rw [if_pos hc]
        have hxs : x.scheme ≠ [] := by rw [hu, (undot_path _).2.1]; exact (led_scheme hs).1
        rw [he, ← hx, hp]
        refine ⟨x, read_text hc, hxs, ?_⟩
        unfold ledB
        rw [read_ab]
        simp only
        rw [read_text hc, lead_self hL (show checkU _ = 0 by kernel_rfl) (by simp), hp]
        simp
theorem whereF_pre : ∀ (F : List PartD) (T : List Int) (out : List (List UInt8)), (whereF F T out).take out.length = out
  | [], _, out => by rw [whereF]; simp
  | _ :: _, [], out => by rw [whereF]; simp
  | x :: xs, k :: ks, out => by
    rw [whereF]
    have h := whereF_pre xs ks (out ++ [stepW out x.loc k])
    have := congrArg (List.take out.length) h
    rw [List.take_take] at this
    simpa [Nat.min_eq_left] using this
theorem whereF_at : ∀ (F : List PartD) (T : List Int) (out : List (List UInt8)) (i : Nat) (x : PartD) (k : Int), F[i]? = some x → T[i]? = some k →
    (whereF F T out)[out.length + i]? = some (stepW ((whereF F T out).take (out.length + i)) x.loc k)
  | [], _, _, i, x, k, h, _ => by simp at h
  | _ :: _, [], _, i, x, k, _, h => by simp at h
  | y :: xs, k' :: ks, out, 0, x, k, h1, h2 => by
    simp at h1 h2
    subst h1; subst h2
    have h := whereF_pre (y :: xs) (k' :: ks) out
    rw [Nat.add_zero, h, whereF]
    have h2 := congrArg (·[out.length]?) (whereF_pre xs ks (out ++ [stepW out y.loc k']))
    simpa [List.getElem?_take] using h2
  | y :: xs, k' :: ks, out, i + 1, x, k, h1, h2 => by
    have h := whereF_at xs ks (out ++ [stepW out y.loc k']) i x k (by simpa using h1) (by simpa using h2)
    rw [whereF]
    rw [List.length_append, List.length_singleton, show out.length + 1 + i = out.length + (i + 1) by omega] at h
    exact h
theorem fromW_take (W : List (List UInt8)) (i : Nat) (k : Int) (h : k < i) : fromW (W.take i) k = fromW W k := by
  unfold fromW
  by_cases h0 : 0 ≤ k
  · have : k.toNat < i := by omega
    rw [show (W.take i).getD k.toNat [] = W.getD k.toNat [] by simp [List.getD_eq_getElem?_getD, this]]
  · rw [if_neg (fun e => h0 e.1), if_neg (fun e => h0 e.1)]
/-- Where a part is, told by where the others are. -/
theorem where_at (p : PartD) (hch : ∀ q ∈ flatD p, chkD q = 0) (i : Nat) (hi : i < (flatD p).length) : ∃ (x : PartD) (k : Int) (s : List UInt8), (flatD p)[i]? = some x ∧ (wthD p 0 (-1))[i]? = some k ∧ -1 ≤ k ∧ k < i ∧ (whereD p)[i]? = some s ∧
    s = (if x.loc = [] then fromW (whereD p) k else ledB (fromW (whereD p) k) x.loc) := by
  obtain ⟨k, _, hk, h1, h2⟩ := wth_at p hch i hi
  have hx := List.getElem?_eq_getElem hi
  have h := whereF_at (flatD p) (wthD p 0 (-1)) [] i _ k hx hk
  rw [List.length_nil, Nat.zero_add] at h
  refine ⟨_, k, _, hx, hk, h1, h2, h, ?_⟩
  unfold stepW
  rw [fromW_take _ i k h2]
  rfl
theorem goalsF_pre (F0 : List PartD) (W0 : List (List UInt8)) : ∀ (F : List PartD) (W : List (List UInt8)) (i : Nat) (out G : List GoalD), goalsF F0 W0 F W i out = some G → G.take out.length = out
  | [], _, i, out, G, h => by
    rw [goalsF] at h
    injection h with h
    subst h
    simp
  | _ :: _, [], i, out, G, h => by
    rw [goalsF] at h
    injection h with h
    subst h
    simp
  | x :: xs, s :: ss, i, out, G, h => by
    rw [goalsF] at h
    split at h
    · split at h
      · have h1 := goalsF_pre F0 W0 xs ss (i + 1) _ G h
        have := congrArg (List.take out.length) h1
        rw [List.take_take] at this
        simpa [Nat.min_eq_left] using this
      · cases h
    · exact goalsF_pre F0 W0 xs ss (i + 1) out G h
/-- One page's goals stand where they belong. -/
theorem goals_page {F0 : List PartD} {W0 : List (List UInt8)} {F : List PartD} {W : List (List UInt8)} {i k : Nat} {f : List UInt8} {ls : List LinkD} {G : List GoalD} (hk : k ≤ G.length) (h : goalsF F0 W0 F W i (G.take k ++ ls.map (goalOf F0 W0 (i - 1) f)) = some G) :
    k + ls.length ≤ G.length ∧ G.take k ++ ls.map (goalOf F0 W0 (i - 1) f) = G.take (k + ls.length) ∧ ∀ j (hj : j < ls.length), G[k + j]? = some (goalOf F0 W0 (i - 1) f ls[j]) := by
  have h1 := goalsF_pre F0 W0 F W i _ G h
  have hl : (G.take k ++ ls.map (goalOf F0 W0 (i - 1) f)).length = k + ls.length := by simp [Nat.min_eq_left hk]
  rw [hl] at h1
  have h2 := congrArg List.length h1
  rw [hl, List.length_take] at h2
  refine ⟨by omega, h1.symm, fun j hj => ?_⟩
  have h3 : G[k + j]? = (G.take (k + ls.length))[k + j]? := by rw [List.getElem?_take, if_pos (by omega)]
  rw [h3, h1, List.getElem?_append_right (by simp [Nat.min_eq_left hk]), List.length_take, Nat.min_eq_left hk, Nat.add_sub_cancel_left, List.getElem?_map, List.getElem?_eq_getElem hj]
  rfl
theorem findF_range : ∀ (F : List PartD) (L : List (List UInt8)) (t : List UInt8) (i : Nat), -1 ≤ findF F L t i ∧ findF F L t i < ((i + F.length : Nat) : Int)
  | [], _, t, i => by rw [findF]; omega
  | _ :: _, [], t, i => by rw [findF]; omega
  | x :: xs, h :: hs, t, i => by
    rw [findF]
    have := findF_range xs hs t (i + 1)
    rw [List.length_cons]
    split <;> omega
end Go.Proofs.YtlbdnohnngkapaaGreatDoor

namespace Go.Proofs.YtlbdnohnngkapaaGreatDoor
open Go.RowKit

/-! ### Where parts are, told going down the tree -/
def meW (loc a : List UInt8) : List UInt8 := if loc = [] then fromG a else ledB (fromG a) loc
mutual
def walkW : PartD → List UInt8 → List (List UInt8)
  | ⟨_, _, _, loc, _, _, parts⟩, a => meW loc a :: walksW parts (meW loc a)
def walksW : List PartD → List UInt8 → List (List UInt8)
  | [], _ => []
  | p :: ps, a => walkW p a ++ walksW ps a
end
mutual
theorem walkW_len : ∀ (p : PartD) (a : List UInt8), (walkW p a).length = (flatD p).length
  | ⟨t, cs, id, loc, how, body, parts⟩, a => by rw [walkW, flatD, List.length_cons, List.length_cons, walksW_len parts]
theorem walksW_len : ∀ (ps : List PartD) (a : List UInt8), (walksW ps a).length = (flatsD ps).length
  | [], _ => by rw [walksW, flatsD]; rfl
  | p :: ps, a => by rw [walksW, flatsD, List.length_append, List.length_append, walkW_len p, walksW_len ps]
end
def aheadW (out : List (List UInt8)) (me : Int) : List UInt8 := if 0 ≤ me then out.getD me.toNat [] else []
theorem step_me (out : List (List UInt8)) (loc : List UInt8) (me : Int) : stepW out loc me = meW loc (aheadW out me) := by
  have h : fromW out me = fromG (aheadW out me) := by
    unfold fromW fromG aheadW
    by_cases h0 : 0 ≤ me
    · simp only [h0, true_and, if_true]
      by_cases h1 : out.getD me.toNat [] = []
      · rw [if_neg (by simpa using h1), if_pos h1]
      · rw [if_pos h1, if_neg h1]
    · simp [h0]
  unfold stepW meW
  rw [h]
mutual
theorem where_walk : ∀ (p : PartD) (F : List PartD) (T : List Int) (out : List (List UInt8)) (me : Int), whereF (flatD p ++ F) (wthD p out.length me ++ T) out = whereF F T (out ++ walkW p (aheadW out me))
  | ⟨t, cs, id, loc, how, body, parts⟩, F, T, out, me => by
    rw [flatD, wthD, walkW, List.cons_append, List.cons_append, whereF]
    simp only
    rw [step_me]
    have hl : (out ++ [meW loc (aheadW out me)]).length = out.length + 1 := by simp
    have h := where_walks parts F T (out ++ [meW loc (aheadW out me)]) out.length (by omega)
    rw [hl] at h
    rw [h]
    have e : (out ++ [meW loc (aheadW out me)]).getD out.length [] = meW loc (aheadW out me) := by simp [List.getD]
    rw [e, List.append_assoc]
    rfl
theorem where_walks : ∀ (ps : List PartD) (F : List PartD) (T : List Int) (out : List (List UInt8)) (me : Nat), me < out.length → whereF (flatsD ps ++ F) (wthsD ps out.length me ++ T) out = whereF F T (out ++ walksW ps (out.getD me []))
  | [], F, T, out, me, _ => by rw [flatsD, wthsD, walksW]; simp
  | p :: ps, F, T, out, me, h => by
    rw [flatsD, wthsD, walksW, List.append_assoc, List.append_assoc, where_walk p]
    have ea : aheadW out (me : Int) = out.getD me [] := by unfold aheadW; rw [if_pos (by omega), Int.toNat_natCast]
    rw [ea]
    have hl : (out ++ walkW p (out.getD me [])).length = out.length + (flatD p).length := by rw [List.length_append, walkW_len]
    have h2 := where_walks ps F T (out ++ walkW p (out.getD me [])) me (by omega)
    rw [hl] at h2
    rw [h2]
    have e : (out ++ walkW p (out.getD me [])).getD me [] = out.getD me [] := by
      simp only [List.getD]
      rw [List.getElem?_append_left h]
    rw [e, List.append_assoc]
end
theorem whereD_walk (p : PartD) : whereD p = walkW p [] := by
  have h := where_walk p [] [] [] (-1)
  simp only [List.append_nil, List.length_nil, List.nil_append] at h
  unfold whereD
  rw [h]
  unfold aheadW
  rw [if_neg (by omega)]
  cases walkW p [] <;> rfl
end Go.Proofs.YtlbdnohnngkapaaGreatDoor

namespace Go.Proofs.YtlbdnohnngkapaaGreatDoor
open Go.RowKit

/-! ### The document's small, isScheme, between -/
def capsL : List UInt8 := [65, 66, 67, 68, 69, 70, 71, 72, 73, 74, 75, 76, 77, 78, 79, 80, 81, 82, 83, 84, 85, 86, 87, 88, 89, 90]
theorem caps_is : ∀ x : Fin 256, decide (0 ≤ Lib.indexByte capsL (UInt8.ofNat x.val)) = (decide (65 ≤ x.val) && decide (x.val ≤ 90)) := by decide +kernel
set_option maxRecDepth 100000 in
set_option maxHeartbeats 1000000 in
theorem small_any (l : List UInt8) (w : World) (hl : l.length ≤ maxLen) : Calls Tryz.prog 207 #[str l] w fun e w' => e = .returned (str (lowL l)) ∧ Below w.heap.size w w' := by
  unfold maxLen at hl
  obtain ⟨c, w1, hconv, hown, hc, hb1, hsz⟩ := run_toOwn (P := Tryz.prog) w 9 22 5 l Tryz.underlying9 Tryz.underlying22 Tryz.underlying5 rfl
  obtain ⟨n, hn⟩ : ∃ n, n = l.length := ⟨_, rfl⟩
  rw [← hn] at hconv hl hc
  have Hn := Lib.hid hn
  have Hown := Lib.hid hown
  have Hsz := Lib.hid hsz
  clear hn hown hsz
  go_enter Tryz.func207, Tryz.ntmps207
  go_wp2_with fail
  go_loopw [4, 9] (fun _ iv wr => LowRel w n l iv wr) (fun _ iv _ => n - (intOf iv).toNat)
  case atStart => exact ⟨0, by omega, rfl, hb1, by simpa using Hown.out⟩
  case round =>
    obtain ⟨k, hk, rfl, hbel, hO⟩ := hrel
    have hlen : ((l.take k).map lowB ++ l.drop k).length = n := by
      simp only [List.length_append, List.length_map, List.length_take, List.length_drop]; have := Hn.out; omega
    by_cases hkn : k < n
    · have hkl : k < l.length := by rw [← Hn.out]; exact hkn
      have hfz := hO.fz k (by rw [hlen]; exact hkn)
      have hcell : wr.cell? ⟨w.heap.size, k, none⟩ = some (.int .u8 (nth l k)) := by
        obtain ⟨b, off, hA, _, hc⟩ := hO.by_.opn (by rw [hlen]; omega)
        injection hA with hA
        injection hA with hA hB _
        subst hA
        subst hB
        have := hc k (by rw [hlen]; exact hkn)
        rw [Nat.zero_add] at this
        rw [this]
        have e : nth ((l.take k).map lowB ++ l.drop k) k = nth l k := by
          have : ((l.take k).map lowB).length = k := by simp; omega
          unfold nth
          simp only [List.getD]
          rw [List.getElem?_append_right (by omega), this, Nat.sub_self, List.getElem?_drop, Nat.add_zero]
        rw [e]
      have hx := nth_lt l k
      have hset := (low_at l k hkl).2
      have hnk : l[k].toNat = nth l k := (nth_of l k hkl).symm
      have hO2 := hO.set k (lowB l[k])
      rw [← hset] at hO2
      have hI := fun W => IndexByte_any capsL (nth l k) W
      have hcap := caps_is ⟨nth l k, hx⟩
      simp only at hcap
      generalize Lib.indexByte capsL (UInt8.ofNat (nth l k)) = z at hI hcap
      have hI2 : ∀ W, Calls Tryz.prog 110 #[.string ⟨#[65, 66, 67, 68, 69, 70, 71, 72, 73, 74, 75, 76, 77, 78, 79, 80, 81, 82, 83, 84, 85, 86, 87, 88, 89, 90]⟩, .int .u8 (nth l k : Nat)] W fun e w' => e = .returned (.int .i64 z) ∧ W = w' := hI
      have HI := Lib.hid hI2
      have HO := Lib.hid hO
      have HO2 := Lib.hid hO2
      have Hset := Lib.hid hset
      have Hnk := Lib.hid hnk
      have Hlen := Lib.hid hlen
      clear hset hnk hO hO2 hlen hI hI2
      by_cases h12 : 65 ≤ nth l k ∧ nth l k ≤ 90
      · have hz : decide (0 ≤ z) = true := by rw [hcap]; simp [h12.1, h12.2]
        have hw32 : IntKind.u8.wrap (((nth l k : Nat) : Int) + 32) = ((nth l k + 32 : Nat) : Int) := by rw [IntKind.wrap_u8]; omega
        have Hz12 := Lib.hid h12
        have Hcap := Lib.hid hcap
        clear hcap h12
        go_wp2_with fail
        refine (HI.out _).mono ?_
        rintro e w2 ⟨rfl, rfl⟩
        go_wp2_with fail
        refine ⟨⟨k + 1, by omega, by go_num, hbel.setCell (Nat.le_refl _) _, ?_⟩, by simp [intOf]; omega⟩
        have e : (lowB l[k]).toNat = nth l k + 32 := by
          unfold lowB
          rw [if_pos ⟨UInt8.le_iff_toNat_le.2 (by rw [Hnk.out]; exact Hz12.out.1), UInt8.le_iff_toNat_le.2 (by rw [Hnk.out]; exact Hz12.out.2)⟩, UInt8.toNat_add, Hnk.out]
          show (nth l k + 32) % 256 = _
          have := Hz12.out
          omega
        have HO3 := HO2.out
        rw [e] at HO3
        first | exact HO3 | (push_cast at HO3; exact HO3)
      · have hz : decide (0 ≤ z) = false := by
          rw [hcap]
          rw [Bool.and_eq_false_iff, decide_eq_false_iff_not, decide_eq_false_iff_not]
          omega
        have hs : LowRel w n l (.int .i64 ((k + 1 : Nat) : Int)) wr := by
          refine ⟨k + 1, by omega, rfl, hbel, ?_⟩
          have e : lowB l[k] = l[k] := lowB_same (by rw [Hnk.out]; exact h12)
          rw [Hset.out, e]
          have e2 : ((l.take k).map lowB ++ l.drop k)[k]'(by rw [Hlen.out]; exact hkn) = l[k] := by
            have : ((l.take k).map lowB).length = k := by simp; omega
            rw [List.getElem_append_right (by omega)]
            simp only [List.getElem_drop]
            congr 1
            omega
          rw [← e2, List.set_getElem_self]
          exact HO.out
        have Hs := Lib.hid hs
        have Hcap := Lib.hid hcap
        clear hcap hs h12
        go_wp2_with fail
        refine (HI.out _).mono ?_
        rintro e w2 ⟨rfl, rfl⟩
        go_wp2_with fail
        exact ⟨by have := Hs.out; simpa using this, by simp [intOf]; omega⟩
    · have hkn' : k = n := by omega
      have hM : (l.take k).map lowB ++ l.drop k = lowL l := by
        rw [hkn', List.take_of_length_le (by rw [← Hn.out]; omega), List.drop_of_length_le (by rw [← Hn.out]; omega), List.append_nil]; rfl
      rw [hM] at hO hlen
      have hts := run_toStr (P := Tryz.prog) wr 22 9 5 _ (some ⟨w.heap.size, 0, none⟩) n c (lowL l) (by have := hO.by_; rw [hlen] at this; exact this) Tryz.underlying22 Tryz.underlying5 Tryz.underlying9
      clear hO hM hlen hkn'
      go_wp2_with fail
      go_ret
      exact ⟨rfl, hbel⟩
end Go.Proofs.YtlbdnohnngkapaaGreatDoor

namespace Go.Proofs.YtlbdnohnngkapaaGreatDoor
open Go.RowKit

/-! ### Are all bytes within bounds? -/
def okB (lo hi : Nat) (but : List UInt8) (x : Nat) : Bool := !(decide (x < lo) || decide (hi < x) || decide (0 ≤ Lib.indexByte but (x : Int).toNat.toUInt8))
theorem all_miss (l : List UInt8) (p : Nat → Bool) (k : Nat) (hk : k < l.length) (h : p (nth l k) = false) : l.all (fun b => p b.toNat) = false := by
  rw [List.all_eq_false]
  exact ⟨l[k], List.getElem_mem hk, by rw [← nth_of l k hk, h]; simp⟩
theorem all_hit (l : List UInt8) (p : Nat → Bool) (h : ∀ j, j < l.length → p (nth l j) = true) : l.all (fun b => p b.toNat) = true := by
  rw [List.all_eq_true]
  intro x hx
  obtain ⟨j, hj, rfl⟩ := List.getElem_of_mem hx
  rw [← nth_of l j hj, h j hj]
set_option maxRecDepth 100000 in
set_option maxHeartbeats 1000000 in
theorem between_any (l : List UInt8) (lo hi : Nat) (but : ByteArray) (w : World) (hl : l.length ≤ maxLen) (_h1 : lo < 256) (_h2 : hi < 256) :
    Calls Tryz.prog 141 #[str l, .int .u8 (lo : Nat), .int .u8 (hi : Nat), .string but] w fun e w' => e = .returned (.bool (l.all (fun b => okB lo hi but.data.toList b.toNat))) ∧ w' = w := by
  unfold maxLen at hl
  have hm := fun k => all_miss l (okB lo hi but.data.toList) k
  have ha := all_hit l (okB lo hi but.data.toList)
  generalize l.all (fun b => okB lo hi but.data.toList b.toNat) = r at hm ha ⊢
  obtain ⟨n, hn⟩ : ∃ n, n = l.length := ⟨_, rfl⟩
  rw [← hn] at hm ha hl
  have Hn := Lib.hid hn
  have Hm := Lib.hid hm
  have Ha := Lib.hid ha
  clear hn hm ha
  go_enter Tryz.func141, Tryz.ntmps141
  go_wp2_with fail
  rw [← Hn.out]
  go_loopw [12] (fun iv wr => ∃ k : Nat, k ≤ n ∧ iv = .int .i64 k ∧ wr = w ∧ Hid (∀ j, j < k → okB lo hi but.data.toList (nth l j) = true)) (fun iv _ => n - (intOf iv).toNat)
  case atStart => exact ⟨0, by omega, rfl, rfl, Lib.hid fun j hj => absurd hj (by omega)⟩
  case round =>
    obtain ⟨k, hk, rfl, rfl, hz⟩ := hrel
    by_cases hkn : k < n
    · have hkl : k < l.length := by rw [← Hn.out]; exact hkn
      have hmk := Hm.out k hkn
      have hx : nth l k < 256 := nth_lt l k
      by_cases c1 : nth l k < lo
      · have d1 : decide (((nth l k : Nat) : Int) < lo) = true := by simp; omega
        have hr : Hid (r = false) := hmk (by simp [okB, c1])
        clear hmk
        go_wp2_with fail
        go_ret
        exact ⟨by rw [hr.out]; rfl, rfl⟩
      · have d1 : decide (((nth l k : Nat) : Int) < lo) = false := by simp; omega
        by_cases c2 : hi < nth l k
        · have d2 : decide ((hi : Int) < (nth l k : Nat)) = true := by simp; omega
          have hr : Hid (r = false) := hmk (by simp [okB, c2])
          clear hmk
          go_wp2_with fail
          go_ret
          exact ⟨by rw [hr.out]; rfl, rfl⟩
        · have d2 : decide ((hi : Int) < (nth l k : Nat)) = false := by simp; omega
          have hib := fun W => Go.Proofs.Tryz.strings_IndexByte but (nth l k : Nat) W
          have hok : okB lo hi but.data.toList (nth l k) = !decide (0 ≤ Lib.indexByte but.data.toList ((nth l k : Nat) : Int).toNat.toUInt8) := by simp [okB, c1, c2]
          generalize Lib.indexByte but.data.toList ((nth l k : Nat) : Int).toNat.toUInt8 = z at hib hok
          have Hib := Lib.hid hib
          have Hok := Lib.hid hok
          clear hib hok
          by_cases c3 : 0 ≤ z
          · have d3 : decide (0 ≤ z) = true := by simpa using c3
            have hr : Hid (r = false) := hmk (by rw [Hok.out, d3]; rfl)
            clear hmk
            go_wp2_with fail
            refine (Hib.out _).mono ?_
            rintro e w1 ⟨rfl, rfl⟩
            go_wp2_with fail
            go_ret
            exact ⟨by rw [hr.out]; rfl, rfl⟩
          · have d3 : decide (0 ≤ z) = false := by simpa using c3
            clear hmk
            go_wp2_with fail
            refine (Hib.out _).mono ?_
            rintro e w1 ⟨rfl, rfl⟩
            go_wp2_with fail
            refine ⟨⟨k + 1, by omega, by go_num, trivial, Lib.hid fun j hj => ?_⟩, by simp [intOf]; omega⟩
            rcases Nat.lt_or_ge j k with h | h
            · exact hz.out j h
            · rw [show j = k from by omega, Hok.out, d3]; rfl
    · have hr : Hid (r = true) := Ha.out fun j hj => hz.out j (by omega)
      go_wp2_with fail
      go_ret
      exact ⟨by rw [hr.out]; rfl, rfl⟩

end Go.Proofs.YtlbdnohnngkapaaGreatDoor

namespace Go.Proofs.YtlbdnohnngkapaaGreatDoor
open Go.RowKit

/-! ### The document's tests of texts -/
/-! ### In url's own words -/
def notS (but : List UInt8) : List UInt8 := [34, 60, 62, 92, 94, 96, 123, 124, 125] ++ but
theorem ok_host : ∀ x : Fin 256, okB 33 126 (notS ([47, 63, 35] ++ capsL)) x.val = (!badU [47, 63, 35] x.val && !(decide (65 ≤ x.val) && decide (x.val ≤ 90))) := by decide +kernel
theorem ok_path : ∀ x : Fin 256, okB 33 126 (notS [63, 35]) x.val = !badU [63, 35] x.val := by decide +kernel
theorem ok_frag : ∀ x : Fin 256, okB 33 126 (notS [35]) x.val = !badU [35] x.val := by decide +kernel
theorem wordU_all (l but : List UInt8) : wordU l but = l.all (fun b => !badU but b.toNat) := by
  unfold wordU
  rw [List.all_eq_not_any_not]
  simp
theorem between_path (l : List UInt8) : l.all (fun b => okB 33 126 (notS [63, 35]) b.toNat) = wordU l [63, 35] := by
  rw [wordU_all]
  congr 1
  funext b
  exact ok_path ⟨b.toNat, b.toNat_lt⟩
theorem between_frag (l : List UInt8) : l.all (fun b => okB 33 126 (notS [35]) b.toNat) = wordU l [35] := by
  rw [wordU_all]
  congr 1
  funext b
  exact ok_frag ⟨b.toNat, b.toNat_lt⟩
theorem low_all (l : List UInt8) : (l == lowL l) = l.all (fun b => !(decide (65 ≤ b.toNat) && decide (b.toNat ≤ 90))) := by
  induction l with
  | nil => rfl
  | cons a l ih =>
    rw [List.all_cons, ← ih, Bool.eq_iff_iff]
    simp only [lowL, List.map_cons, beq_iff_eq, List.cons.injEq, Bool.and_eq_true, Bool.not_eq_true', Bool.and_eq_false_iff, decide_eq_false_iff_not]
    constructor
    · rintro ⟨h1, h2⟩
      refine ⟨?_, h2⟩
      have := congrArg UInt8.toNat h1
      rw [lowB_nat] at this
      split at this <;> omega
    · rintro ⟨h1, h2⟩
      exact ⟨(lowB_same (by omega)).symm, h2⟩
theorem all_and (l : List UInt8) (p q : UInt8 → Bool) : l.all (fun b => p b && q b) = (l.all p && l.all q) := by
  induction l with
  | nil => rfl
  | cons a l ih =>
    rw [List.all_cons, List.all_cons, List.all_cons, ih]
    cases p a <;> cases q a <;> cases l.all p <;> rfl
theorem between_host (l : List UInt8) : l.all (fun b => okB 33 126 (notS ([47, 63, 35] ++ capsL)) b.toNat) = (wordU l [47, 63, 35] && (l == lowL l)) := by
  rw [wordU_all, low_all, ← all_and]
  congr 1
  funext b
  exact ok_host ⟨b.toNat, b.toNat_lt⟩
def schS2 : List UInt8 := [97, 98, 99, 100, 101, 102, 103, 104, 105, 106, 107, 108, 109, 110, 111, 112, 113, 114, 115, 116, 117, 118, 119, 120, 121, 122, 48, 49, 50, 51, 52, 53, 54, 55, 56, 57, 43, 45, 46]
theorem sch_set : ∀ x : Fin 256, schS2.contains (UInt8.ofNat x.val) = schC x.val := by decide +kernel
theorem trim_all (l cs : List UInt8) : (Lib.trimS l cs == []) = l.all (fun b => cs.contains b) := by
  have h1 : ∀ l : List UInt8, (l.dropWhile (cs.contains ·) == []) = l.all (fun b => cs.contains b) := by
    intro l
    induction l with
    | nil => rfl
    | cons a l ih =>
      rw [List.dropWhile_cons, List.all_cons]
      cases h : cs.contains a
      · rfl
      · rw [if_pos rfl, Bool.true_and]; exact ih
  have h2 : (Lib.trimRightS l cs).all (fun b => cs.contains b) = l.all (fun b => cs.contains b) := by
    unfold Lib.trimRightS
    rw [List.all_reverse]
    have h3 : ∀ l : List UInt8, (l.dropWhile (cs.contains ·)).all (fun b => cs.contains b) = l.all (fun b => cs.contains b) := by
      intro l
      induction l with
      | nil => rfl
      | cons a l ih =>
        rw [List.dropWhile_cons, List.all_cons]
        cases h : cs.contains a
        · rw [if_neg (by simp), List.all_cons, h]
        · rw [if_pos rfl, Bool.true_and]; exact ih
    rw [h3, List.all_reverse]
  unfold Lib.trimS Lib.trimLeftS
  rw [h1, h2]
theorem Trim_sch (l : List UInt8) (w : World) (hl : l.length ≤ maxLen) : Calls Tryz.prog 76 #[str l, .string ⟨schS2.toArray⟩] w fun e w' => e = .returned (str (Lib.trimS l schS2)) ∧ Below w.heap.size w w' :=
  Any.strings_Trim_laid Go.Proofs.Tryz.lays160 (by kernel_rfl) ⟨l.toArray⟩ ⟨schS2.toArray⟩ w (by unfold maxLen at hl; simpa [ByteArray.size] using hl) (by decide) (ascii_of_all (by decide))
set_option maxRecDepth 100000 in
set_option maxHeartbeats 1000000 in
theorem isScheme_any (l : List UInt8) (w : World) (hl : l.length ≤ maxLen) : Calls Tryz.prog 208 #[str l] w fun e w' => e = .returned (.bool (schemeU l)) ∧ Below w.heap.size w w' := by
  by_cases h0 : l = []
  · subst h0
    go_enter Tryz.func208, Tryz.ntmps208
    go_wp2_with fail
    go_ret
    exact ⟨rfl, Below.refl _ _⟩
  · have e0 : (l == []) = false := by simpa using h0
    have hp : 0 < l.length := List.length_pos_iff.2 h0
    have hT : ∀ W, Calls Tryz.prog 76 #[str l, .string ⟨#[97, 98, 99, 100, 101, 102, 103, 104, 105, 106, 107, 108, 109, 110, 111, 112, 113, 114, 115, 116, 117, 118, 119, 120, 121, 122, 48, 49, 50, 51, 52, 53, 54, 55, 56, 57, 43, 45, 46]⟩] W fun e w' => e = .returned (str (Lib.trimS l schS2)) ∧ Below W.heap.size W w' := fun W => Trim_sch l W hl
    have hc := trim_all l schS2
    have hall : l.all (fun b => schS2.contains b) = l.all (fun b => schC b.toNat) := by
      congr 1
      funext b
      have := sch_set ⟨b.toNat, b.toNat_lt⟩
      rw [ofNat_toNat8] at this
      exact this
    rw [hall] at hc
    have hsU : schemeU l = (l.all (fun b => schC b.toNat) && (false || schA (nth l 0))) := by rw [lowC_scheme, e0]
    generalize l.all (fun b => schC b.toNat) = q at hc hsU
    generalize Lib.trimS l schS2 = t at hT hc
    obtain ⟨R, hR⟩ : ∃ R, R = schemeU l := ⟨_, rfl⟩
    rw [← hR] at hsU ⊢
    have HT := Lib.hid hT
    have HS := Lib.hid hsU
    have H0 := Lib.hid h0
    clear hT hsU hR hall h0
    cases q
    · go_enter Tryz.func208, Tryz.ntmps208
      go_wp2_with fail
      refine (HT.out _).mono ?_
      rintro e w1 ⟨rfl, hb1⟩
      go_wp2_with fail
      go_ret
      exact ⟨by rw [HS.out]; rfl, hb1⟩
    · by_cases c1 : 97 ≤ nth l 0
      · by_cases c2 : nth l 0 ≤ 122
        · have HA := Lib.hid (show schA (nth l 0) = true by simp [schA, c1, c2])
          have d2 : decide (((nth l 0 : Nat) : Int) ≤ 122) = true := decide_eq_true (by omega)
          go_enter Tryz.func208, Tryz.ntmps208
          go_wp2_with fail
          refine (HT.out _).mono ?_
          rintro e w1 ⟨rfl, hb1⟩
          go_wp2_with fail
          go_ret
          exact ⟨by rw [HS.out, HA.out]; rfl, hb1⟩
        · have HA := Lib.hid (show schA (nth l 0) = false by simp [schA, c2])
          have d2 : decide (((nth l 0 : Nat) : Int) ≤ 122) = false := decide_eq_false (by omega)
          go_enter Tryz.func208, Tryz.ntmps208
          go_wp2_with fail
          refine (HT.out _).mono ?_
          rintro e w1 ⟨rfl, hb1⟩
          go_wp2_with fail
          go_ret
          exact ⟨by rw [HS.out, HA.out]; rfl, hb1⟩
      · have HA := Lib.hid (show schA (nth l 0) = false by simp [schA, c1])
        go_enter Tryz.func208, Tryz.ntmps208
        go_wp2_with fail
        refine (HT.out _).mono ?_
        rintro e w1 ⟨rfl, hb1⟩
        go_wp2_with fail
        go_ret
        exact ⟨by rw [HS.out, HA.out]; rfl, hb1⟩
end Go.Proofs.YtlbdnohnngkapaaGreatDoor

namespace Go.Proofs.YtlbdnohnngkapaaGreatDoor
open Go.RowKit

/-! ### The document's text of an address -/
/-- A variable that holds a list of texts of the call's own. -/
def TxtAt (L : Nat) (W : World) (l : List (List UInt8)) : Prop :=
  ∃ S c, W.cell? ⟨L, 0, none⟩ = some (.slice S l.length c) ∧ W.frozen? ⟨L, 0, none⟩ = false ∧ W.ownsRow (L + 1) 9 1 (.slice S l.length c) l.length (l.map str)
theorem TxtAt.lt {L : Nat} {W : World} {l : List (List UInt8)} (h : TxtAt L W l) : L < W.heap.size := by
  obtain ⟨S, c, h1, _⟩ := h
  rcases Nat.lt_or_ge L W.heap.size with h' | h'
  · exact h'
  · simp [World.cell?, Array.getElem?_eq_none h'] at h1
theorem TxtAt.below {L : Nat} {W W' : World} {l : List (List UInt8)} (h : TxtAt L W l) (hb : Below W.heap.size W W') : TxtAt L W' l := by
  have hlt := h.lt
  obtain ⟨S, c, h1, h2, h3⟩ := h
  exact ⟨S, c, (hb.cell (p := ⟨L, 0, none⟩) hlt).trans h1, (hb.frozen (p := ⟨L, 0, none⟩) hlt).trans h2, own_below h3 hb⟩
set_option maxRecDepth 100000 in
set_option maxHeartbeats 1000000 in
theorem addT_any (ok : Bool) (L : Nat) (l xs : List (List UInt8)) (A : Option Addr) (n c B : Nat) (W : World) (h : TxtAt L W l) (hx : Sl W B 1 A n (xs.map str)) (hl : l.length ≤ 100) (hn : n ≤ 100) :
    Calls Tryz.prog 213 #[.bool ok, .slice A n c, .pointer (some ⟨L, 0, none⟩)] W fun e W' => e = .returned (.tuple #[]) ∧ TxtAt L W' (if ok then l ++ xs else l) ∧ Below L W W' := by
  obtain ⟨i0, hi0, hz0, hz1, hz2⟩ := info_parts infoStrU
  have hlt := h.lt
  have hxl : xs.length = n := by have := hx.len; simpa using this
  have hq := h
  obtain ⟨S, cS, h1, h2, h3⟩ := h
  cases ok
  · go_enter Tryz.func213, Tryz.ntmps213
    go_wp2_with fail
    go_end0
    exact ⟨rfl, hq, Below.refl _ _⟩
  · have h63 : l.length + n ≤ maxLen := by unfold maxLen; omega
    have h47 : (l.length + n) * 16 ≤ 140737488355328 := by omega
    have hbase : L + 1 ≤ W.heap.size := hlt
    have Hxl := Lib.hid hxl
    have Hq := Lib.hid hq
    clear hq hxl
    go_enter Tryz.func213, Tryz.ntmps213
    go_wp2_with (at_builtin; refine wpList_app rfl _ _ 57 rfl (L + 1) 9 i0 (.string ⟨#[]⟩) 1 16 Tryz.underlying57 hi0 hz0 hz1 hz2 rfl (by decide) S l.length cS (l.map str) rfl h3 B A n c (xs.map str) rfl hx (one_str xs) h63 h47 hbase ?_)
    intro S' c' w2 hown2 hb2 _
    have y0 : w2.cell? ⟨L, 0, none⟩ = some (.slice S l.length cS) := (hb2.cell (p := ⟨L, 0, none⟩) (Nat.lt_succ_self L)).trans h1
    have f0 : w2.frozen? ⟨L, 0, none⟩ = false := (hb2.frozen (p := ⟨L, 0, none⟩) (Nat.lt_succ_self L)).trans h2
    have hne : (Value.slice S' (l.length + n) c').ownBlock = none ∨ (Value.slice S' (l.length + n) c').ownBlock ≠ some L := by
      cases hS : (Value.slice S' (l.length + n) c').ownBlock with
      | none => exact .inl rfl
      | some k => have := (hown2.lt k hS).1; right; intro e; injection e with e; omega
    have hown3 := hown2.kept (grown_set w2 L 0 (.slice S' (l.length + n) c')) hne
    have hT : TxtAt L (w2.setCell ⟨L, 0, none⟩ (.slice S' (l.length + n) c')) (l ++ xs) := by
      have e : (l ++ xs).length = l.length + n := by rw [List.length_append, Hxl.out]
      refine ⟨S', c', ?_, ?_, ?_⟩
      · rw [e]; exact World.cell?_setCell_same w2 _ _ y0
      · rw [← f0]; simp [World.frozen?, World.setCell, Array.getElem?_modify]; cases w2.heap[L]? with
        | none => rfl
        | some o => cases o <;> rfl
      · rw [e, List.map_append]; exact hown3
    have hBl : Below L W (w2.setCell ⟨L, 0, none⟩ (.slice S' (l.length + n) c')) := (hb2.mono (Nat.le_succ L)).setCell (Nat.le_refl _) _
    have HT := Lib.hid hT
    have HB := Lib.hid hBl
    clear hT hBl hown2 hown3 hb2 hne
    go_wp2_with fail
    go_end0
    exact ⟨rfl, HT.out, HB.out⟩
theorem join_flat : ∀ L : List (List UInt8), Lib.join L [] = L.flatten
  | [] => rfl
  | [x] => by rw [Lib.join_one]; simp
  | x :: y :: r => by
    have ih := join_flat (y :: r)
    rw [List.flatten_cons, ← ih]
    simp [Lib.join, List.intercalate, List.intersperse]
theorem Join_flat (L : List (List UInt8)) (S : Option Addr) (c : Nat) (w : World) (base : Nat) (ho : w.ownsRow base 9 1 (.slice S L.length c) L.length (L.map str)) (h0 : 0 < L.length) (hN : L.length ≤ 1000000) (hl : L.flatten.length ≤ 1000000) :
    Calls Tryz.prog 62 #[.slice S L.length c, .string ⟨#[]⟩] w fun e w' => e = .returned (str L.flatten) ∧ Below w.heap.size w w' := by
  have hc := own_cap ho
  obtain ⟨b, off, hS, hb, hcell⟩ := (Sl.of_own ho).2 h0
  subst hS
  have hd : (L.map (fun l => (⟨l.toArray⟩ : ByteArray))).map (·.data.toList) = L := by
    rw [List.map_map]
    conv => rhs; rw [← List.map_id L]
    exact List.map_congr_left fun x _ => rfl
  have hj : Lib.join ((L.map (fun l => (⟨l.toArray⟩ : ByteArray))).map (·.data.toList)) (⟨#[]⟩ : ByteArray).data.toList = L.flatten := by
    rw [hd]; exact join_flat L
  have h := Go.Proofs.Tryz.strings_Join b off c (L.map fun l => (⟨l.toArray⟩ : ByteArray)) ⟨#[]⟩ w (fun j x hx => by
    rw [List.getElem?_map] at hx
    cases hg : L[j]? with
    | none => rw [hg] at hx; cases hx
    | some y =>
      rw [hg] at hx
      simp only [Option.map_some, Option.some.injEq] at hx
      rw [← hx]
      exact hcell j (str y) (by rw [List.getElem?_map, hg]; rfl)) hb (by rw [List.length_map]; omega) (by rw [List.length_map]; exact hc) (by rw [hj]; omega)
  rw [hj, List.length_map] at h
  exact h
theorem Sl.two (w : World) (t : TypeId) (a b : List UInt8) : Sl (w.alloc (.cells #[str a, str b] t)) (w.heap.size + 1) 1 (some ⟨w.heap.size, 0, none⟩) 2 ([a, b].map str) := Sl.row w t 1 2 [str a, str b] rfl
theorem Sl.onS (w : World) (t : TypeId) (a : List UInt8) : Sl (w.alloc (.cells #[str a] t)) (w.heap.size + 1) 1 (some ⟨w.heap.size, 0, none⟩) 1 ([a].map str) := Sl.row w t 1 1 [str a] rfl
def app1 (ok : Bool) (l xs : List (List UInt8)) : List (List UInt8) := if ok then l ++ xs else l
theorem app1_len (ok : Bool) (l xs : List (List UInt8)) : (app1 ok l xs).length ≤ l.length + xs.length := by
  unfold app1; split
  · rw [List.length_append]; exact Nat.le_refl _
  · omega
theorem text_parts (u : UrlD) : textU u = (app1 u.hasFrag (app1 u.hasQuery (app1 true (app1 u.hasHost (app1 (!u.scheme.isEmpty) [] [u.scheme, [58]]) [[47, 47], u.host]) [u.path]) [[63], u.query]) [[35], u.frag]).flatten := by
  obtain ⟨sc, hh, ho, pa, hq, qu, hf, fr⟩ := u
  unfold textU app1
  by_cases h : sc = []
  · subst h
    cases hh <;> cases hq <;> cases hf <;> simp
  · have : sc.isEmpty = false := by simpa using h
    rw [this]
    cases hh <;> cases hq <;> cases hf <;> simp [h]
set_option maxRecDepth 100000 in
set_option maxHeartbeats 2000000 in
theorem RText_any (sc ho pa qu fr : List UInt8) (hh hq hf : Bool) (w : World) (l0 : sc.length ≤ 1000) (l1 : ho.length ≤ 1000) (l2 : pa.length ≤ 1000) (l3 : qu.length ≤ 1000) (l4 : fr.length ≤ 1000) :
    Calls Tryz.prog 128 #[.agg #[str sc, .bool hh, str ho, str pa, .bool hq, str qu, .bool hf, str fr]] w fun e w' => e = .returned (str (textU ⟨sc, hh, ho, pa, hq, qu, hf, fr⟩)) ∧ Below w.heap.size w w' := by
  have htx := text_parts ⟨sc, hh, ho, pa, hq, qu, hf, fr⟩
  simp only at htx
  have hlen : (textU ⟨sc, hh, ho, pa, hq, qu, hf, fr⟩).length ≤ 10000 := by
    unfold textU
    simp only [List.length_append]
    have a1 : (if sc = [] then [] else sc ++ [58] : List UInt8).length ≤ 1001 := by split <;> simp <;> omega
    have a2 : (if hh = true then [47, 47] ++ ho else [] : List UInt8).length ≤ 1002 := by split <;> simp <;> omega
    have a3 : (if hq = true then 63 :: qu else [] : List UInt8).length ≤ 1001 := by split <;> simp <;> omega
    have a4 : (if hf = true then 35 :: fr else [] : List UInt8).length ≤ 1001 := by split <;> simp <;> omega
    omega
  obtain ⟨q1, hq1⟩ : ∃ q, q = app1 (!sc.isEmpty) [] [sc, [58]] := ⟨_, rfl⟩
  rw [← hq1] at htx
  obtain ⟨q2, hq2⟩ : ∃ q, q = app1 hh q1 [[47, 47], ho] := ⟨_, rfl⟩
  rw [← hq2] at htx
  obtain ⟨q3, hq3⟩ : ∃ q, q = app1 true q2 [pa] := ⟨_, rfl⟩
  rw [← hq3] at htx
  obtain ⟨q4, hq4⟩ : ∃ q, q = app1 hq q3 [[63], qu] := ⟨_, rfl⟩
  rw [← hq4] at htx
  obtain ⟨q5, hq5⟩ : ∃ q, q = app1 hf q4 [[35], fr] := ⟨_, rfl⟩
  rw [← hq5] at htx
  have n1 : q1.length ≤ 2 := by have := app1_len (!sc.isEmpty) [] [sc, [58]]; rw [hq1]; simpa using this
  have n2 : q2.length ≤ 4 := by have := app1_len hh q1 [[47, 47], ho]; rw [hq2]; simp only [List.length_cons, List.length_nil] at this; omega
  have n3 : q3.length ≤ 5 := by have := app1_len true q2 [pa]; rw [hq3]; simp only [List.length_cons, List.length_nil] at this; omega
  have n3' : 0 < q3.length := by rw [hq3]; unfold app1; rw [if_pos rfl, List.length_append]; simp
  have n4 : q4.length ≤ 7 := by have := app1_len hq q3 [[63], qu]; rw [hq4]; simp only [List.length_cons, List.length_nil] at this; omega
  have n4' : 0 < q4.length := by rw [hq4]; unfold app1; split; rw [List.length_append]; omega; exact n3'
  have n5 : q5.length ≤ 9 := by have := app1_len hf q4 [[35], fr]; rw [hq5]; simp only [List.length_cons, List.length_nil] at this; omega
  have n5' : 0 < q5.length := by rw [hq5]; unfold app1; split; rw [List.length_append]; omega; exact n4'
  rw [htx] at hlen ⊢
  clear htx
  obtain ⟨R, hR⟩ : ∃ R, R = q5.flatten := ⟨_, rfl⟩
  rw [← hR]
  have HR := Lib.hid hR
  have Hq1 := Lib.hid hq1
  have Hq2 := Lib.hid hq2
  have Hq3 := Lib.hid hq3
  have Hq4 := Lib.hid hq4
  have Hq5 := Lib.hid hq5
  have Hlen := Lib.hid hlen
  clear hR hq1 hq2 hq3 hq4 hq5 hlen
  obtain ⟨wA, hwA⟩ : ∃ W, W = w.alloc (.cells #[str sc, .bool hh, str ho, str pa, .bool hq, str qu, .bool hf, str fr] 66) := ⟨_, rfl⟩
  obtain ⟨W, hW⟩ : ∃ W, W = wA.alloc (.cells #[.slice none 0 0] 57) := ⟨_, rfl⟩
  have hbA : Below w.heap.size w wA := by rw [hwA]; exact (Below.refl _ w).alloc (Nat.le_refl _) _
  have hbx : UB wA w.heap.size ⟨sc, hh, ho, pa, hq, qu, hf, fr⟩ := by rw [hwA]; exact UB.new w ⟨sc, hh, ho, pa, hq, qu, hf, fr⟩
  have sA : wA.heap.size = w.heap.size + 1 := by rw [hwA]; simp
  have hbW : Below wA.heap.size wA W := by rw [hW]; exact (Below.refl _ wA).alloc (Nat.le_refl _) _
  have hu : UB W w.heap.size ⟨sc, hh, ho, pa, hq, qu, hf, fr⟩ := hbx.below hbW
  have hT0 : TxtAt (w.heap.size + 1) W [] := by
    refine ⟨none, 0, ?_, ?_, World.ownsRow_nil _ _ _ _⟩
    · rw [hW, ← sA, Go.Joins.cell_of_block (heap_alloc_new wA _)]; rfl
    · rw [hW, ← sA]; exact World.frozen?_alloc_new wA _ _ 0
  have hbel : Below w.heap.size w W := hbA.trans (hbW.mono hbA.size)
  have sW : W.heap.size = w.heap.size + 1 + 1 := by rw [hW]; simp [sA]
  have hWW : W = (w.alloc (.cells #[str sc, .bool hh, str ho, str pa, .bool hq, str qu, .bool hf, str fr] 66)).alloc (.cells #[.slice none 0 0] 57) := by rw [hW, hwA]
  clear hwA hW hbA hbx sA hbW
  have step : ∀ (X X' : World) (l : List (List UInt8)), UB X w.heap.size ⟨sc, hh, ho, pa, hq, qu, hf, fr⟩ → Below w.heap.size w X → Below (w.heap.size + 1) X X' → UB X' w.heap.size ⟨sc, hh, ho, pa, hq, qu, hf, fr⟩ ∧ Below w.heap.size w X' := fun X X' l h1 h2 h3 => ⟨(h3.block w.heap.size (Nat.lt_succ_self _)).trans h1, h2.trans (h3.mono (Nat.le_succ _))⟩
  have Hstep := Lib.hid step
  clear step
  obtain ⟨c0, c1, c2, c3, c4, c5, c6, c7⟩ := hu.box
  go_enter Tryz.func128, Tryz.ntmps128
  go_wp2_with fail
  rw [← hWW]
  clear hWW
  have hu0 := hu
  have hbel0 := hbel
  clear hu hbel
  have hT0 : TxtAt (w.heap.size + 1) W ([] : List (List UInt8)) := hT0
  have hw1 : Below W.heap.size W (W.alloc (.cells #[str sc, .string ⟨#[58]⟩] 9)) := (Below.refl _ W).alloc (Nat.le_refl _) _
  have hA1 := addT_any (!sc.isEmpty) (w.heap.size + 1) [] [sc, [58]] (some ⟨W.heap.size, 0, none⟩) 2 2 (W.heap.size + 1) _ (hT0.below hw1) (Sl.two W _ (sc) ([58])) (by simp) (by omega)
  rw [sW] at hA1
  refine hA1.mono ?_
  rintro e w1 ⟨rfl, hT1', hb1⟩
  clear hA1
  have hT1 : TxtAt (w.heap.size + 1) w1 q1 := by rw [Hq1.out]; exact hT1'
  obtain ⟨hu1, hbel1⟩ := Hstep.out W w1 [] hu0 hbel0 ((hw1.mono (by omega)).trans hb1)
  obtain ⟨c0, c1, c2, c3, c4, c5, c6, c7⟩ := hu1.box
  clear hT1' hb1 hw1
  have z1 := hT1.lt
  go_wp2_with fail
  have hw2 : Below w1.heap.size w1 (w1.alloc (.cells #[.string ⟨#[47, 47]⟩, str ho] 9)) := (Below.refl _ w1).alloc (Nat.le_refl _) _
  have hA2 := addT_any hh (w.heap.size + 1) q1 [[47, 47], ho] (some ⟨w1.heap.size, 0, none⟩) 2 2 (w1.heap.size + 1) _ (hT1.below hw2) (Sl.two w1 _ ([47, 47]) (ho)) (by omega) (by omega)
  refine hA2.mono ?_
  rintro e w2 ⟨rfl, hT2', hb2⟩
  clear hA2
  have hT2 : TxtAt (w.heap.size + 1) w2 q2 := by rw [Hq2.out]; exact hT2'
  obtain ⟨hu2, hbel2⟩ := Hstep.out w1 w2 [] hu1 hbel1 ((hw2.mono (by omega)).trans hb2)
  obtain ⟨c0, c1, c2, c3, c4, c5, c6, c7⟩ := hu2.box
  clear hT2' hb2 hw2
  have z2 := hT2.lt
  go_wp2_with fail
  have hw3 : Below w2.heap.size w2 (w2.alloc (.cells #[str pa] 9)) := (Below.refl _ w2).alloc (Nat.le_refl _) _
  have hA3 := addT_any true (w.heap.size + 1) q2 [pa] (some ⟨w2.heap.size, 0, none⟩) 1 1 (w2.heap.size + 1) _ (hT2.below hw3) (Sl.onS w2 _ (pa)) (by omega) (by omega)
  refine hA3.mono ?_
  rintro e w3 ⟨rfl, hT3', hb3⟩
  clear hA3
  have hT3 : TxtAt (w.heap.size + 1) w3 q3 := by rw [Hq3.out]; exact hT3'
  obtain ⟨hu3, hbel3⟩ := Hstep.out w2 w3 [] hu2 hbel2 ((hw3.mono (by omega)).trans hb3)
  obtain ⟨c0, c1, c2, c3, c4, c5, c6, c7⟩ := hu3.box
  clear hT3' hb3 hw3
  have z3 := hT3.lt
  go_wp2_with fail
  have hw4 : Below w3.heap.size w3 (w3.alloc (.cells #[.string ⟨#[63]⟩, str qu] 9)) := (Below.refl _ w3).alloc (Nat.le_refl _) _
  have hA4 := addT_any hq (w.heap.size + 1) q3 [[63], qu] (some ⟨w3.heap.size, 0, none⟩) 2 2 (w3.heap.size + 1) _ (hT3.below hw4) (Sl.two w3 _ ([63]) (qu)) (by omega) (by omega)
  refine hA4.mono ?_
  rintro e w4 ⟨rfl, hT4', hb4⟩
  clear hA4
  have hT4 : TxtAt (w.heap.size + 1) w4 q4 := by rw [Hq4.out]; exact hT4'
  obtain ⟨hu4, hbel4⟩ := Hstep.out w3 w4 [] hu3 hbel3 ((hw4.mono (by omega)).trans hb4)
  obtain ⟨c0, c1, c2, c3, c4, c5, c6, c7⟩ := hu4.box
  clear hT4' hb4 hw4
  have z4 := hT4.lt
  go_wp2_with fail
  have hw5 : Below w4.heap.size w4 (w4.alloc (.cells #[.string ⟨#[35]⟩, str fr] 9)) := (Below.refl _ w4).alloc (Nat.le_refl _) _
  have hA5 := addT_any hf (w.heap.size + 1) q4 [[35], fr] (some ⟨w4.heap.size, 0, none⟩) 2 2 (w4.heap.size + 1) _ (hT4.below hw5) (Sl.two w4 _ ([35]) (fr)) (by omega) (by omega)
  refine hA5.mono ?_
  rintro e w5 ⟨rfl, hT5', hb5⟩
  clear hA5
  have hT5 : TxtAt (w.heap.size + 1) w5 q5 := by rw [Hq5.out]; exact hT5'
  obtain ⟨hu5, hbel5⟩ := Hstep.out w4 w5 [] hu4 hbel4 ((hw5.mono (by omega)).trans hb5)
  obtain ⟨c0, c1, c2, c3, c4, c5, c6, c7⟩ := hu5.box
  clear hT5' hb5 hw5
  obtain ⟨S, cS, y0, _, ho5⟩ := hT5
  have hJ := Join_flat q5 S cS w5 _ ho5 n5' (by omega) (by have := Hlen.out; omega)
  rw [← HR.out] at hJ
  have HJ := Lib.hid hJ
  clear hJ ho5 n1 n2 n3 n3' n4 n4' n5 n5' c0 c1 c2 c3 c4 c5 c6 c7
  go_wp2_with fail
  refine HJ.out.mono ?_
  rintro e w6 ⟨rfl, hb6⟩
  go_wp2_with fail
  go_ret
  exact ⟨rfl, hbel5.trans (hb6.mono hbel5.size)⟩
end Go.Proofs.YtlbdnohnngkapaaGreatDoor
