import Derived.Test.YtlbdnohnngkapaaGreatDoorU13
import Derived.Test.YtlbdnohnngkapaaGreatDoorU11
import Derived.Test.YtlbdnohnngkapaaGreatDoorU12
import Derived.Test.YtlbdnohnngkapaaGreatDoorU6
import Derived.Test.YtlbdnohnngkapaaGreatDoorU10
import Derived.Test.YtlbdnohnngkapaaGreatDoorU1
import Derived.Test.YtlbdnohnngkapaaGreatDoorU2
import Derived.Shelf.Abstract
namespace Go.Proofs.YtlbdnohnngkapaaGreatDoor
open Go.RowKit

theorem infoStr3 : (Tryz.prog.info? 9).map (fun i => (i.zero, i.size, i.bytes)) = some (some (.string ⟨#[]⟩), 1, 16) := by kernel_rfl
theorem infoBs3 : (Tryz.prog.info? 22).map (fun i => (i.zero, i.size, i.bytes)) = some (some (.slice none 0 0), 1, 24) := by kernel_rfl
def NamesOut (p : PartD) (ns : List NameD) (w : World) (e : Ending) (w' : World) : Prop :=
  ∃ v : List Value, e = .returned (.tuple #[.agg v.toArray, .int .i64 ((namesE p ns).2 : Nat)]) ∧ PartAt (fun b => w.heap.size ≤ b ∧ b < w'.heap.size) w' (namesE p ns).1 v ∧ Below w.heap.size w w'
theorem zero_cells {S : Nat → Prop} (w : World) : PartAt S w zeroP [.string ⟨#[]⟩, .string ⟨#[]⟩, .string ⟨#[]⟩, .string ⟨#[]⟩, .int .i64 0, .slice none 0 0, .slice none 0 0] :=
  ⟨none, 0, 0, none, 0, 0, [], rfl, by refine ⟨?_, ?_, ?_, ?_, ?_, ?_⟩ <;> decide, ⟨rfl, fun h => absurd h (by simp)⟩, Nat.le_refl _, Nat.zero_le _, ⟨rfl, fun h => absurd h (by omega)⟩, Nat.le_refl _, Nat.zero_le _, rfl⟩
theorem below_seven {C : Nat} {w0 w : World} {b : Nat} (h : Below C w0 w) (hC : C ≤ b) (v0 v1 v2 v3 v4 v5 v6 : Value) : Below C w0 (((((((w.setCell ⟨b, 0, none⟩ v0).setCell ⟨b, 1, none⟩ v1).setCell ⟨b, 2, none⟩ v2).setCell ⟨b, 3, none⟩ v3).setCell ⟨b, 4, none⟩ v4).setCell ⟨b, 5, none⟩ v5).setCell ⟨b, 6, none⟩ v6) :=
  ((((((h.setCell hC _).setCell hC _).setCell hC _).setCell hC _).setCell hC _).setCell hC _).setCell hC _
/-- The bodies' row under way. -/
def BodRow (L : Nat) (w : World) (i c : Nat) (S : Option Addr) (vs : List Value) (out : List (List UInt8)) : Prop :=
  ∀ j v, vs[j]? = some v → ∃ A d, v = .slice A (out.getD j []).length d ∧ SlS (fun b => L ≤ b ∧ b < w.heap.size ∧ Value.ownBlock (.slice S i c) ≠ some b) w 1 A (out.getD j []).length (Lib.byteCells (out.getD j [])) ∧ (out.getD j []).length ≤ d ∧ d ≤ maxLen
theorem BodRow.below {L : Nat} {w w' : World} {i c : Nat} {S : Option Addr} {vs : List Value} {out : List (List UInt8)} (h : BodRow L w i c S vs out) (hb : Below w.heap.size w w') : BodRow L w' i c S vs out := by
  intro j v hv
  obtain ⟨A, d, h1, h2, h3, h4⟩ := h j v hv
  exact ⟨A, d, h1, SlS.change h2 (fun b hx => ⟨hx.1, by have := hb.size; omega, hx.2.2⟩) (fun q hq => hb.cell hq.2.1), h3, h4⟩
theorem BodRow.app {L : Nat} {w w' : World} {i c c' : Nat} {S S' : Option Addr} {vs : List Value} {out : List (List UInt8)} (h : BodRow L w i c S vs out) (hvl : vs.length = i) (hol : out.length = i) (A : Option Addr) (d : Nat) (x : List UInt8)
    (hx : SlS (fun b => L ≤ b ∧ b < w.heap.size ∧ Value.ownBlock (.slice S i c) ≠ some b) w 1 A x.length (Lib.byteCells x)) (h1 : x.length ≤ d) (h2 : d ≤ maxLen)
    (hgr : w.grownBy w' (Value.ownBlock (.slice S i c))) (hat : Value.ownBlock (.slice S' (i + 1) c') = Value.ownBlock (.slice S i c) ∨ Value.ownBlock (.slice S' (i + 1) c') = some w.heap.size) : BodRow L w' (i + 1) c' S' (vs ++ [.slice A x.length d]) (out ++ [x]) := by
  have hch : ∀ (A : Option Addr) (y : List UInt8), SlS (fun b => L ≤ b ∧ b < w.heap.size ∧ Value.ownBlock (.slice S i c) ≠ some b) w 1 A y.length (Lib.byteCells y) → SlS (fun b => L ≤ b ∧ b < w'.heap.size ∧ Value.ownBlock (.slice S' (i + 1) c') ≠ some b) w' 1 A y.length (Lib.byteCells y) := by
    intro A y hy
    refine SlS.change hy (fun b hb => ⟨hb.1, by have := hgr.size; omega, ?_⟩) (fun q hq => World.cell?_of_block (hgr.block _ hq.2.1 (fun e => hq.2.2 e.symm)))
    rcases hat with e | e
    · rw [e]; exact hb.2.2
    · rw [e]
      intro e2
      injection e2 with e2
      omega
  intro j v hv
  rcases Nat.lt_or_ge j i with hj | hj
  · rw [List.getElem?_append_left (by omega)] at hv
    obtain ⟨A', d', g1, g2, g3, g4⟩ := h j v hv
    have e : (out ++ [x]).getD j [] = out.getD j [] := by rw [List.getD_eq_getElem?_getD, List.getD_eq_getElem?_getD, List.getElem?_append_left (by omega)]
    rw [e]
    exact ⟨A', d', g1, hch _ _ g2, g3, g4⟩
  · rw [List.getElem?_append_right (by omega), hvl] at hv
    have hj0 : j - i = 0 := by
      rcases Nat.eq_zero_or_pos (j - i) with h' | h'
      · exact h'
      · rw [List.getElem?_eq_none (by simp; omega)] at hv; cases hv
    rw [hj0] at hv
    have hv := Option.some.inj hv
    subst hv
    have e : (out ++ [x]).getD j [] = x := by rw [List.getD_eq_getElem?_getD, List.getElem?_append_right (by omega), hol, hj0]; rfl
    rw [e]
    exact ⟨A, d, rfl, hch _ _ hx, h1, h2⟩
def BoRel (n : Nat) (F : List PartD) (ns : List NameD) (gs : List GoalD) (RB : List (List UInt8) × Nat) (w3 : World) (rv ev ov iv : Value) (wr : World) : Prop :=
  ∃ (i c : Nat) (S : Option Addr) (vs : List Value) (out : List (List UInt8)), rv = .int .i64 0 ∧ ev = .int .i64 0 ∧ iv = .int .i64 (i : Nat) ∧ i ≤ n ∧ ov = .slice S i c ∧ out.length = i ∧
    wr.ownsRow w3.heap.size 22 1 (.slice S i c) i vs ∧ BodRow w3.heap.size wr i c S vs out ∧ Below w3.heap.size w3 wr ∧ Hid (bodiesF ns gs (F.drop i) i out = RB)
theorem textsN_nil (ns : List NameD) (i : Nat) : textsN ns [] i = [] := rfl
theorem textsN_cons (ns : List NameD) (g : GoalD) (r : List GoalD) (i : Nat) : textsN ns (g :: r) i = if g.part = i then ofN ns g.find :: textsN ns r i else textsN ns r i := by
  unfold textsN
  by_cases h : g.part = i
  · rw [if_pos h, List.filter_cons_of_pos (by simpa using h), List.map_cons]
  · rw [if_neg h, List.filter_cons_of_neg (by simpa using h)]
theorem ofN_len {ns : List NameD} (h : ∀ n ∈ ns, nameB n.name = true) (k : Int) : (ofN ns k).length ≤ 30 := by
  induction ns with
  | nil => exact Nat.zero_le _
  | cons x r ih =>
    rw [ofN]
    split
    · have := h x (by simp)
      unfold nameB at this
      simp only [Bool.and_eq_true, decide_eq_true_eq] at this
      exact this.2.1
    · exact ih (fun n hn => h n (by simp [hn]))
theorem sumL_le (ts : List (List UInt8)) (h : ∀ t ∈ ts, t.length ≤ 30) : sumL ts ≤ ts.length * 30 := by
  induction ts with
  | nil => exact Nat.zero_le _
  | cons x r ih =>
    have h1 := h x (by simp)
    have h2 := ih (fun t ht => h t (by simp [ht]))
    simp only [sumL, List.map_cons, List.sum_cons, List.length_cons] at h2 ⊢
    omega
def TxRel (gn i : Nat) (ns : List NameD) (gs : List GoalD) (wa : World) (tv jv : Value) (wx : World) : Prop :=
  ∃ (j m c : Nat) (S : Option Addr) (txt : List (List UInt8)), jv = .int .i64 (j : Nat) ∧ j ≤ gn ∧ tv = .slice S m c ∧ m = txt.length ∧ m ≤ j ∧ wx.ownsRow wa.heap.size 9 1 (.slice S m c) m (txt.map str) ∧ Below wa.heap.size wa wx ∧
    Hid (txt ++ textsN ns (gs.drop j) i = textsN ns gs i) ∧ Hid (∀ t ∈ txt, t.length ≤ 30)
set_option maxRecDepth 100000 in
set_option maxHeartbeats 4000000 in
theorem Names_any (p : PartD) (v : List Value) (NA : Option Addr) (nn nc : Nat) (ns : List NameD) (w : World) (hM : MaxLenOk w) (hp : PartAt (· < w.heap.size) w p v) (hns : Sl w w.heap.size 2 NA nn (nameC ns)) (hnn : nn ≤ nc) (hnc : nc ≤ maxLen) (hok0 : NamesOk ns) :
    Calls Tryz.prog 15 #[.agg v.toArray, .slice NA nn nc] w (NamesOut p ns w) := by
  have hok := checkD_ok p
  have hal := fun W h => All_any p v W h
  have hgl := fun W hM h => Goals_any p v W hM h
  have hcp := fun W h1 h2 h => Copy_tree 1000 p v W h1 (Nat.le_refl _) h2 h
  have hck := fun (W : World) h => CheckNames_any NA nn nc ns ((flatD p).length : Nat) W h hnn hnc hok0
  have hof := fun (W : World) k h => of_any NA nn nc ns k W h (by omega)
  unfold AllOut at hal
  unfold GoalsOut at hgl
  unfold NamesOut
  have hgz := goalsE_zero (p := p)
  obtain ⟨R, hR⟩ : ∃ R, R = namesE p ns := ⟨_, rfl⟩
  rw [← hR]
  unfold namesE at hR
  have hnl : ns.length = nn := by have := hns.1; rw [nameC_len] at this; omega
  obtain ⟨A, c, A2, c2, rfl, _⟩ := hp.open
  obtain ⟨W, hW⟩ : ∃ W, W = (w.alloc (.cells #[str p.type, str p.cs, str p.id, str p.loc, .int .i64 p.how, .slice A p.body.length c, .slice A2 p.parts.length c2] 25)).alloc (.cells #[.string ⟨#[]⟩, .string ⟨#[]⟩, .string ⟨#[]⟩, .string ⟨#[]⟩, .int .i64 0, .slice none 0 0, .slice none 0 0] 25) := ⟨_, rfl⟩
  have hbW : Below w.heap.size w W := by rw [hW]; exact ((Below.refl _ w).alloc (Nat.le_refl _) _).alloc (by simp) _
  have hsW : W.heap.size = w.heap.size + 2 := by rw [hW]; simp
  have hx1 : BoxF W w.heap.size (str p.type) (str p.cs) (str p.id) (str p.loc) (.int .i64 p.how) (.slice A p.body.length c) (.slice A2 p.parts.length c2) := by
    refine BoxF.of_block (t := 25) ?_
    rw [hW, Lib.alloc_old _ _ _ (by simp)]
    exact heap_alloc_new w _
  have hx2 : BoxF W (w.heap.size + 1) (.string ⟨#[]⟩) (.string ⟨#[]⟩) (.string ⟨#[]⟩) (.string ⟨#[]⟩) (.int .i64 0) (.slice none 0 0) (.slice none 0 0) := by
    refine BoxF.of_block (t := 25) ?_
    rw [hW]
    have := heap_alloc_new (w.alloc (.cells #[str p.type, str p.cs, str p.id, str p.loc, .int .i64 p.how, .slice A p.body.length c, .slice A2 p.parts.length c2] 25)) (.cells #[.string ⟨#[]⟩, .string ⟨#[]⟩, .string ⟨#[]⟩, .string ⟨#[]⟩, .int .i64 0, .slice none 0 0, .slice none 0 0] 25)
    simpa using this
  have Hal := Lib.hid hal
  have Hgl := Lib.hid hgl
  have Hcp := Lib.hid hcp
  have Hck := Lib.hid hck
  have Hof := Lib.hid hof
  have Hp := Lib.hid hp
  have HM := Lib.hid hM
  have Hns := Lib.hid hns
  have Hgz := Lib.hid hgz
  have Hok0 := Lib.hid hok0
  have Hnl := Lib.hid hnl
  have HgoodN := Lib.hid (fun h => namesF_good (flatD p).length ns [] h)
  have Hgf := Lib.hid (show goalsD p = goalsF (flatD p) (whereD p) (flatD p) (whereD p) 0 [] from rfl)
  clear hal hgl hcp hck hof hp hM hns hgz hok0 hnl
  obtain ⟨n, hn⟩ : ∃ n, n = (flatD p).length := ⟨_, rfl⟩
  rw [← hn] at Hal Hck Hcp HgoodN hR
  have HW := Lib.hid hW
  clear hW
  by_cases hK : checkD p = 0
  · rw [hK] at Hal
    simp only [if_true] at Hal
    obtain ⟨h12, hch⟩ := hok hK
    rw [← hn] at h12
    have hbod : ∀ q ∈ flatD p, q.body.length ≤ 4000 := fun q hq => chk_body q (hch q hq)
    have Hbod := Lib.hid hbod
    have Hn := Lib.hid hn
    have HK := Lib.hid hK
    rw [if_neg (by simpa using hK)] at hR
    have hE2 := goalsE_zero (p := p) hK
    obtain ⟨K2, hK2⟩ : ∃ K2, K2 = namesF n [] ns := ⟨_, rfl⟩
    obtain ⟨gs, gK, hgE⟩ : ∃ gs gK, goalsE p = (gs, gK) := ⟨_, _, rfl⟩
    rw [hgE] at Hgl hR hE2
    rw [← hK2] at Hck hR
    simp only at Hgl hR hE2
    have HR := Lib.hid hR
    have HE2 := Lib.hid hE2
    have HK2 := Lib.hid hK2
    clear hR hE2 hK2 hgE hK hn hok hch hbod
    have ⟨⟨x0, x1, x2, x3, x4, x5, x6⟩, _⟩ := hx1
    go_enter Tryz.func15, Tryz.ntmps15
    go_upto_region 1 with fail
    rw [← HW.out]
    go_wp2_with fail
    refine (Hal.out W ((Hp.out.below hbW).more hbW.size)).mono ?_
    rintro e w1 ⟨S1, c1, rfl, hs1, hc1, hm1, hb1⟩
    have hbel1 := hbW.trans (hb1.mono hbW.size)
    have hy1 := hx1.below hb1 (by omega)
    have hy2 := hx2.below hb1 (by omega)
    have hz1 : w.heap.size + 2 ≤ w1.heap.size := by rw [← hsW]; exact hb1.size
    clear x0 x1 x2 x3 x4 x5 x6 hx1 hx2 hb1 hbW hsW Hal
    unfold maxLen at hm1
    have HckW := Hck.out w1 ((Sl.below Hns.out hbel1).more hbel1.size)
    have HckH := Lib.hid HckW
    have Hs1 := Lib.hid hs1
    clear HckW hs1
    go_wp2_with fail
    refine HckH.out.mono ?_
    rintro e w2 ⟨rfl, hb2⟩
    have hbel2 := hbel1.trans (hb2.mono hbel1.size)
    have hx1 := hy1.below hb2 (by omega)
    have hx2 := hy2.below hb2 (by omega)
    have hz2 : w.heap.size + 2 ≤ w2.heap.size := Nat.le_trans hz1 hb2.size
    have Hs2 := Lib.hid ((Hs1.out.below hb2).more hb2.size)
    clear hb2 hy1 hy2 hbel1 hz1 HckH Hs1
    by_cases hk2 : K2 = 0
    · subst hk2
      have hgood := HgoodN.out HK2.out.symm
      have Hgood := Lib.hid hgood
      have HglW := Lib.hid (Hgl.out w2 (HM.out.below hbel2) ((Hp.out.below hbel2).more hbel2.size))
      have ⟨⟨x0, x1, x2, x3, x4, x5, x6⟩, _⟩ := hx1
      clear hgood
      go_wp2_with fail
      refine HglW.out.mono ?_
      rintro e w3 ⟨S2, cg, rfl, hown3, hb3⟩
      have hbel3 := hbel2.trans (hb3.mono hbel2.size)
      have hy1 := hx1.below hb3 (by omega)
      have hy2 := hx2.below hb3 (by omega)
      have hz3 : w.heap.size + 2 ≤ w3.heap.size := Nat.le_trans hz2 hb3.size
      have Hs1 := Lib.hid ((Hs2.out.below hb3).more hb3.size)
      have HsG := Lib.hid (Sl.of_own hown3)
      clear x0 x1 x2 x3 x4 x5 x6 hx1 hx2 hb3 hown3 hbel2 hz2 HglW Hs2 Hgl Hck
      by_cases hgk : gK = 0
      · subst hgk
        have hgd := HE2.out rfl
        have hgcap : gs.length ≤ 720 := by
          rw [Hgf.out] at hgd
          have := goalsF_len _ _ _ _ _ _ _ hgd
          simp only [List.length_nil, ← Hn.out] at this
          omega
        obtain ⟨gn, hgn⟩ : ∃ gn, gn = gs.length := ⟨_, rfl⟩
        rw [← hgn] at HsG hgcap ⊢
        have Hgn := Lib.hid hgn
        obtain ⟨RB, hRB⟩ : ∃ RB, RB = bodiesF ns gs (flatD p) 0 [] := ⟨_, rfl⟩
        have hr := HR.out
        rw [if_neg (by simp), if_neg (by simp), ← hRB] at hr
        have HRR := Lib.hid hr
        have HRB := Lib.hid hRB
        have HbX := Lib.hid hy1
        have HbY := Lib.hid hy2
        have Hbel3 := Lib.hid hbel3
        obtain ⟨i0, hi0, hi1, hi2, hi3⟩ := info_parts infoStr3
        have HI0 := Lib.hid (And.intro hi0 (And.intro hi1 (And.intro hi2 hi3)))
        obtain ⟨i1, hj0, hj1, hj2, hj3⟩ := info_parts infoBs3
        have HI1 := Lib.hid (And.intro hj0 (And.intro hj1 (And.intro hj2 hj3)))
        clear hr hRB hgn hgd hbel3 hy1 hy2 hi0 hi1 hi2 hi3 hj0 hj1 hj2 hj3 HR HE2
        go_wp2_with fail
        go_loopw [5, 7, 10, 46] (BoRel n (flatD p) ns gs RB w3) (fun _ _ _ iv _ => n - (intOf iv).toNat)
        case atStart => exact ⟨0, 0, none, [], [], rfl, rfl, rfl, Nat.zero_le _, rfl, rfl, World.ownsRow_nil _ _ _ _, fun j v hv => by simp at hv, Below.refl _ _, Lib.hid (by rw [List.drop_zero]; exact HRB.out.symm)⟩
        case round =>
          obtain ⟨i, cb, S, vs, out, rfl, rfl, rfl, hi, rfl, hol, hown, hbr, hbel, HS⟩ := hrel
          by_cases hin : i < n
          · obtain ⟨b, off, q1, A', n', c', A2', n2', c2'', hS1, hbS, hq1, hqa, y0, y1, y2, y3, y4, y5, y6⟩ := (Hs1.out.below hbel).cells7 hin
            subst hS1
            have hqd : ∃ q, (flatD p).drop i = q :: (flatD p).drop (i + 1) ∧ q1 = bareD q ∧ q ∈ flatD p := by
              have hiF : i < (flatD p).length := by rw [← Hn.out]; exact hin
              have h1 := List.drop_eq_getElem_cons (l := flatD p) (i := i) hiF
              rw [← List.map_drop, h1, List.map_cons] at hq1
              injection hq1 with hq1 _
              exact ⟨_, h1, hq1.symm, List.getElem_mem _⟩
            obtain ⟨q, hq, hqq, hqm⟩ := hqd
            have hbody := Hbod.out q hqm
            subst hqq
            have hby : By wr w3.heap.size A' q.body.length q.body ∧ n' = q.body.length ∧ q.body.length ≤ c' ∧ c' ≤ maxLen := by
              obtain ⟨A3, c3, A4, c4, hv, _, hb3, hc3, hm3, _⟩ := hqa.open
              simp only [List.cons.injEq, and_true] at hv
              obtain ⟨_, _, _, _, _, h5, _⟩ := hv
              injection h5 with h5 h6 h7
              subst h5
              subst h7
              exact ⟨hb3.sl, h6, hc3, hm3⟩
            obtain ⟨hby, rfl, hbc, hbm⟩ := hby
            have hstep := HS.out
            rw [hq, bodiesF] at hstep
            have Hstep := Lib.hid hstep
            have Hown := Lib.hid hown
            have Hbr := Lib.hid hbr
            have Hol := Lib.hid hol
            have hrs := hbel.size
            simp only [bareD] at y0 y1 y2 y3 y4 y5 y6
            clear hstep hown hbr hol HS hq hqm hq1 hqa
            obtain ⟨W1, hW1⟩ : ∃ W1, W1 = wr.alloc (.cells #[str q.type, str q.cs, str q.id, str q.loc, .int .i64 q.how, .slice A' q.body.length c', .slice A2' n2' c2''] 25) := ⟨_, rfl⟩
            have hbA : Below wr.heap.size wr W1 := by rw [hW1]; exact (Below.refl _ _).alloc (Nat.le_refl _) _
            have hX : Box7 W1 wr.heap.size (str q.type) (str q.cs) (str q.id) (str q.loc) (.int .i64 q.how) (.slice A' q.body.length c') (.slice A2' n2' c2'') := by rw [hW1]; exact Box7.new wr _ _ _ _ _ _ _ _

            go_upto_region 14 with fail
            rw [← hW1]
            clear hW1 y0 y1 y2 y3 y4 y5 y6
            have hbel1 := hbel.trans (hbA.mono hbel.size)
            have hby1 := Sl.below hby (hbA.mono hbel.size)
            have Hbel1 := Lib.hid hbel1
            have Hby1 := Lib.hid hby1
            have Hown1 := Lib.hid (own_below Hown.out hbA)
            have Hbr1 := Lib.hid (BodRow.below Hbr.out hbA)
            have HX := Lib.hid hX
            clear hbel1 hby1 hbA hX hby Hown Hbr
            go_wp2_with fail
            go_loopw [13, 53] (TxRel gn i ns gs W1) (fun _ jv _ => gn - (intOf jv).toNat)
            case atStart => exact ⟨0, 0, 0, none, [], rfl, Nat.zero_le _, rfl, rfl, Nat.le_refl _, World.ownsRow_nil _ _ _ _, Below.refl _ _, Lib.hid (by rw [List.drop_zero]; rfl), Lib.hid (fun t ht => by simp at ht)⟩
            case round =>
              obtain ⟨j, m, ct, St, txt, rfl, hj, rfl, hm, hmj, hownt, hbelt, HT, HTl⟩ := hrel
              have Hownt := Lib.hid hownt
              have Hm := Lib.hid hm
              have hbw : Below w3.heap.size w3 wr := Hbel1.out.trans (hbelt.mono Hbel1.out.size)
              have Hbw := Lib.hid hbw
              have Hbelt := Lib.hid hbelt
              have hszt := hbelt.size
              clear hownt hm hbw hbelt
              by_cases hjn : j < gn
              · obtain ⟨bg, offg, x, hS2, hbg, hxg, g0, g1, g2, g3, g4, g5⟩ := (Sl.below HsG.out Hbw.out).goal6 j hjn
                subst hS2
                have hdg : gs.drop j = x :: gs.drop (j + 1) := by
                  have hjl : j < gs.length := by rw [← Hgn.out]; exact hjn
                  rw [List.drop_eq_getElem_cons hjl]
                  rw [List.getElem?_eq_getElem hjl] at hxg
                  rw [Option.some.inj hxg]
                have ht := HT.out
                rw [hdg, textsN_cons] at ht
                obtain ⟨W2, hW2⟩ : ∃ W2, W2 = wr.alloc (.cells #[.int .i64 (x.part : Nat), .int .i64 (x.l.frm : Nat), .int .i64 (x.l.til : Nat), str x.l.text, str x.goal, .int .i64 x.find] 55) := ⟨_, rfl⟩
                have hbB : Below wr.heap.size wr W2 := by rw [hW2]; exact (Below.refl _ _).alloc (Nat.le_refl _) _
                have gb : GB W2 wr.heap.size x := by rw [hW2]; exact heap_alloc_new wr _
                go_upto_region 18 with fail
                rw [← hW2]
                clear hW2 g0 g1 g2 g3 g4 g5 hdg hxg
                have ⟨g0, g1, g2, g3, g4, g5⟩ := gb.box
                have HbB := Lib.hid hbB
                have hszB := hbB.size
                clear gb hbB
                by_cases hxi : x.part = i
                · have e1 : (((x.part : Nat) : Int) == ((i : Nat) : Int)) = true := by rw [hxi]; simp
                  rw [if_pos hxi] at ht
                  have hofW := Hof.out W2 x.find (by
                    have hb := Hbel3.out.trans ((Hbw.out.trans (HbB.out.mono Hbw.out.size)).mono Hbel3.out.size)
                    exact (Sl.below Hns.out hb).more hb.size)
                  have HofW := Lib.hid hofW
                  have Ht := Lib.hid ht
                  clear ht hofW hxi
                  go_wp2_with fail
                  refine HofW.out.mono ?_
                  rintro e w4 ⟨rfl, hb4⟩
                  have hl30 := ofN_len Hgood.out x.find
                  obtain ⟨nx, hnx⟩ : ∃ nx, nx = ofN ns x.find := ⟨_, rfl⟩
                  rw [← hnx] at hl30 Ht ⊢
                  have hb14 : Below wr.heap.size wr w4 := HbB.out.trans (hb4.mono HbB.out.size)
                  have hown4 : w4.ownsRow W1.heap.size 9 1 (.slice St m ct) m (txt.map str) := own_below Hownt.out hb14
                  have hbel4 : Below W1.heap.size W1 w4 := Hbelt.out.trans (hb14.mono Hbelt.out.size)
                  have Hown4 := Lib.hid hown4
                  have Hbel4 := Lib.hid hbel4
                  have h63 : m + 1 ≤ maxLen := by unfold maxLen; omega
                  have h47 : (m + 1) * 16 ≤ 140737488355328 := by omega
                  have hbase : W1.heap.size ≤ w4.heap.size := hbel4.size
                  obtain ⟨hi0, hi1, hi2, hi3⟩ := HI0.out
                  clear hnx hb4 hb14 hown4 hbel4 g0 g1 g2 g3 g4 g5
                  go_wp2_with (at_builtin; refine wpList_app2 rfl _ _ 57 rfl W1.heap.size 9 i0 _ 1 16 Tryz.underlying57 hi0 hi1 hi2 hi3 rfl (by decide) St m ct (txt.map str) rfl (Hown4.out.alloc _) _ _ 1 1 [str nx] rfl (Sl.row _ _ 1 1 _ rfl) (by intro u hu; rw [List.mem_singleton.1 hu]; rfl) h63 h47 ?c2 ?_)
                  case c2 => simp; omega
                  intro S5 c5 w5 hown5 hb5 hgr5 hat5
                  have hbel5 := (Hbel4.out.alloc hbase (.cells #[str nx] 9)).trans hb5
                  rw [show txt.map str ++ [str nx] = (txt ++ [nx]).map str from by simp] at hown5
                  have Hfin := Lib.hid (And.intro hown5 hbel5)
                  clear hown5 hb5 hgr5 hat5 hbel5 hi0 hi1 hi2 hi3
                  go_wp2_with fail
                  refine ⟨⟨j + 1, m + 1, c5, S5, txt ++ [nx], by go_num, by omega, rfl, by simp [Hm.out], by omega, Hfin.out.1, Hfin.out.2, Lib.hid ?_, Lib.hid ?_⟩, by simp [intOf]; omega⟩
                  · rw [← Ht.out, List.append_assoc]; rfl
                  · intro t ht
                    rcases List.mem_append.1 ht with ht | ht
                    · exact HTl.out t ht
                    · rw [List.mem_singleton.1 ht]; exact hl30
                · have e1 : (((x.part : Nat) : Int) == ((i : Nat) : Int)) = false := by simp; omega
                  rw [if_neg hxi] at ht
                  have Ht := Lib.hid ht
                  clear ht hxi
                  go_wp2_with fail
                  exact ⟨⟨j + 1, m, ct, St, txt, by go_num, by omega, rfl, Hm.out, by omega, own_below Hownt.out HbB.out, Hbelt.out.trans (HbB.out.mono Hbelt.out.size), Ht, HTl⟩, by simp [intOf]; omega⟩
              · obtain rfl : j = gn := by omega
                have ht := HT.out
                rw [List.drop_of_length_le (by rw [← Hgn.out]; exact Nat.le_refl _), textsN_nil, List.append_nil] at ht
                have Ht := Lib.hid ht
                clear ht HT
                have hbX := HX.out.below Hbelt.out
                have ⟨x0, x1, x2, x3, x4, x5, x6⟩ := hbX
                have hcl := Clone_byte A' q.body.length c' w3.heap.size _ wr (Sl.below Hby1.out (Hbelt.out.mono Hbel1.out.size)) Hbw.out.size (oneCell_byteCells _) (by omega)
                have Hcl := Lib.hid hcl
                have HbX4 := Lib.hid hbX
                clear hcl hbX
                by_cases hm0 : m = 0
                · subst hm0
                  have hst := Hstep.out
                  have hbn : bodyN ns gs q i = (q.body, 0) := by
                    unfold bodyN
                    rw [← Ht.out, List.eq_nil_of_length_eq_zero Hm.out.symm, if_pos rfl]
                  rw [hbn, if_pos rfl] at hst
                  have Hst := Lib.hid hst
                  clear hst hbn
                  go_wp2_with fail
                  refine Hcl.out.mono ?_
                  rintro e w4 ⟨Sx, dx, rfl, hownx, hbx4⟩
                  have hbc := Hbelt.out.trans (hbx4.mono Hbelt.out.size)
                  have hss : SlS (fun b => w3.heap.size ≤ b ∧ b < w4.heap.size ∧ Value.ownBlock (.slice S i cb) ≠ some b) w4 1 Sx q.body.length (Lib.byteCells q.body) := SlS.change (own_sls hownx) (fun b hb => ⟨by have := Hbw.out.size; omega, hb.2, fun e => by have := (Hown1.out.lt b e).2; omega⟩) (fun _ _ => rfl)
                  have hdx := own_cap hownx
                  have hdm := own_capmax hownx
                  have Hbc := Lib.hid hbc
                  have Hss := Lib.hid hss
                  clear hbc hss hownx hbx4 x0 x1 x2 x3 x4 x5 x6
                  have hbel4 : Below w3.heap.size w3 w4 := Hbel1.out.trans (Hbc.out.mono Hbel1.out.size)
                  have hown4 : w4.ownsRow w3.heap.size 22 1 (.slice S i cb) i vs := own_below Hown1.out Hbc.out
                  have hbr4 := BodRow.below Hbr1.out Hbc.out
                  have hbase := hbel4.size
                  have Hown4 := Lib.hid hown4
                  have Hbel4 := Lib.hid hbel4
                  have Hbr4 := Lib.hid hbr4
                  have h63 : i + 1 ≤ maxLen := by unfold maxLen; omega
                  have h47 : (i + 1) * 24 ≤ 140737488355328 := by omega
                  obtain ⟨hj0, hj1, hj2, hj3⟩ := HI1.out
                  clear hbel4 hown4 hbr4
                  go_upto_region 26 with fail
                  go_wp2_with (at_builtin; refine wpList_app2 rfl _ _ 36 rfl w3.heap.size 22 i1 _ 1 24 Tryz.underlying36 hj0 hj1 hj2 hj3 rfl (by decide) S i cb vs rfl (Hown4.out.alloc _) _ _ 1 1 [.slice Sx q.body.length dx] rfl (Sl.row _ _ 1 1 _ rfl) (by intro u hu; rw [List.mem_singleton.1 hu]; rfl) h63 h47 ?c2 ?_)
                  case c2 => simp; omega
                  intro S5 c5 w9 hown5 hb5 hgr5 hat5
                  have hal := (Below.refl w4.heap.size w4).alloc (Nat.le_refl _) (.cells #[.slice Sx q.body.length dx] 22)
                  have hbr5 := BodRow.app (BodRow.below Hbr4.out hal) (by have := Hown4.out.1; simpa using this) Hol.out Sx dx q.body (SlS.change Hss.out (fun b hb => ⟨hb.1, by simp; omega, hb.2.2⟩) (fun p hp => hal.cell hp.2.1)) hdx hdm hgr5 (by rw [World.size_alloc]; exact hat5)
                  have hbel5 := (Hbel4.out.alloc hbase (.cells #[.slice Sx q.body.length dx] 22)).trans hb5
                  have Hfin := Lib.hid (And.intro hown5 (And.intro hbr5 hbel5))
                  clear hown5 hb5 hgr5 hat5 hbel5 hbr5 hal hj0 hj1 hj2 hj3
                  go_wp2_with fail
                  exact ⟨⟨i + 1, c5, S5, vs ++ [.slice Sx q.body.length dx], out ++ [q.body], rfl, rfl, by go_num, by omega, rfl, by simp [Hol.out], Hfin.out.1, Hfin.out.2.1, Hfin.out.2.2, Hst⟩, by simp [intOf]; omega⟩
                · have hmp : (0 : Int) < m := by omega
                  have hmd : decide ((0 : Int) < m) = true := by simp; omega
                  have hst := Hstep.out
                  have hbn : bodyN ns gs q i = putE q.body txt := by
                    unfold bodyN
                    rw [← Ht.out, if_neg (by intro e; have := Hm.out; rw [e] at this; exact hm0 this)]
                  rw [hbn] at hst
                  clear hbn
                  obtain ⟨tb, te, hT⟩ : ∃ tb te, putE q.body txt = (tb, te) := ⟨_, _, rfl⟩
                  rw [hT] at hst
                  have Hst0 := Lib.hid hst
                  have hpt := fun (W' : World) h1 h2 h3 h4 => Put_any A' St q.body.length c' m ct q.body txt W' h1 h2 hbc hbm h3 h4
                  rw [hT] at hpt
                  unfold PutOut at hpt
                  simp only at hpt
                  have Hpt := Lib.hid hpt
                  have hsum : sumL txt ≤ 1000000000000 := by
                    have := sumL_le txt HTl.out
                    have := Hm.out
                    omega
                  clear hst hT hpt
                  go_wp2_with fail
                  refine Hcl.out.mono ?_
                  rintro e w4 ⟨Sx, dx, rfl, hownx, hbx4⟩
                  have hb14 := Hbelt.out.trans (hbx4.mono Hbelt.out.size)
                  have hb34 := Hbel1.out.trans (hb14.mono Hbel1.out.size)
                  have hb04 := Hbel3.out.trans (hb34.mono Hbel3.out.size)
                  have hptW := Hpt.out w4 (HM.out.below hb04) (Sl.more (Sl.below Hby1.out (hb14.mono Hbel1.out.size)) hb34.size) ((Sl.below (Sl.of_own Hownt.out) hbx4).more hbx4.size) hsum
                  have HptW := Lib.hid hptW
                  have hbX := HbX4.out.below hbx4
                  clear x0 x1 x2 x3 x4 x5 x6
                  have ⟨x0, x1, x2, x3, x4, x5, x6⟩ := hbX
                  have Hb14 := Lib.hid hb14
                  clear hb14 hb34 hb04 hptW hbX hownx
                  go_wp2_with fail
                  refine HptW.out.mono ?_
                  rintro e w5 ⟨Sp, dp, rfl, hownp, hbp⟩
                  have hbc5 := Hb14.out.trans (hbp.mono Hb14.out.size)
                  by_cases hte : te = 0
                  · subst hte
                    have hst := Hst0.out
                    rw [if_pos rfl] at hst
                    have Hst := Lib.hid hst
                    have hss : SlS (fun b => w3.heap.size ≤ b ∧ b < w5.heap.size ∧ Value.ownBlock (.slice S i cb) ≠ some b) w5 1 Sp tb.length (Lib.byteCells tb) := SlS.change (own_sls hownp) (fun b hb => ⟨by have := Hbw.out.size; have := hbx4.size; omega, hb.2, fun e => by have := (Hown1.out.lt b e).2; have := Hb14.out.size; omega⟩) (fun _ _ => rfl)
                    have hdx := own_cap hownp
                    have hdm := own_capmax hownp
                    have Hbc := Lib.hid hbc5
                    have Hss := Lib.hid hss
                    clear hst hbc5 hss hownp hbp hbx4 x0 x1 x2 x3 x4 x5 x6
                    have hbel4 : Below w3.heap.size w3 w5 := Hbel1.out.trans (Hbc.out.mono Hbel1.out.size)
                    have hown4 : w5.ownsRow w3.heap.size 22 1 (.slice S i cb) i vs := own_below Hown1.out Hbc.out
                    have hbr4 := BodRow.below Hbr1.out Hbc.out
                    have hbase := hbel4.size
                    have Hown4 := Lib.hid hown4
                    have Hbel4 := Lib.hid hbel4
                    have Hbr4 := Lib.hid hbr4
                    have h63 : i + 1 ≤ maxLen := by unfold maxLen; omega
                    have h47 : (i + 1) * 24 ≤ 140737488355328 := by omega
                    obtain ⟨hj0, hj1, hj2, hj3⟩ := HI1.out
                    clear hbel4 hown4 hbr4
                    go_upto_region 26 with fail
                    go_wp2_with (at_builtin; refine wpList_app2 rfl _ _ 36 rfl w3.heap.size 22 i1 _ 1 24 Tryz.underlying36 hj0 hj1 hj2 hj3 rfl (by decide) S i cb vs rfl (Hown4.out.alloc _) _ _ 1 1 [.slice Sp tb.length dp] rfl (Sl.row _ _ 1 1 _ rfl) (by intro u hu; rw [List.mem_singleton.1 hu]; rfl) h63 h47 ?c2 ?_)
                    case c2 => simp; omega
                    intro S5 c5 w9 hown5 hb5 hgr5 hat5
                    have hal := (Below.refl w5.heap.size w5).alloc (Nat.le_refl _) (.cells #[.slice Sp tb.length dp] 22)
                    have hbr5 := BodRow.app (BodRow.below Hbr4.out hal) (by have := Hown4.out.1; simpa using this) Hol.out Sp dp tb (SlS.change Hss.out (fun b hb => ⟨hb.1, by simp; omega, hb.2.2⟩) (fun p hp => hal.cell hp.2.1)) hdx hdm hgr5 (by rw [World.size_alloc]; exact hat5)
                    have hbel5 := (Hbel4.out.alloc hbase (.cells #[.slice Sp tb.length dp] 22)).trans hb5
                    have Hfin := Lib.hid (And.intro hown5 (And.intro hbr5 hbel5))
                    clear hown5 hb5 hgr5 hat5 hbel5 hbr5 hal hj0 hj1 hj2 hj3
                    go_wp2_with fail
                    exact ⟨⟨i + 1, c5, S5, vs ++ [.slice Sp tb.length dp], out ++ [tb], rfl, rfl, by go_num, by omega, rfl, by simp [Hol.out], Hfin.out.1, Hfin.out.2.1, Hfin.out.2.2, Hst⟩, by simp [intOf]; omega⟩
                  · have hK1 : ((te : Int) != 0) = true := by simp; omega
                    have hb35 := Hbel1.out.trans (hbc5.mono Hbel1.out.size)
                    have hbe := Hbel3.out.trans (hb35.mono Hbel3.out.size)
                    have hy2 := HbY.out.below hb35 (by omega)
                    have HbR := Lib.hid hy2
                    have Hbe := Lib.hid hbe
                    have hst := Hst0.out
                    rw [if_neg hte] at hst
                    have hr := HRR.out
                    rw [← hst, if_pos hte] at hr
                    have Hr := Lib.hid hr
                    obtain ⟨⟨y0, y1, y2, y3, y4, y5, y6⟩, yf⟩ := hy2
                    have f0 := yf 0
                    have f1 := yf 1
                    have f2 := yf 2
                    have f3 := yf 3
                    have f4 := yf 4
                    have f5 := yf 5
                    have f6 := yf 6
                    clear hr hst hte yf hbe hb35 hbc5 hownp hbp hbx4 x0 x1 x2 x3 x4 x5 x6
                    go_wp2_with fail
                    generalize hw9 : ((((((((w5).setCell ⟨w.heap.size + 1, 0, none⟩ (.string ⟨#[]⟩)).setCell ⟨w.heap.size + 1, 1, none⟩ (.string ⟨#[]⟩)).setCell ⟨w.heap.size + 1, 2, none⟩ (.string ⟨#[]⟩)).setCell ⟨w.heap.size + 1, 3, none⟩ (.string ⟨#[]⟩)).setCell ⟨w.heap.size + 1, 4, none⟩ (.int .i64 0)).setCell ⟨w.heap.size + 1, 5, none⟩ (.slice none 0 0)).setCell ⟨w.heap.size + 1, 6, none⟩ (.slice none 0 0)) = w9
                    have hbx9 := BoxF.set7 (w := w5) (b := w.heap.size + 1) HbR.out (.string ⟨#[]⟩) (.string ⟨#[]⟩) (.string ⟨#[]⟩) (.string ⟨#[]⟩) (.int .i64 0) (.slice none 0 0) (.slice none 0 0)
                    have hbel9 := below_seven Hbe.out (C := w.heap.size) (b := w.heap.size + 1) (by omega) (.string ⟨#[]⟩) (.string ⟨#[]⟩) (.string ⟨#[]⟩) (.string ⟨#[]⟩) (.int .i64 0) (.slice none 0 0) (.slice none 0 0)
                    rw [hw9] at hbx9 hbel9
                    clear hw9
                    obtain ⟨c0, c1, c2', c3, c4, c5, c6⟩ := hbx9
                    refine bodyPost_ret (v := .tuple #[.agg #[.string ⟨#[]⟩, .string ⟨#[]⟩, .string ⟨#[]⟩, .string ⟨#[]⟩, .int .i64 0, .slice none 0 0, .slice none 0 0], .int .i64 (te : Nat)]) (by simp [results, Tryz.results15, go_sem, c0, c1, c2', c3, c4, c5, c6]) rfl ?_
                    rw [Hr.out]
                    exact ⟨_, rfl, zero_cells _, hbel9⟩
          · obtain rfl : i = n := by omega
            have hfin := HS.out
            rw [List.drop_of_length_le (by rw [← Hn.out]; exact Nat.le_refl _), bodiesF] at hfin
            have hr := HRR.out
            rw [← hfin, if_neg (by simp)] at hr
            have Hr := Lib.hid hr
            have hbods0 : BodsAt w3.heap.size wr.heap.size wr S i out := ⟨hol, vs, Sl.of_own hown, fun j v hv => by
              obtain ⟨A9, d9, g1, g2, g3, g4⟩ := hbr j v hv
              exact ⟨A9, d9, g1, SlS.change g2 (fun b hb => ⟨hb.1, hb.2.1⟩) (fun _ _ => rfl), g3, g4⟩⟩
            obtain ⟨WA, hWA⟩ : ∃ WA, WA = wr.alloc (.cells #[.int .i64 0] 3) := ⟨_, rfl⟩
            have hbA : Below wr.heap.size wr WA := by rw [hWA]; exact (Below.refl _ _).alloc (Nat.le_refl _) _
            have hcnt : CntAt WA wr.heap.size 0 := by rw [hWA]; exact heap_alloc_new wr _
            have hsA : WA.heap.size = wr.heap.size + 1 := by rw [hWA]; simp
            have hbods : BodsAt w3.heap.size wr.heap.size WA S i out := hbods0.keep (fun p hp => hbA.cell hp)
            have hb3A := hbel.trans (hbA.mono hbel.size)
            have hb0A := Hbel3.out.trans (hb3A.mono Hbel3.out.size)
            have hX := HbX.out.below hb3A (by omega)
            have hY := HbY.out.below hb3A (by omega)
            have hcpW := Hcp.out WA (by omega) Hbod.out ((Hp.out.below hb0A).more hb0A.size)
            have HcpW := Lib.hid hcpW
            have Hbods := Lib.hid hbods
            have Hcnt := Lib.hid hcnt
            have HY := Lib.hid hY
            have Hb0A := Lib.hid hb0A
            have HsA := Lib.hid hsA
            have Hn12 := Lib.hid h12
            have hwr3 := hbel.size
            go_upto_region 29 with fail
            rw [← hWA]
            clear hWA hfin hr hbods0 hbA hcnt hsA hbods hb3A hb0A hY hcpW hown hbr hbel HS hol
            have ⟨⟨x0, x1, x2, x3, x4, x5, x6⟩, _⟩ := hX
            go_wp2_with fail
            refine HcpW.out.mono ?_
            rintro e w5 ⟨v5, rfl, htr5, hb5⟩
            have hput := putT_any out w3.heap.size wr.heap.size i cb wr.heap.size S (by have := Hn12.out; omega) (Nat.le_refl _) 1000 p v5 WA.heap.size w5.heap.size 0 w5 (by rw [← Hn.out]; have := Hn12.out; omega) (Nat.le_refl _) htr5 (by have := HsA.out; omega) (Nat.le_refl _) (by have := HsA.out; omega) (Hcnt.out.keep (hb5.block _ (by have := HsA.out; omega))) (Hbods.out.keep (fun p hp => hb5.cell (by have := HsA.out; show p.block < _; omega))) (by rw [← Hn.out]; omega)
            have Hput := Lib.hid hput
            have Hb5 := Lib.hid hb5
            clear hput htr5 hb5 x0 x1 x2 x3 x4 x5 x6
            go_wp2_with fail
            refine Hput.out.mono ?_
            rintro e w6 ⟨v6, rfl, hpa6, hcn6, hfr6⟩
            obtain ⟨qq, hqq⟩ : ∃ qq, qq = putD p (out.drop 0) := ⟨_, rfl⟩
            rw [← hqq] at hpa6
            have Hqq := Lib.hid hqq
            clear hqq hcn6
            obtain ⟨A6, d6, A7, d7, rfl, _⟩ := hpa6.open
            have hs65 : WA.heap.size ≤ w5.heap.size := Hb5.out.size
            have hs66 : w5.heap.size ≤ w6.heap.size := hfr6.2.2.2.1
            have hsA := HsA.out
            have hold : ∀ b, b < wr.heap.size → w6.heap[b]? = WA.heap[b]? := fun b hb => (hfr6.2.2.2.2 b (by omega) (by omega) (by omega)).trans (Hb5.out.block b (by omega))
            have hY6 := HY.out.keep (hold (w.heap.size + 1) (by omega))
            have hbe6 : Below w.heap.size w w6 := by
              have h0 := Hb0A.out.trans (Hb5.out.mono Hb0A.out.size)
              exact ⟨hfr6.1.trans h0.os, hfr6.2.1.trans h0.tape, hfr6.2.2.1.trans h0.output, Nat.le_trans h0.size hs66, fun b hb => (hold b (by omega)).trans (Hb0A.out.block b hb)⟩
            obtain ⟨⟨y0, y1, y2, y3, y4, y5, y6⟩, yf⟩ := hY6
            have f0 := yf 0
            have f1 := yf 1
            have f2 := yf 2
            have f3 := yf 3
            have f4 := yf 4
            have f5 := yf 5
            have f6 := yf 6
            have Hpa6 := Lib.hid hpa6
            have Hbe6 := Lib.hid hbe6
            have Hyf := Lib.hid yf
            clear hpa6 hbe6 yf hold hfr6 hX
            go_wp2_with fail
            have hbx9 := BoxF.set7 (w := w6) (b := w.heap.size + 1) ⟨⟨y0, y1, y2, y3, y4, y5, y6⟩, Hyf.out⟩ (str qq.type) (str qq.cs) (str qq.id) (str qq.loc) (.int .i64 qq.how) (.slice A6 qq.body.length d6) (.slice A7 qq.parts.length d7)
            have hbel9 := below_seven Hbe6.out (C := w.heap.size) (b := w.heap.size + 1) (by omega) (str qq.type) (str qq.cs) (str qq.id) (str qq.loc) (.int .i64 qq.how) (.slice A6 qq.body.length d6) (.slice A7 qq.parts.length d7)
            have far9 : ∀ b, b ≠ w.heap.size + 1 → (((((((w6.setCell ⟨w.heap.size + 1, 0, none⟩ (str qq.type)).setCell ⟨w.heap.size + 1, 1, none⟩ (str qq.cs)).setCell ⟨w.heap.size + 1, 2, none⟩ (str qq.id)).setCell ⟨w.heap.size + 1, 3, none⟩ (str qq.loc)).setCell ⟨w.heap.size + 1, 4, none⟩ (.int .i64 qq.how)).setCell ⟨w.heap.size + 1, 5, none⟩ (.slice A6 qq.body.length d6)).setCell ⟨w.heap.size + 1, 6, none⟩ (.slice A7 qq.parts.length d7)).heap[b]? = w6.heap[b]? := by
              intro b hb
              simp only [World.setCell, Array.getElem?_modify]
              simp [Ne.symm hb]
            have hsz9 : (((((((w6.setCell ⟨w.heap.size + 1, 0, none⟩ (str qq.type)).setCell ⟨w.heap.size + 1, 1, none⟩ (str qq.cs)).setCell ⟨w.heap.size + 1, 2, none⟩ (str qq.id)).setCell ⟨w.heap.size + 1, 3, none⟩ (str qq.loc)).setCell ⟨w.heap.size + 1, 4, none⟩ (.int .i64 qq.how)).setCell ⟨w.heap.size + 1, 5, none⟩ (.slice A6 qq.body.length d6)).setCell ⟨w.heap.size + 1, 6, none⟩ (.slice A7 qq.parts.length d7)).heap.size = w6.heap.size := by simp
            generalize (((((((w6.setCell ⟨w.heap.size + 1, 0, none⟩ (str qq.type)).setCell ⟨w.heap.size + 1, 1, none⟩ (str qq.cs)).setCell ⟨w.heap.size + 1, 2, none⟩ (str qq.id)).setCell ⟨w.heap.size + 1, 3, none⟩ (str qq.loc)).setCell ⟨w.heap.size + 1, 4, none⟩ (.int .i64 qq.how)).setCell ⟨w.heap.size + 1, 5, none⟩ (.slice A6 qq.body.length d6)).setCell ⟨w.heap.size + 1, 6, none⟩ (.slice A7 qq.parts.length d7)) = w9 at hbx9 hbel9 far9 hsz9 ⊢
            obtain ⟨c0, c1, c2', c3, c4, c5, c6⟩ := hbx9
            refine bodyPost_ret (v := .tuple #[.agg #[str qq.type, str qq.cs, str qq.id, str qq.loc, .int .i64 qq.how, .slice A6 qq.body.length d6, .slice A7 qq.parts.length d7], .int .i64 0]) (by simp [results, Tryz.results15, go_sem, c0, c1, c2', c3, c4, c5, c6]) rfl ?_
            rw [Hr.out]
            refine ⟨_, rfl, ?_, hbel9⟩
            have hq9 := Hqq.out
            rw [List.drop_zero] at hq9
            show PartAt _ w9 (putD p out) _
            rw [← hq9]
            refine PartAt.change (fun b hb => ?_) (fun b hb => World.cell?_of_block (far9 _ ?_)) _ _ Hpa6.out
            · rcases hb with hb | hb <;> omega
            · rcases hb with hb | hb <;> omega
      · have hK1 : ((gK : Int) != 0) = true := by simp; omega
        have HbR := Lib.hid hy2
        have Hbe := Lib.hid hbel3
        have hr := HR.out
        rw [if_neg (by simp), if_pos hgk] at hr
        have Hr := Lib.hid hr
        obtain ⟨⟨y0, y1, y2, y3, y4, y5, y6⟩, yf⟩ := hy2
        have f0 := yf 0
        have f1 := yf 1
        have f2 := yf 2
        have f3 := yf 3
        have f4 := yf 4
        have f5 := yf 5
        have f6 := yf 6
        clear hr hgk yf hy1 hbel3
        go_wp2_with fail
        generalize hw9 : ((((((((w3).setCell ⟨w.heap.size + 1, 0, none⟩ (.string ⟨#[]⟩)).setCell ⟨w.heap.size + 1, 1, none⟩ (.string ⟨#[]⟩)).setCell ⟨w.heap.size + 1, 2, none⟩ (.string ⟨#[]⟩)).setCell ⟨w.heap.size + 1, 3, none⟩ (.string ⟨#[]⟩)).setCell ⟨w.heap.size + 1, 4, none⟩ (.int .i64 0)).setCell ⟨w.heap.size + 1, 5, none⟩ (.slice none 0 0)).setCell ⟨w.heap.size + 1, 6, none⟩ (.slice none 0 0)) = w9
        have hbx9 := BoxF.set7 (w := w3) (b := w.heap.size + 1) HbR.out (.string ⟨#[]⟩) (.string ⟨#[]⟩) (.string ⟨#[]⟩) (.string ⟨#[]⟩) (.int .i64 0) (.slice none 0 0) (.slice none 0 0)
        have hbel9 := below_seven Hbe.out (C := w.heap.size) (b := w.heap.size + 1) (by omega) (.string ⟨#[]⟩) (.string ⟨#[]⟩) (.string ⟨#[]⟩) (.string ⟨#[]⟩) (.int .i64 0) (.slice none 0 0) (.slice none 0 0)
        rw [hw9] at hbx9 hbel9
        clear hw9
        obtain ⟨c0, c1, c2', c3, c4, c5, c6⟩ := hbx9
        refine bodyPost_ret (v := .tuple #[.agg #[.string ⟨#[]⟩, .string ⟨#[]⟩, .string ⟨#[]⟩, .string ⟨#[]⟩, .int .i64 0, .slice none 0 0, .slice none 0 0], .int .i64 (gK : Nat)]) (by simp [results, Tryz.results15, go_sem, c0, c1, c2', c3, c4, c5, c6]) rfl ?_
        rw [Hr.out]
        exact ⟨_, rfl, zero_cells _, hbel9⟩
    · have hK1 : ((K2 : Int) != 0) = true := by simp; omega
      have HbR := Lib.hid hx2
      have Hbe := Lib.hid hbel2
      have hr := HR.out
      rw [if_pos hk2] at hr
      have Hr := Lib.hid hr
      obtain ⟨⟨y0, y1, y2, y3, y4, y5, y6⟩, yf⟩ := hx2
      have f0 := yf 0
      have f1 := yf 1
      have f2 := yf 2
      have f3 := yf 3
      have f4 := yf 4
      have f5 := yf 5
      have f6 := yf 6
      clear hr hk2 yf hx1 hbel2
      go_wp2_with fail
      generalize hw9 : ((((((((w2).setCell ⟨w.heap.size + 1, 0, none⟩ (.string ⟨#[]⟩)).setCell ⟨w.heap.size + 1, 1, none⟩ (.string ⟨#[]⟩)).setCell ⟨w.heap.size + 1, 2, none⟩ (.string ⟨#[]⟩)).setCell ⟨w.heap.size + 1, 3, none⟩ (.string ⟨#[]⟩)).setCell ⟨w.heap.size + 1, 4, none⟩ (.int .i64 0)).setCell ⟨w.heap.size + 1, 5, none⟩ (.slice none 0 0)).setCell ⟨w.heap.size + 1, 6, none⟩ (.slice none 0 0)) = w9
      have hbx9 := BoxF.set7 (w := w2) (b := w.heap.size + 1) HbR.out (.string ⟨#[]⟩) (.string ⟨#[]⟩) (.string ⟨#[]⟩) (.string ⟨#[]⟩) (.int .i64 0) (.slice none 0 0) (.slice none 0 0)
      have hbel9 := below_seven Hbe.out (C := w.heap.size) (b := w.heap.size + 1) (by omega) (.string ⟨#[]⟩) (.string ⟨#[]⟩) (.string ⟨#[]⟩) (.string ⟨#[]⟩) (.int .i64 0) (.slice none 0 0) (.slice none 0 0)
      rw [hw9] at hbx9 hbel9
      clear hw9
      obtain ⟨c0, c1, c2', c3, c4, c5, c6⟩ := hbx9
      refine bodyPost_ret (v := .tuple #[.agg #[.string ⟨#[]⟩, .string ⟨#[]⟩, .string ⟨#[]⟩, .string ⟨#[]⟩, .int .i64 0, .slice none 0 0, .slice none 0 0], .int .i64 (K2 : Nat)]) (by simp [results, Tryz.results15, go_sem, c0, c1, c2', c3, c4, c5, c6]) rfl ?_
      rw [Hr.out]
      exact ⟨_, rfl, zero_cells _, hbel9⟩
  · have hK1 : ((checkD p : Int) != 0) = true := by simp; omega
    have hk9 : checkD p ≠ 0 := hK
    rw [if_pos hk9] at hR
    simp only [if_neg hK] at Hal
    have HR := Lib.hid hR
    obtain ⟨K, hKK⟩ : ∃ K, K = checkD p := ⟨_, rfl⟩
    rw [← hKK] at Hal hK1 HR
    have Hkk := Lib.hid hKK
    clear hok hK hR hk9 hKK
    have ⟨⟨x0, x1, x2, x3, x4, x5, x6⟩, _⟩ := hx1
    go_enter Tryz.func15, Tryz.ntmps15
    go_upto_region 1 with fail
    rw [← HW.out]
    go_wp2_with fail
    refine (Hal.out W ((Hp.out.below hbW).more hbW.size)).mono ?_
    rintro e w1 ⟨S1, c1, rfl, hs1, hc1, hm1, hb1⟩
    have hbel1 := hbW.trans (hb1.mono hbW.size)
    have hbR := hx2.below hb1 (by omega)
    have HbR := Lib.hid hbR
    have Hbe := Lib.hid hbel1
    obtain ⟨⟨y0, y1, y2, y3, y4, y5, y6⟩, yf⟩ := hbR
    have f0 := yf 0
    have f1 := yf 1
    have f2 := yf 2
    have f3 := yf 3
    have f4 := yf 4
    have f5 := yf 5
    have f6 := yf 6
    clear yf hx1 hx2 hb1 hbW Hal hs1 x0 x1 x2 x3 x4 x5 x6 hbel1
    go_wp2_with fail
    generalize hw9 : ((((((((w1).setCell ⟨w.heap.size + 1, 0, none⟩ (.string ⟨#[]⟩)).setCell ⟨w.heap.size + 1, 1, none⟩ (.string ⟨#[]⟩)).setCell ⟨w.heap.size + 1, 2, none⟩ (.string ⟨#[]⟩)).setCell ⟨w.heap.size + 1, 3, none⟩ (.string ⟨#[]⟩)).setCell ⟨w.heap.size + 1, 4, none⟩ (.int .i64 0)).setCell ⟨w.heap.size + 1, 5, none⟩ (.slice none 0 0)).setCell ⟨w.heap.size + 1, 6, none⟩ (.slice none 0 0)) = w9
    have hbx9 := BoxF.set7 (w := w1) (b := w.heap.size + 1) HbR.out (.string ⟨#[]⟩) (.string ⟨#[]⟩) (.string ⟨#[]⟩) (.string ⟨#[]⟩) (.int .i64 0) (.slice none 0 0) (.slice none 0 0)
    have hbel9 := below_seven Hbe.out (C := w.heap.size) (b := w.heap.size + 1) (by omega) (.string ⟨#[]⟩) (.string ⟨#[]⟩) (.string ⟨#[]⟩) (.string ⟨#[]⟩) (.int .i64 0) (.slice none 0 0) (.slice none 0 0)
    rw [hw9] at hbx9 hbel9
    clear hw9
    obtain ⟨c0, c1, c2', c3, c4, c5, c6⟩ := hbx9
    refine bodyPost_ret (v := .tuple #[.agg #[.string ⟨#[]⟩, .string ⟨#[]⟩, .string ⟨#[]⟩, .string ⟨#[]⟩, .int .i64 0, .slice none 0 0, .slice none 0 0], .int .i64 (K : Nat)]) (by simp [results, Tryz.results15, go_sem, c0, c1, c2', c3, c4, c5, c6]) rfl ?_
    rw [HR.out]
    exact ⟨_, rfl, zero_cells _, hbel9⟩
end Go.Proofs.YtlbdnohnngkapaaGreatDoor

namespace Go.Proofs.YtlbdnohnngkapaaGreatDoor
open Go.RowKit

def pngN : List NameD := [⟨2, [112, 46, 112, 110, 103]⟩]
def pageT : List UInt8 := [60, 97, 32, 104, 114, 101, 102, 61, 39, 112, 46, 112, 110, 103, 39, 62, 60, 105, 109, 103, 32, 83, 82, 67, 61, 112, 46, 112, 110, 103, 62, 60, 97, 32, 104, 114, 101, 102, 61, 35, 100, 62]
theorem small_names : (namesE smallD pngN).2 = 0 ∧ (namesE smallD pngN).1.parts.map (·.body) = [pageT, [1, 2, 3]] := ⟨by kernel_rfl, by kernel_rfl⟩
theorem png_ok : NamesOk pngN := by
  intro x hx
  rw [List.mem_singleton.1 hx]
  refine ⟨by decide, by decide, by decide⟩
set_option maxRecDepth 100000 in
set_option maxHeartbeats 4000000 in
theorem renamed_any (w : World) (hM : MaxLenOk w) : Calls Tryz.prog 17 #[] w fun e w' => e = .returned (.bool true) ∧ Below w.heap.size w w' := by
  have HM := Lib.hid hM
  clear hM
  obtain ⟨hn0, hnb⟩ := small_names
  have hnm := fun (W : World) v h1 h2 h3 => Names_any smallD v (some ⟨W.heap.size, 0, none⟩) 1 1 pngN (W.alloc (.cells #[.int .i64 2, .string ⟨#[112, 46, 112, 110, 103]⟩] 79)) h1 h2 h3 (Nat.le_refl _) (by decide) png_ok
  unfold NamesOut at hnm
  generalize namesE smallD pngN = G at *
  obtain ⟨q, ge⟩ := G
  simp only at hn0 hnb
  subst hn0
  simp only at hnm
  have Hnm := Lib.hid hnm
  have Hnb := Lib.hid hnb
  clear hnm hnb
  go_enter Tryz.func17, Tryz.ntmps17
  go_wp2_with fail
  refine (smallP_any _).mono ?_
  rintro e w1 ⟨v1, rfl, hp1, hb1⟩
  have hal := (Below.refl w1.heap.size w1).alloc (Nat.le_refl _) (.cells #[.int .i64 2, .string ⟨#[112, 46, 112, 110, 103]⟩] 79)
  have hb2 := hb1.trans (hal.mono hb1.size)
  have hnw := Hnm.out w1 v1 (HM.out.below hb2) ((hp1.below hal).more hal.size) (Sl.more (Sl.row w1 79 2 1 [.int .i64 2, .string ⟨#[112, 46, 112, 110, 103]⟩] rfl) (by simp))
  have Hnw := Lib.hid hnw
  have Hb2 := Lib.hid hb2
  clear hnw hb2 hal hp1 hb1 Hnm
  go_wp2_with fail
  refine Hnw.out.mono ?_
  rintro e w3 ⟨v3, rfl, hp3', hb3⟩
  have hp3 := PartAt.change (S' := fun b => b < w3.heap.size) (fun b hb => hb.2) (fun _ _ => rfl) _ _ hp3'
  clear hp3'
  obtain ⟨A, c, A2, c2, rfl, _, _, _, _, hP, _, _⟩ := hp3.open
  have hpl : q.parts.length = 2 := by have := congrArg List.length Hnb.out; simpa using this
  rw [hpl] at hP ⊢
  obtain ⟨b, off, x, A', n', c', A2', n2', c2', rfl, hbS, hq, hqa, x0, x1, x2, x3, x4, x5, x6⟩ := hP.cells7 (i := 0) (by omega)
  have hxb : x.body = pageT := by
    have h1 := Hnb.out
    rw [List.drop_zero] at hq
    rw [hq, List.map_cons] at h1
    injection h1
  obtain ⟨A9, c9, A8, c8, hv, _, hby, _⟩ := hqa.open
  have hv5 : A' = A9 ∧ n' = x.body.length := by
    simp only [List.cons.injEq, and_true] at hv
    obtain ⟨_, _, _, _, _, h5, _⟩ := hv
    injection h5 with h5 h6 h7
    exact ⟨h5, h6⟩
  obtain ⟨rfl, rfl⟩ := hv5
  rw [hxb] at hby x5
  have hbyl := hby.sl
  have hb4 := Hb2.out.trans (hb3.mono Hb2.out.size)
  obtain ⟨W, hW⟩ : ∃ W, W = w3.alloc (.cells #[str q.type, str q.cs, str q.id, str q.loc, .int .i64 q.how, .slice A q.body.length c, .slice (some ⟨b, off, none⟩) 2 c2] 25) := ⟨_, rfl⟩
  have hbA : Below w3.heap.size w3 W := by rw [hW]; exact (Below.refl _ _).alloc (Nat.le_refl _) _
  have hX : Box7 W w3.heap.size (str q.type) (str q.cs) (str q.id) (str q.loc) (.int .i64 q.how) (.slice A q.body.length c) (.slice (some ⟨b, off, none⟩) 2 c2) := by rw [hW]; exact Box7.new w3 _ _ _ _ _ _ _ _
  have ⟨y0, y1, y2, y3, y4, y5, y6⟩ := hX
  have z5 : W.cell? ⟨b, off + 5, none⟩ = some (.slice A' pageT.length c') := by
    rw [hbA.cell (by exact hbS)]
    simpa using x5
  have hbw : By W w3.heap.size A' pageT.length pageT := Sl.below hbyl hbA
  have hcv := run_toStr (P := Tryz.prog) W 22 9 5 w3.heap.size A' pageT.length c' pageT hbw Tryz.underlying22 Tryz.underlying5 Tryz.underlying9
  have Hb5 := Lib.hid (hb4.trans (hbA.mono hb4.size))
  clear hb4 hbA hX hby hbyl hbw hq hqa hv hxb x0 x1 x2 x3 x4 x5 x6 hP hp3 hb3 hbS
  go_upto_region 2 with fail
  rw [← hW]
  clear hW
  go_wp2_with fail
  go_ret
  exact ⟨rfl, Hb5.out⟩
end Go.Proofs.YtlbdnohnngkapaaGreatDoor

namespace Go.Proofs.YtlbdnohnngkapaaGreatDoor
open Go.RowKit

/-- The first place at which a predicate holds, or -1. -/
def firstI {α : Type} (p : α → Bool) : List α → Nat → Int
  | [], _ => -1
  | x :: r, i => if p x = true then (i : Nat) else firstI p r (i + 1)
theorem firstI_any {α : Type} (p : α → Bool) : ∀ (l : List α) (i : Nat), decide (0 ≤ firstI p l i) = l.any p
  | [], i => by rw [firstI]; rfl
  | x :: r, i => by
    rw [firstI, List.any_cons]
    by_cases h : p x = true
    · rw [if_pos h, h, Bool.true_or]; simp
    · rw [if_neg h, firstI_any p r (i + 1), show p x = false by simpa using h, Bool.false_or]

/-- What a predicate on names is good for. -/
def PredName (g : Nat) (lb : Array Value) (p : NameD → Bool) (w : World) : Prop :=
  ∀ (W : World) (x : NameD), Below w.heap.size w W → Calls Tryz.prog g (#[.agg (nameCells x).toArray] ++ lb) W fun e w' => e = .returned (.bool (p x)) ∧ Below W.heap.size W w'
set_option maxHeartbeats 1000000 in
theorem IndexFunc_Name (g : Nat) (lb : Array Value) (eg : ∀ args w, (callFunc g args).run Tryz.prog w = .ok (.enter g args) w) (p : NameD → Bool) (A : Option Addr) (n c B : Nat) (l : List NameD) (w : World) (hb : Sl w B 2 A n (nameC l)) (hB : B ≤ w.heap.size) (hm : n ≤ maxLen) (hp : PredName g lb p w) :
    Calls Tryz.prog 48 #[.slice A n c, .func (.func g) #[] lb] w fun e w' => e = .returned (.int .i64 (firstI p l 0)) ∧ Below w.heap.size w w' := by
  obtain ⟨R, hR⟩ : ∃ R, R = firstI p l 0 := ⟨_, rfl⟩
  rw [← hR]
  have hl : l.length = n := by have := hb.1; rw [nameC_len] at this; omega
  have HR := Lib.hid hR
  have Hl := Lib.hid hl
  have Hb := Lib.hid hb
  have Hp := Lib.hid hp
  clear hR hl hb hp
  unfold maxLen at hm
  go_enter Tryz.func48, Tryz.ntmps48
  go_wp2_with fail
  go_loopw [8] (fun iv wr => ∃ k : Nat, k ≤ n ∧ iv = .int .i64 (k : Nat) ∧ Below w.heap.size w wr ∧ Hid (firstI p (l.drop k) k = R)) (fun iv _ => n - (intOf iv).toNat)
  case atStart => exact ⟨0, Nat.zero_le _, rfl, Below.refl _ _, Lib.hid (by rw [List.drop_zero]; exact HR.out.symm)⟩
  case round =>
    obtain ⟨k, hk, rfl, hbel, hz⟩ := hrel
    by_cases hkn : k < n
    · obtain ⟨b, off, x, rfl, hbB, hd, x0, x1⟩ := (Sl.below Hb.out (hbel.mono hB)).name k hkn
      have hs := hz.out
      rw [hd, firstI] at hs
      have cS := Hp.out wr x hbel
      clear hd
      by_cases hpk : p x = true
      · rw [hpk] at cS
        rw [if_pos hpk] at hs
        have Hs := Lib.hid hs
        have CS := Lib.hid cS
        clear hpk hs cS
        go_wp2_with (go_at_fn g; refine CS.out.mono ?_; rintro e w1 ⟨rfl, hb1⟩)
        go_ret
        exact ⟨by rw [← Hs.out]; rfl, hbel.trans (hb1.mono hbel.size)⟩
      · have hpf : p x = false := by simpa using hpk
        rw [hpf] at cS
        rw [if_neg hpk] at hs
        have Hs := Lib.hid hs
        have CS := Lib.hid cS
        clear hpk hpf hs cS
        go_wp2_with (go_at_fn g; refine CS.out.mono ?_; rintro e w1 ⟨rfl, hb1⟩)
        exact ⟨⟨k + 1, by omega, by go_num, hbel.trans (hb1.mono hbel.size), Hs⟩, by simp [intOf]; omega⟩
    · obtain rfl : k = n := by omega
      have hs := hz.out
      rw [List.drop_of_length_le (by rw [Hl.out]; exact Nat.le_refl _), firstI] at hs
      have Hs := Lib.hid hs
      clear hs
      go_wp2_with fail
      go_ret
      exact ⟨by rw [← Hs.out]; rfl, hbel⟩

/-- What a predicate on goals is good for. -/
def PredGoal (g : Nat) (lb : Array Value) (p : GoalD → Bool) (w : World) : Prop :=
  ∀ (W : World) (x : GoalD), Below w.heap.size w W → Calls Tryz.prog g (#[.agg (goalCells x).toArray] ++ lb) W fun e w' => e = .returned (.bool (p x)) ∧ Below W.heap.size W w'
set_option maxHeartbeats 1000000 in
theorem IndexFunc_Goal (g : Nat) (lb : Array Value) (eg : ∀ args w, (callFunc g args).run Tryz.prog w = .ok (.enter g args) w) (p : GoalD → Bool) (A : Option Addr) (n c B : Nat) (l : List GoalD) (w : World) (hb : Sl w B 6 A n (goalC l)) (hB : B ≤ w.heap.size) (hm : n ≤ maxLen) (hp : PredGoal g lb p w) :
    Calls Tryz.prog 125 #[.slice A n c, .func (.func g) #[] lb] w fun e w' => e = .returned (.int .i64 (firstI p l 0)) ∧ Below w.heap.size w w' := by
  obtain ⟨R, hR⟩ : ∃ R, R = firstI p l 0 := ⟨_, rfl⟩
  rw [← hR]
  have hl : l.length = n := by have := hb.1; rw [goalC_len] at this; omega
  have HR := Lib.hid hR
  have Hl := Lib.hid hl
  have Hb := Lib.hid hb
  have Hp := Lib.hid hp
  clear hR hl hb hp
  unfold maxLen at hm
  go_enter Tryz.func125, Tryz.ntmps125
  go_wp2_with fail
  go_loopw [8] (fun iv wr => ∃ k : Nat, k ≤ n ∧ iv = .int .i64 (k : Nat) ∧ Below w.heap.size w wr ∧ Hid (firstI p (l.drop k) k = R)) (fun iv _ => n - (intOf iv).toNat)
  case atStart => exact ⟨0, Nat.zero_le _, rfl, Below.refl _ _, Lib.hid (by rw [List.drop_zero]; exact HR.out.symm)⟩
  case round =>
    obtain ⟨k, hk, rfl, hbel, hz⟩ := hrel
    by_cases hkn : k < n
    · obtain ⟨b, off, x, rfl, hbB, hxg, g0, g1, g2, g3, g4, g5⟩ := (Sl.below Hb.out (hbel.mono hB)).goal6 k hkn
      have hd : l.drop k = x :: l.drop (k + 1) := by
        have hjl : k < l.length := by rw [Hl.out]; exact hkn
        rw [List.drop_eq_getElem_cons hjl]
        rw [List.getElem?_eq_getElem hjl] at hxg
        rw [Option.some.inj hxg]
      clear hxg
      have hs := hz.out
      rw [hd, firstI] at hs
      have cS := Hp.out wr x hbel
      clear hd
      by_cases hpk : p x = true
      · rw [hpk] at cS
        rw [if_pos hpk] at hs
        have Hs := Lib.hid hs
        have CS := Lib.hid cS
        clear hpk hs cS
        go_wp2_with (go_at_fn g; refine CS.out.mono ?_; rintro e w1 ⟨rfl, hb1⟩)
        go_ret
        exact ⟨by rw [← Hs.out]; rfl, hbel.trans (hb1.mono hbel.size)⟩
      · have hpf : p x = false := by simpa using hpk
        rw [hpf] at cS
        rw [if_neg hpk] at hs
        have Hs := Lib.hid hs
        have CS := Lib.hid cS
        clear hpk hpf hs cS
        go_wp2_with (go_at_fn g; refine CS.out.mono ?_; rintro e w1 ⟨rfl, hb1⟩)
        exact ⟨⟨k + 1, by omega, by go_num, hbel.trans (hb1.mono hbel.size), Hs⟩, by simp [intOf]; omega⟩
    · obtain rfl : k = n := by omega
      have hs := hz.out
      rw [List.drop_of_length_le (by rw [Hl.out]; exact Nat.le_refl _), firstI] at hs
      have Hs := Lib.hid hs
      clear hs
      go_wp2_with fail
      go_ret
      exact ⟨by rw [← Hs.out]; rfl, hbel⟩

set_option maxHeartbeats 400000 in
theorem ContainsFunc_Goal (g : Nat) (lb : Array Value) (eg : ∀ args w, (callFunc g args).run Tryz.prog w = .ok (.enter g args) w) (p : GoalD → Bool) (A : Option Addr) (n c B : Nat) (l : List GoalD) (w : World) (hb : Sl w B 6 A n (goalC l)) (hB : B ≤ w.heap.size) (hm : n ≤ maxLen) (hp : PredGoal g lb p w) :
    Calls Tryz.prog 54 #[.slice A n c, .func (.func g) #[] lb] w fun e w' => e = .returned (.bool (l.any p)) ∧ Below w.heap.size w w' := by
  have h := IndexFunc_Goal g lb eg p A n c B l w hb hB hm hp
  have hi := firstI_any p l 0
  generalize l.any p = r at hi ⊢
  generalize firstI p l 0 = i at h hi
  clear hp hb
  have H := Lib.hid h
  have Hi := Lib.hid hi
  clear h eg hi
  go_enter Tryz.func54, Tryz.ntmps54
  go_wp2_with fail
  refine H.out.mono ?_
  rintro e w1 ⟨rfl, hb1⟩
  go_wp2_with fail
  all_goals
    go_ret
    exact ⟨by rw [← Hi.out]; rfl, hb1⟩
end Go.Proofs.YtlbdnohnngkapaaGreatDoor

namespace Go.Proofs.YtlbdnohnngkapaaGreatDoor
open Go.RowKit

theorem box2_newO (w : World) (t : TypeId) (u v : Value) : (w.alloc (.cells #[u, v] t)).cell? ⟨w.heap.size, 0, none⟩ = some u ∧ (w.alloc (.cells #[u, v] t)).cell? ⟨w.heap.size, 1, none⟩ = some v := by
  have h := heap_alloc_new w (.cells #[u, v] t)
  constructor <;> (unfold World.cell?; rw [h]; rfl)
theorem ro1 (n : NameD) (gb : Nat) (k : Int) (w : World) (hc : w.cell? ⟨gb, 5, none⟩ = some (.int .i64 k)) (hlt : gb < w.heap.size) :
    Calls Tryz.prog 49 #[.agg (nameCells n).toArray, .pointer (some ⟨gb, 0, none⟩)] w fun e w' => e = .returned (.bool (n.part == k)) ∧ Below w.heap.size w w' := by
  obtain ⟨W, hW⟩ : ∃ W, W = w.alloc (.cells #[.int .i64 n.part, str n.name] 79) := ⟨_, rfl⟩
  have hbl : Below w.heap.size w W := by rw [hW]; exact (Below.refl _ w).alloc (Nat.le_refl _) _
  have x0 : W.cell? ⟨w.heap.size, 0, none⟩ = some (.int .i64 n.part) := by rw [hW]; exact (box2_newO w _ _ _).1
  have c0 : W.cell? ⟨gb, 5, none⟩ = some (.int .i64 k) := (hbl.cell (by exact hlt)).trans hc
  show Calls _ _ #[.agg #[.int .i64 n.part, str n.name], _] w _
  have Hbl := Lib.hid hbl
  clear hbl hc
  go_enter Tryz.func49, Tryz.ntmps49
  go_upto_region 1 with fail
  rw [← hW]
  clear hW
  go_wp2_with fail
  go_ret
  exact ⟨rfl, Hbl.out⟩
/-- The first name of a part. -/
theorem first_ofN (k : Int) : ∀ (ns : List NameD) (i : Nat), (∀ n ∈ ns, nameB n.name = true) →
    (firstI (fun n : NameD => n.part == k) ns i = -1 ∧ ofN ns k = []) ∨ ∃ j x, ns[j]? = some x ∧ firstI (fun n : NameD => n.part == k) ns i = ((i + j : Nat) : Int) ∧ ofN ns k = x.name ∧ x.name ≠ []
  | [], i, _ => .inl ⟨rfl, rfl⟩
  | x :: r, i, h => by
    rw [firstI, ofN]
    by_cases hk : x.part = k
    · right
      refine ⟨0, x, rfl, ?_, ?_, ?_⟩
      · rw [if_pos (by simpa using hk)]; rfl
      · rw [if_pos hk]
      · intro e
        have := h x (by simp)
        rw [e] at this
        simp [nameB] at this
    · rw [if_neg (by simpa using hk), if_neg hk]
      rcases first_ofN k r (i + 1) (fun n hn => h n (by simp [hn])) with h1 | ⟨j, y, h1, h2, h3⟩
      · exact .inl h1
      · exact .inr ⟨j + 1, y, by simpa using h1, by rw [h2]; congr 1; omega, h3⟩
/-- What a filter took so far. -/
theorem filter_at {α : Type} (p : α → Bool) : ∀ (l : List α) (j : Nat) (x : α), l[j]? = some x → p x = true → (l.filter p)[((l.take j).filter p).length]? = some x
  | [], j, x, h, _ => by simp at h
  | y :: l, 0, x, h, hp => by
    simp at h
    subst h
    simp [List.filter_cons, hp]
  | y :: l, j + 1, x, h, hp => by
    have ih := filter_at p l j x (by simpa using h) hp
    rw [List.take_succ_cons, List.filter_cons, List.filter_cons]
    split
    · simpa using ih
    · exact ih
end Go.Proofs.YtlbdnohnngkapaaGreatDoor

namespace Go.Proofs.YtlbdnohnngkapaaGreatDoor
open Go.RowKit

/-- What holds two parts against one another: of parts ps and qs. -/
def HoldsP (g : Nat) (f : PartD → PartD → Bool) (ps qs : List PartD) (w : World) : Prop :=
  ∀ (W : World) (i : Nat) (p q : PartD) (v u : List Value), ps[i]? = some p → qs[i]? = some q → PartAt (· < W.heap.size) W p v → PartAt (· < W.heap.size) W q u → Below w.heap.size w W →
    Calls Tryz.prog g #[.agg v.toArray, .agg u.toArray] W fun e w' => e = .returned (.bool (f p q)) ∧ Below W.heap.size W w'
theorem drop_get {ps : List PartD} {i : Nat} {p : PartD} (h : ps.drop i = p :: ps.drop (i + 1)) : ps[i]? = some p := by
  have := congrArg (fun l => l[0]?) h
  simpa using this
set_option maxRecDepth 100000 in
set_option maxHeartbeats 1000000 in
theorem EqualFunc_parts (g : Nat) (eg : ∀ args w, (callFunc g args).run Tryz.prog w = .ok (.enter g args) w) (f : PartD → PartD → Bool) (A A' : Option Addr) (n c n' c' B : Nat) (ps qs : List PartD) (w : World)
    (hP : SlP (· < B) w A n ps) (hQ : SlP (· < B) w A' n' qs) (hB : B ≤ w.heap.size) (hm : n ≤ maxLen) (hg : HoldsP g f ps qs w) :
    Calls Tryz.prog 121 #[.slice A n c, .slice A' n' c', .func (.func g) #[] #[]] w fun e w' => e = .returned (.bool (all2 f ps qs)) ∧ Below w.heap.size w w' := by
  have hl := hP.len
  have hl' := hQ.len
  have h1 := all2_len f ps qs
  have h2 := all2_miss f ps qs
  have h3 := all2_hit f ps qs
  generalize all2 f ps qs = R at h1 h2 h3 ⊢
  unfold maxLen at hm
  by_cases hnn : n = n'
  · subst hnn
    have Hl := Lib.hid hl
    have Hl' := Lib.hid hl'
    have H2 := Lib.hid h2
    have H3 := Lib.hid h3
    have Hg := Lib.hid hg
    have HP := Lib.hid hP
    have HQ := Lib.hid hQ
    have hne : ((n : Int) != n) = false := by simp
    clear h1 h2 h3 hl hl' hg hP hQ
    go_enter Tryz.func121, Tryz.ntmps121
    go_wp2_with fail
    go_loopw [17] (fun iv wr => ∃ i : Nat, iv = .int .i64 (i : Nat) ∧ i ≤ n ∧ Below w.heap.size w wr ∧ Hid (∀ (j : Nat) (p q : PartD), j < i → ps[j]? = some p → qs[j]? = some q → f p q = true)) (fun iv _ => n - (intOf iv).toNat)
    case atStart => exact ⟨0, rfl, Nat.zero_le _, Below.refl _ _, Lib.hid fun j p q h => absurd h (by omega)⟩
    case round =>
      obtain ⟨i, rfl, hi, hbel, hz⟩ := hrel
      by_cases hin : i < n
      · have hPr := HP.out.below (hbel.mono hB)
        obtain ⟨b, off, p, B1, m1, d1, B2, m2, d2, rfl, hbS, hp, hpa, x0, x1, x2, x3, x4, x5, x6⟩ := hPr.cells7 hin
        have hbs := hbel.size
        have hbelA := hbel.alloc hbs (.cells #[str p.type, str p.cs, str p.id, str p.loc, .int .i64 p.how, .slice B1 m1 d1, .slice B2 m2 d2] 25)
        have hQr := HQ.out.below (hbelA.mono hB)
        obtain ⟨b', off', q, B3, m3, d3, B4, m4, d4, rfl, hbS', hq, hqa, y0, y1, y2, y3, y4, y5, y6⟩ := hQr.cells7 hin
        have hp := drop_get hp
        have hq := drop_get hq
        have hbelB := (hbel.alloc hbs (.cells #[str p.type, str p.cs, str p.id, str p.loc, .int .i64 p.how, .slice B1 m1 d1, .slice B2 m2 d2] 25)).alloc (Nat.le_trans hbs (by simp)) (.cells #[str q.type, str q.cs, str q.id, str q.loc, .int .i64 q.how, .slice B3 m3 d3, .slice B4 m4 d4] 25)
        have hbB2 := ((Below.refl wr.heap.size wr).alloc (Nat.le_refl _) (.cells #[str p.type, str p.cs, str p.id, str p.loc, .int .i64 p.how, .slice B1 m1 d1, .slice B2 m2 d2] 25)).alloc (by simp) (.cells #[str q.type, str q.cs, str q.id, str q.loc, .int .i64 q.how, .slice B3 m3 d3, .slice B4 m4 d4] 25)
        have hbsB := hbelB.size
        have cS := Hg.out _ i p q _ _ hp hq ((hpa.belowN hbB2 (Nat.le_trans hB hbs)).more (Nat.le_trans hB hbsB)) ((hqa.belowN ((Below.refl _ _).alloc (Nat.le_refl _) _) (Nat.le_trans hB hbelA.size)).more (Nat.le_trans hB hbsB)) hbelB
        have hmiss := H2.out i p q hp hq
        have Hp := Lib.hid hp
        have Hq := Lib.hid hq
        clear hp hq hpa hqa hPr hQr
        by_cases hf : f p q = true
        · rw [hf] at cS
          have Hf := Lib.hid hf
          have CS := Lib.hid cS
          clear hf cS hmiss
          go_wp2_with (go_at_fn g; refine CS.out.mono ?_; rintro e w1 ⟨rfl, hb1⟩)
          refine ⟨⟨i + 1, by go_num, by omega, hbelB.trans (hb1.mono hbelB.size), Lib.hid fun j p' q' hj hp' hq' => ?_⟩, by simp [intOf]; omega⟩
          rcases Nat.lt_or_ge j i with h | h
          · exact hz.out j p' q' h hp' hq'
          · obtain rfl : j = i := by omega
            rw [Hp.out] at hp'
            rw [Hq.out] at hq'
            injection hp' with hp'
            injection hq' with hq'
            rw [← hp', ← hq']; exact Hf.out
        · have hf' : f p q = false := by simpa using hf
          rw [hf'] at cS
          have hr : Hid (R = false) := hmiss hf'
          have CS := Lib.hid cS
          clear hf hf' cS hmiss
          go_wp2_with (go_at_fn g; refine CS.out.mono ?_; rintro e w1 ⟨rfl, hb1⟩)
          go_ret
          exact ⟨by rw [hr.out]; rfl, hbelB.trans (hb1.mono hbelB.size)⟩
      · obtain rfl : i = n := by omega
        have hr : Hid (R = true) := H3.out (by rw [Hl.out, Hl'.out]) fun j p q hp hq => hz.out j p q (by
          rcases Nat.lt_or_ge j ps.length with h | h
          · rw [Hl.out] at h; exact h
          · rw [List.getElem?_eq_none h] at hp; cases hp) hp hq
        go_wp2_with fail
        go_ret
        exact ⟨by rw [hr.out]; rfl, hbel⟩
  · have hr : Hid (R = false) := h1 (by rw [hl, hl']; exact hnn)
    have hne : ((n : Int) != n') = true := by simp; omega
    clear h1 h2 h3 hg hP hQ hl hl'
    go_enter Tryz.func121, Tryz.ntmps121
    go_wp2_with fail
    go_ret
    exact ⟨by rw [hr.out]; rfl, Below.refl _ _⟩
end Go.Proofs.YtlbdnohnngkapaaGreatDoor

namespace Go.Proofs.YtlbdnohnngkapaaGreatDoor

/-- The 64 letters. -/
def letters : List UInt8 := [65, 66, 67, 68, 69, 70, 71, 72, 73, 74, 75, 76, 77, 78, 79, 80, 81, 82, 83, 84, 85, 86, 87, 88, 89, 90, 97, 98, 99, 100, 101, 102, 103, 104, 105, 106, 107, 108, 109, 110, 111, 112, 113, 114, 115, 116, 117, 118, 119, 120, 121, 122, 48, 49, 50, 51, 52, 53, 54, 55, 56, 57, 43, 47]
theorem letters_len : letters.length = 64 := by decide

/-- Three bytes as one number; what lacks is 0. -/
def val3 (l : List UInt8) : Nat := nth l 0 * 65536 + nth l 1 * 256 + nth l 2
/-- The number behind i rounds. -/
def valTo (l : List UInt8) : Nat → Nat
  | 0 => 0
  | i + 1 => valTo l i * 256 + nth l i
theorem valTo_three (l : List UInt8) : valTo l 3 = val3 l := by simp only [valTo, val3]; omega
theorem valTo_lt (l : List UInt8) (i : Nat) : valTo l i < 256 ^ i := by
  induction i with
  | zero => simp [valTo]
  | succ i ih =>
    have := nth_lt l i
    simp only [valTo, Nat.pow_succ]
    omega
/-- Letter i of four, of n bytes with the number v. -/
def quadL (n v i : Nat) : UInt8 := if n < i then 61 else letters.getD (v / 2 ^ (18 - 6 * i) % 64) 0
def quad (l : List UInt8) : List UInt8 := (List.range 4).map (quadL (min 3 l.length) (val3 l))
def brk (wide : Nat) : List UInt8 := if wide = 76 then [13, 10] else []
def after (wide : Nat) : Nat := if wide = 76 then 4 else wide + 4
/-- base.Text, where so many letters stand in the line already. -/
def enc (wide : Nat) (l : List UInt8) : List UInt8 :=
  match l with
  | [] => []
  | a :: t => brk wide ++ quad (a :: t) ++ enc (after wide) (t.drop 2)
termination_by l.length
decreasing_by simp; omega
theorem enc_nil (wide : Nat) : enc wide [] = [] := by rw [enc]
theorem enc_step (wide : Nat) (l : List UInt8) (h : 0 < l.length) : enc wide l = brk wide ++ quad l ++ enc (after wide) (l.drop (min 3 l.length)) := by
  cases l with
  | nil => simp at h
  | cons a t =>
    rw [enc]
    congr 2
    match t with
    | [] => rfl
    | [_] => rfl
    | _ :: _ :: t' => simp
theorem quad_len (l : List UInt8) : (quad l).length = 4 := by simp [quad]
theorem quad_take (l : List UInt8) (i : Nat) (h : i < 4) : (quad l).take (i + 1) = (quad l).take i ++ [quadL (min 3 l.length) (val3 l) i] := by
  rw [List.take_succ_eq_append_getElem (by rw [quad_len]; exact h)]
  simp [quad]
theorem quadL_gt {n v i : Nat} (h : n < i) : quadL n v i = 61 := by simp [quadL, h]
theorem quadL_le {n v i : Nat} (h : ¬ n < i) : quadL n v i = UInt8.ofNat (nth letters (v / 2 ^ (18 - 6 * i) % 64)) := by simp [quadL, h, nth]
theorem enc_len (k : Nat) : ∀ (wide : Nat) (l : List UInt8), l.length ≤ k → (enc wide l).length ≤ 6 * l.length := by
  induction k with
  | zero => intro wide l h; have : l = [] := List.eq_nil_of_length_eq_zero (by omega); subst this; simp [enc_nil]
  | succ k ih =>
    intro wide l h
    rcases Nat.eq_zero_or_pos l.length with h0 | h0
    · have : l = [] := List.eq_nil_of_length_eq_zero h0; subst this; simp [enc_nil]
    · rw [enc_step wide l h0]
      have hb : (brk wide).length ≤ 2 := by unfold brk; split <;> simp
      have := ih (after wide) (l.drop (min 3 l.length)) (by simp; omega)
      simp only [List.length_append, quad_len, List.length_drop] at this ⊢
      omega
end Go.Proofs.YtlbdnohnngkapaaGreatDoor

namespace Go.Proofs.YtlbdnohnngkapaaGreatDoor
open Go.RowKit

/-- 'b[k:]' at []byte. -/
theorem cut_bytes (w : World) (A : Option Addr) (n c : Nat) (ki : IntKind) (k : Int) (h0 : 0 ≤ k) (h1 : k ≤ n) :
    (Instr.slice 22 (.slice A n c) (some (.int ki k)) none none).run Tryz.prog w = .ok (.slice (cutA A c k.toNat 1) (n - k.toNat) (c - k.toNat)) w :=
  run_cut w _ _ 1 Tryz.underlying22 (Tryz.sizeOf5 w) A n c ki k h0 h1

attribute [local go_sem high] cut_bytes

/-! ### slices.Equal at []byte -/
theorem take_step (l l' : List UInt8) (k : Nat) (h : k < l.length) (h' : k < l'.length) (ht : l.take k = l'.take k) (hn : nth l k = nth l' k) : l.take (k + 1) = l'.take (k + 1) := by
  rw [List.take_succ_eq_append_getElem h, List.take_succ_eq_append_getElem h', ht]
  rw [nth_of l k h, nth_of l' k h'] at hn
  rw [UInt8.toNat_inj.1 hn]
theorem ne_of_nth (l l' : List UInt8) (k : Nat) (hn : nth l k ≠ nth l' k) : (l == l') = false := by
  rw [beq_eq_false_iff_ne]; rintro rfl; exact hn rfl
set_option maxHeartbeats 400000 in
theorem Equal_bytes (A A' : Option Addr) (n c n' c' : Nat) (B B' : Nat) (l l' : List UInt8) (w : World) (hb : By w B A n l) (hb' : By w B' A' n' l') (hm : n ≤ maxLen) :
    Calls Tryz.prog 31 #[.slice A n c, .slice A' n' c'] w fun e w' => e = .returned (.bool (l == l')) ∧ ∃ q, w' = w.drewN q := by
  unfold maxLen at hm
  by_cases hnn : n = n'
  · subst hnn
    have hl := hb.len
    have hl' := hb'.len
    have Hl := Lib.hid hl; have Hl' := Lib.hid hl'
    clear hl hl'
    go_enter Tryz.func31, Tryz.ntmps31
    go_wp2_with fail
    go_loopw [13] (fun iv wr => ∃ k q : Nat, k ≤ n ∧ iv = .int .i64 k ∧ Hid (l.take k = l'.take k) ∧ wr = w.drewN q) (fun iv _ => n - (intOf iv).toNat)
    case atStart => exact ⟨0, 0, by omega, rfl, rfl, rfl⟩
    case round =>
      obtain ⟨k, q, hk, rfl, ht, rfl⟩ := hrel
      by_cases hkn : k < n
      · obtain ⟨b, off, rfl, _, hc⟩ := hb.at_ hkn
        obtain ⟨b', off', rfl, _, hc'⟩ := hb'.at_ hkn
        by_cases hx : nth l k = nth l' k
        · have hd : ((nth l k : Int) != (nth l' k : Int)) = false := by simp [hx]
          have Hx := Lib.hid hx; clear hx
          go_wp2_with fail
          go_quiet (fail)
          go_wp2_with fail
          exact ⟨⟨k + 1, _, by omega, by go_num, take_step l l' k (by rw [Hl.out]; exact hkn) (by rw [Hl'.out]; exact hkn) ht.out Hx.out, rfl⟩, by simp [intOf]; omega⟩
        · have hd : ((nth l k : Int) != (nth l' k : Int)) = true := by simp; omega
          have Hx := Lib.hid (ne_of_nth l l' k hx)
          clear hx
          go_wp2_with fail
          go_quiet (fail)
          go_wp2_with fail
          go_ret
          exact ⟨by rw [Hx.out]; rfl, _, World.drewN_drewN _ _ _⟩
      · go_wp2_with fail
        go_ret
        have : l = l' := by
          have h := ht.out
          rwa [List.take_of_length_le (by rw [Hl.out]; omega), List.take_of_length_le (by rw [Hl'.out]; omega)] at h
        exact ⟨by rw [this]; simp, _, rfl⟩
  · have hd : ((n : Int) != (n' : Int)) = true := by simp; omega
    have hll : (l == l') = false := by
      rw [beq_eq_false_iff_ne]
      rintro rfl
      exact hnn (hb.len.symm.trans hb'.len)
    have Hll := Lib.hid hll; clear hll
    go_enter Tryz.func31, Tryz.ntmps31
    go_wp2_with fail
    go_ret
    exact ⟨by rw [Hll.out]; rfl, 0, rfl⟩
end Go.Proofs.YtlbdnohnngkapaaGreatDoor

namespace Go.Proofs.YtlbdnohnngkapaaGreatDoor
open Go.RowKit

set_option maxRecDepth 100000 in
set_option maxHeartbeats 1000000 in
theorem Same_any (k : Nat) : ∀ (p q : PartD) (v u : List Value) (w : World), (flatD p).length ≤ k → PartAt (· < w.heap.size) w p v → PartAt (· < w.heap.size) w q u →
    Calls Tryz.prog 47 #[.agg v.toArray, .agg u.toArray] w fun e w' => e = .returned (.bool (sameD p q)) ∧ Below w.heap.size w w' := by
  induction k with
  | zero => intro p q v u w h; rw [flatD_eq] at h; simp at h
  | succ k ih =>
    intro p q v u w hk hp hq
    have hs := sameD_eq p q
    have hfl : ∀ x ∈ p.parts, (flatD x).length ≤ k := by
      intro x hx
      obtain ⟨i, hi, rfl⟩ := List.getElem_of_mem hx
      have h1 := (flatsD_get p.parts i hi).1
      rw [flatD_eq] at hk
      simp at hk
      omega
    obtain ⟨A, c, A2, c2, rfl, hbd, hby, hbc, hcm, hP, hc2, hcm2⟩ := hp.open
    obtain ⟨A', c', A2', c2', rfl, hbd', hby', hbc', hcm', hP', hc2', hcm2'⟩ := hq.open
    have cE := fun (W : World) (hb : Below w.heap.size w W) => Equal_bytes A A' p.body.length c q.body.length c' w.heap.size w.heap.size p.body q.body W (Sl.below hby hb) (Sl.below hby' hb) (Nat.le_trans hbc hcm)
    have cF := fun (W : World) (hb : Below w.heap.size w W) => EqualFunc_parts 47 (enters_of Tryz.func47 (by kernel_rfl) rfl) sameD A2 A2' p.parts.length c2 q.parts.length c2' w.heap.size p.parts q.parts W (hP.below hb) (hP'.below hb) hb.size (Nat.le_trans hc2 hcm2)
      (fun W1 i x y vx vy hx hy hxa hya hb1 => ih x y vx vy W1 (hfl x (List.mem_of_getElem? hx)) hxa hya)
    rw [hs]
    unfold oneSame
    generalize all2 sameD p.parts q.parts = r7 at cF ⊢
    have CE := Lib.hid cE
    have CF := Lib.hid cF
    clear ih hfl hk hs cE cF hp hq hP hP' hby hby' hbd hbd'
    go_enter Tryz.func47, Tryz.ntmps47
    go_wp2_with fail
    case' _ =>
      refine (CE.out _ (((Below.refl _ w).alloc (Nat.le_refl _) _).alloc (by simp) _)).mono ?_
      generalize h6 : (p.body == q.body) = r6
      have H6 := Lib.hid h6
      clear h6
      rintro e w1 ⟨rfl, q1, rfl⟩
      cases r6
    all_goals try go_wp2_with fail
    case' _ =>
      go_ret
      exact ⟨by rw [H6.out]; simp, belN (((Below.refl _ w).alloc (Nat.le_refl _) _).alloc (by simp) _) q1⟩
    case' _ =>
      have hb := belN (((Below.refl _ w).alloc (Nat.le_refl _) (.cells #[str q.type, str q.cs, str q.id, str q.loc, .int .i64 q.how, .slice A p.body.length c, .slice A2 p.parts.length c2] 25)).alloc (by simp) (.cells #[str q.type, str q.cs, str q.id, str q.loc, .int .i64 q.how, .slice A' q.body.length c', .slice A2' q.parts.length c2'] 25)) q1
      refine (CF.out _ hb).mono ?_
      rintro e w2 ⟨rfl, hb2⟩
      go_wp2_with fail
      go_ret
      refine ⟨?_, hb.trans (hb2.mono hb.size)⟩
      rw [H6.out]
      simp [*]
    all_goals
      go_ret
      refine ⟨?_, (((Below.refl _ w).alloc (Nat.le_refl _) _).alloc (by simp) _)⟩
      simp [*]
end Go.Proofs.YtlbdnohnngkapaaGreatDoor
