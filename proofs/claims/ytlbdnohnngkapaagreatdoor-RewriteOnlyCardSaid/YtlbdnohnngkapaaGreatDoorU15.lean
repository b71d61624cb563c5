import Derived.Test.YtlbdnohnngkapaaGreatDoorU10
import Derived.Test.YtlbdnohnngkapaaGreatDoorU14
import Derived.Test.YtlbdnohnngkapaaGreatDoorU11
import Derived.Test.YtlbdnohnngkapaaGreatDoorU12
import Derived.Deep.Slices
import Derived.Deep.Fields
import Derived.Lib.SmallJoins
import Derived.SizedLaws
namespace Go.Proofs.YtlbdnohnngkapaaGreatDoor
open Go.RowKit

theorem textsN_take {ns : List NameD} {gs : List GoalD} {i j : Nat} {x : GoalD} (h : gs[j]? = some x) : textsN ns (gs.take (j + 1)) i = if x.part = i then textsN ns (gs.take j) i ++ [ofN ns x.find] else textsN ns (gs.take j) i := by
  rw [List.take_add_one, h]
  unfold textsN
  by_cases hx : x.part = i
  · rw [if_pos hx]; simp [List.filter_append, List.filter_cons, hx]
  · rw [if_neg hx]; simp [List.filter_append, List.filter_cons, hx]
theorem cnt_take {gs : List GoalD} {i j : Nat} {x : GoalD} (h : gs[j]? = some x) : ((gs.take (j + 1)).filter (fun g => g.part == i)).length = if x.part = i then ((gs.take j).filter (fun g => g.part == i)).length + 1 else ((gs.take j).filter (fun g => g.part == i)).length := by
  rw [List.take_add_one, h]
  by_cases hx : x.part = i
  · rw [if_pos hx]; simp [List.filter_append, List.filter_cons, hx]
  · rw [if_neg hx]; simp [List.filter_append, List.filter_cons, hx]
/-- The inner loop's relation: the texts so far. -/
def TxO (m i : Nat) (ns : List NameD) (gs : List GoalD) (w7 : World) (tv nv jv : Value) (wr : World) : Prop :=
  ∃ (j nt ct : Nat) (St : Option Addr), jv = .int .i64 (j : Nat) ∧ j ≤ m ∧ tv = .slice St nt ct ∧ nv = .int .i64 (nt : Nat) ∧ Hid (nt = ((gs.take j).filter (fun g => g.part == i)).length) ∧
    wr.ownsRow w7.heap.size 9 1 (.slice St nt ct) nt ((textsN ns (gs.take j) i).map str) ∧ Below w7.heap.size w7 wr
/-- A part whose body comes out of another row. -/
theorem mix_at {S : Nat → Prop} {w : World} {q r : PartD} {A : Option Addr} {n c : Nat} {A2 : Option Addr} {n2 c2 : Nat} {B : Option Addr} {m d : Nat} {B2 : Option Addr} {m2 d2 : Nat} {a0 a1 a2 a3 a4 b0 b1 b2 b3 b4 : Value}
    (hq : PartAt S w q [a0, a1, a2, a3, a4, .slice A n c, .slice A2 n2 c2]) (hr : PartAt S w r [b0, b1, b2, b3, b4, .slice B m d, .slice B2 m2 d2]) (hp : r.parts = q.parts) :
    PartAt S w q [a0, a1, a2, a3, a4, .slice A n c, .slice B2 m2 d2] := by
  obtain ⟨t, cs, id, loc, how, body, parts⟩ := q
  obtain ⟨t', cs', id', loc', how', body', parts'⟩ := r
  simp only at hp
  subst hp
  obtain ⟨A_, n_, c_, A2_, n2_, c2_, rows, hv, h1, h2, h3, h4, h5, h6, h7, h8⟩ := hq
  obtain ⟨B_, m_, d_, B2_, m2_, d2_, rows', hv', k1, k2, k3, k4, k5, k6, k7, k8⟩ := hr
  simp only [List.cons.injEq, and_true] at hv hv'
  obtain ⟨rfl, rfl, rfl, rfl, rfl, e5, _⟩ := hv
  obtain ⟨_, _, _, _, _, _, e6⟩ := hv'
  exact ⟨A_, n_, c_, B2_, m2_, d2_, rows', by rw [e5, e6], h1, h2, h3, h4, k5, k6, k7, k8⟩
def s7 (W : World) (r : Nat) (u0 u1 u2 u3 u4 u5 u6 : Value) : World := ((((((W.setCell ⟨r, 0, none⟩ u0).setCell ⟨r, 1, none⟩ u1).setCell ⟨r, 2, none⟩ u2).setCell ⟨r, 3, none⟩ u3).setCell ⟨r, 4, none⟩ u4).setCell ⟨r, 5, none⟩ u5).setCell ⟨r, 6, none⟩ u6
theorem s7_box {w : World} {b : Nat} {v0 v1 v2 v3 v4 v5 v6 : Value} (h : BoxF w b v0 v1 v2 v3 v4 v5 v6) (u0 u1 u2 u3 u4 u5 u6 : Value) : BoxF (s7 w b u0 u1 u2 u3 u4 u5 u6) b u0 u1 u2 u3 u4 u5 u6 :=
  ⟨BoxF.set7 h u0 u1 u2 u3 u4 u5 u6, fun k => by unfold s7; simpa using h.2 k⟩
theorem s7_far (W : World) (r : Nat) (u0 u1 u2 u3 u4 u5 u6 : Value) (b : Nat) (hb : b ≠ r) : (s7 W r u0 u1 u2 u3 u4 u5 u6).heap[b]? = W.heap[b]? := by
  unfold s7
  simp only [World.setCell, Array.getElem?_modify]
  simp [Ne.symm hb]
theorem s7_size (W : World) (r : Nat) (u0 u1 u2 u3 u4 u5 u6 : Value) : (s7 W r u0 u1 u2 u3 u4 u5 u6).heap.size = W.heap.size := by unfold s7; simp
theorem s7_below {C : Nat} {w0 w : World} {b : Nat} (h : Below C w0 w) (hC : C ≤ b) (u0 u1 u2 u3 u4 u5 u6 : Value) : Below C w0 (s7 w b u0 u1 u2 u3 u4 u5 u6) := below_seven h hC u0 u1 u2 u3 u4 u5 u6
set_option maxRecDepth 100000 in
set_option maxHeartbeats 4000000 in
theorem rewriteOnly_walk (p : PartD) (v : List Value) (NA : Option Addr) (nn nc : Nat) (ns : List NameD) (w : World) (hM : MaxLenOk w) (hp : PartAt (· < w.heap.size) w p v) (hns : Sl w w.heap.size 2 NA nn (nameC ns)) (hnn : nn ≤ nc) (hnc : nc ≤ maxLen) (hok0 : NamesOk ns) :
    Calls Tryz.prog 8 #[.agg v.toArray, .slice NA nn nc] w fun e w' => e = .returned (.bool true) ∧ Below w.heap.size w w' := by
  have hN0 := fun W h1 h2 h3 => Names_any p v NA nn nc ns W h1 h2 h3 hnn hnc hok0
  have hgl := fun W hM h => Goals_any p v W hM h
  have hal := fun W h => All_any p v W h
  unfold NamesOut at hN0
  unfold GoalsOut at hgl
  unfold AllOut at hal
  obtain ⟨A, c, A2, c2, rfl, _⟩ := hp.open
  obtain ⟨W, hW⟩ : ∃ W, W = w.alloc (.cells #[str p.type, str p.cs, str p.id, str p.loc, .int .i64 p.how, .slice A p.body.length c, .slice A2 p.parts.length c2] 25) := ⟨_, rfl⟩
  have hbW : Below w.heap.size w W := by rw [hW]; exact (Below.refl _ w).alloc (Nat.le_refl _) _
  have hbx : Box7 W w.heap.size (str p.type) (str p.cs) (str p.id) (str p.loc) (.int .i64 p.how) (.slice A p.body.length c) (.slice A2 p.parts.length c2) := by rw [hW]; exact Box7.new w _ _ _ _ _ _ _ _
  have HN0 := Lib.hid hN0
  have Hgl := Lib.hid hgl
  have Hal := Lib.hid hal
  have Hp := Lib.hid hp
  have HM := Lib.hid hM
  have Hns := Lib.hid hns
  clear hN0 hgl hal hp hM hns
  by_cases he : (namesE p ns).2 = 0
  · have hoc := only_check he
    have hol := only_len he
    have hoa := only_at he
    have hop := only_page he
    obtain ⟨hc, hnf, hg, _⟩ := namesE_parts he
    obtain ⟨q, k, hq⟩ : ∃ q k, namesE p ns = (q, k) := ⟨_, _, rfl⟩
    obtain ⟨gs, gk, hgg⟩ : ∃ gs gk, goalsE p = (gs, gk) := ⟨_, _, rfl⟩
    have hgd := goalsE_zero (p := p) hc hg
    rw [hq] at HN0 he hoc hol hoa
    rw [hgg] at Hgl hg hoa hop hgd
    simp only at HN0 he hoc hol hoa Hgl hg hop hgd
    subst he
    subst hg
    have hgood := namesF_good _ _ _ hnf
    have h12 := (checkD_ok p hc).1
    have hgcap : gs.length ≤ 720 := by
      have := goalsF_len _ _ _ _ _ _ _ (show goalsF (flatD p) (whereD p) (flatD p) (whereD p) 0 [] = some gs from hgd)
      simp only [List.length_nil] at this
      omega
    obtain ⟨n, hn⟩ : ∃ n, n = (flatD p).length := ⟨_, rfl⟩
    rw [hc] at Hal
    simp only [if_true] at Hal
    rw [← hn] at Hal hol h12
    obtain ⟨m, hm⟩ : ∃ m, m = gs.length := ⟨_, rfl⟩
    rw [← hm] at Hgl hgcap
    have HQal := Lib.hid (fun (X : World) (u : List Value) h => All_any q u X h)
    unfold AllOut at HQal
    rw [hoc, hol] at HQal
    simp only [if_true] at HQal
    have Hoa := Lib.hid hoa
    have Hop := Lib.hid hop
    have Hgood := Lib.hid hgood
    have Hn := Lib.hid hn
    have Hm := Lib.hid hm
    have ⟨x0, x1, x2, x3, x4, x5, x6⟩ := hbx
    clear hoc hol hoa hop hc hnf hq hgg hgd hgood hn hm
    go_enter Tryz.func8, Tryz.ntmps8
    go_wp2_with fail
    rw [← hW]
    clear hW
    refine (HN0.out W (HM.out.below hbW) ((Hp.out.below hbW).more hbW.size) ((Sl.below Hns.out hbW).more hbW.size)).mono ?_
    rintro e w1 ⟨v1, rfl, hp1, hb1⟩
    obtain ⟨A1, c1, A3, c3, rfl, _⟩ := hp1.open
    have hb1' := hbW.trans (hb1.mono hbW.size)
    have hbx1 := hbx.below hb1
    obtain ⟨W1, hW1⟩ : ∃ W1, W1 = w1.alloc (.cells #[str q.type, str q.cs, str q.id, str q.loc, .int .i64 q.how, .slice A1 q.body.length c1, .slice A3 q.parts.length c3] 25) := ⟨_, rfl⟩
    have hbA : Below w1.heap.size w1 W1 := by rw [hW1]; exact (Below.refl _ _).alloc (Nat.le_refl _) _
    have hby1 : Box7 W1 w1.heap.size (str q.type) (str q.cs) (str q.id) (str q.loc) (.int .i64 q.how) (.slice A1 q.body.length c1) (.slice A3 q.parts.length c3) := by rw [hW1]; exact Box7.new w1 _ _ _ _ _ _ _ _
    have hbx2 := hbx1.below hbA
    have hb2 := hb1'.trans (hbA.mono hb1'.size)
    have hr2 := Lib.hid (renamed_any W1 (HM.out.below hb2))
    have Hb2 := Lib.hid hb2
    have Hp1 := Lib.hid (PartAt.change (S' := fun b => b < W1.heap.size) (w' := W1) (fun b hb => by have := hbA.size; omega) (fun q hq => hbA.cell hq.2) _ _ hp1)
    clear x0 x1 x2 x3 x4 x5 x6 hbx hb1 hb1' hbA hb2 hp1 hbx1 hbW HN0
    go_upto_region 2 with fail
    rw [← hW1]
    clear hW1
    go_wp2_with fail
    refine hr2.out.mono ?_
    rintro e w2 ⟨rfl, hb3⟩
    have hb4 := Hb2.out.trans (hb3.mono Hb2.out.size)
    have hbx3 := hbx2.below hb3
    have hby3 := hby1.below hb3
    have ⟨x0, x1, x2, x3, x4, x5, x6⟩ := hbx3
    have Hp2 := Lib.hid ((Hp1.out.below hb3).more hb3.size)
    have Ha2 := Lib.hid (Hal.out w2 ((Hp.out.below hb4).more hb4.size))
    have Hb4 := Lib.hid hb4
    clear hb3 hb4 hbx2 hby1 hr2 Hp1 Hb2 Hal
    go_wp2_with fail
    refine Ha2.out.mono ?_
    rintro e w3 ⟨Sa, ca, rfl, hsa, hca, hma, hb5⟩
    have hbx4 := hbx3.below hb5
    have hby4 := hby3.below hb5
    have hb6 := Hb4.out.trans (hb5.mono Hb4.out.size)
    have Hq3 := Lib.hid (HQal.out w3 _ ((Hp2.out.below hb5).more hb5.size))
    have ⟨y0, y1, y2, y3, y4, y5, y6⟩ := hby4
    have Hsa := Lib.hid hsa
    have Hb6 := Lib.hid hb6
    clear x0 x1 x2 x3 x4 x5 x6 hbx3 hby3 hb5 hb6 hsa Ha2 Hp2 Hb4 HQal
    go_wp2_with fail
    refine Hq3.out.mono ?_
    rintro e w4 ⟨Sb, cb, rfl, hsb, hcb, hmb, hb7⟩
    have hbx5 := hbx4.below hb7
    have hb8 := Hb6.out.trans (hb7.mono Hb6.out.size)
    have Hsa4 := Lib.hid ((Hsa.out.below hb7).more hb7.size)
    have Hg4 := Lib.hid (Hgl.out w4 (HM.out.below hb8) ((Hp.out.below hb8).more hb8.size))
    have ⟨x0, x1, x2, x3, x4, x5, x6⟩ := hbx5
    have Hsb := Lib.hid hsb
    have Hb8 := Lib.hid hb8
    clear y0 y1 y2 y3 y4 y5 y6 hbx4 hby4 hb7 hb8 hsb Hsa Hb6 Hgl Hq3
    go_wp2_with fail
    refine Hg4.out.mono ?_
    rintro e w5 ⟨Sg, cg, rfl, hown5, hb9⟩
    have hb10 := Hb8.out.trans (hb9.mono Hb8.out.size)
    have Hsa5 := Lib.hid ((Hsa4.out.below hb9).more hb9.size)
    have Hsb5 := Lib.hid ((Hsb.out.below hb9).more hb9.size)
    have Hsg := Lib.hid (Sl.of_own hown5)
    have Hb10 := Lib.hid hb10
    clear x0 x1 x2 x3 x4 x5 x6 hbx5 hb9 hb10 hown5 Hg4 Hsa4 Hsb Hb8
    go_wp2_with fail
    have hn1 : n ≤ 12 := h12
    go_loopw [4, 72] (fun sv iv wr => ∃ i : Nat, sv = .bool false ∧ iv = .int .i64 (i : Nat) ∧ i ≤ n ∧ Below w5.heap.size w5 wr) (fun _ iv _ => n - (intOf iv).toNat)
    case atStart => exact ⟨0, rfl, rfl, Nat.zero_le _, Below.refl _ _⟩
    case round =>
      obtain ⟨i, rfl, rfl, hi, hbel⟩ := hrel
      by_cases hin : i < n
      · obtain ⟨ba, offa, xa, A', n', c', A2', n2', c2'', hSa, hba, hxq, hxa, x0, x1, x2, x3, x4, x5, x6⟩ := (Hsa5.out.below hbel).cells7 hin
        subst hSa
        obtain ⟨bb, offb, yb, B', m', d', B2', m2', d2'', hSb, hbb, hyq, hya, y0, y1, y2, y3, y4, y5, y6⟩ := (Hsb5.out.below hbel).cells7 hin
        subst hSb
        have hiF : i < (flatD p).length := by rw [← Hn.out]; exact hin
        obtain ⟨x, hx⟩ : ∃ x, (flatD p)[i]? = some x := ⟨_, List.getElem?_eq_getElem hiF⟩
        obtain ⟨y, hy, hk1, hk2, hk3, hk4⟩ := Hoa.out i x hx
        have hxe : xa = bareD x := by
          have h1 : ((flatD p).map bareD)[i]? = some (bareD x) := by rw [List.getElem?_map, hx]; rfl
          have h2 : ((flatD p).map bareD)[i]? = some xa := by rw [← List.head?_drop, hxq]; rfl
          rw [h1] at h2
          exact (Option.some.inj h2).symm
        have hye : yb = bareD y := by
          have h1 : ((flatD q).map bareD)[i]? = some (bareD y) := by rw [List.getElem?_map, hy]; rfl
          have h2 : ((flatD q).map bareD)[i]? = some yb := by rw [← List.head?_drop, hyq]; rfl
          rw [h1] at h2
          exact (Option.some.inj h2).symm
        subst hxe
        subst hye
        have hxl := x5
        have hi0 : (0 : Int) ≤ i := by omega
        have hi1 : (i : Int) < n := by omega
        have Hxa := Lib.hid hxa
        have Hya := Lib.hid hya
        have Hk := Lib.hid (And.intro hk1 (And.intro hk2 (And.intro hk3 hk4)))
        have Hx := Lib.hid hx
        clear hxq hyq hxa hya hk1 hk2 hk3 hk4 hx hy hxl
        simp only [bareD] at x0 x1 x2 x3 x4 x5 x6 y0 y1 y2 y3 y4 y5 y6
        go_upto_region 12 with fail
        have hbaw : ba < wr.heap.size := Nat.lt_of_lt_of_le hba hbel.size
        have hbbw : bb < wr.heap.size := Nat.lt_of_lt_of_le hbb hbel.size
        go_cut [13, 14] from 75 to 82 (fun p13 p14 wx => ∃ gx gy, p13 = .pointer (some ⟨gx, 0, none⟩) ∧ p14 = .pointer (some ⟨gy, 0, none⟩) ∧ gx ≠ gy ∧ wr.heap.size ≤ gx ∧ wr.heap.size ≤ gy ∧ BoxF wx gx (str x.type) (str x.cs) (str x.id) (str x.loc) (.int .i64 x.how) (.slice A' n' c') (.slice A2' n2' c2'') ∧ BoxF wx gy (str y.type) (str y.cs) (str y.id) (str y.loc) (.int .i64 y.how) (.slice B' m' d') (.slice B2' m2' d2'') ∧ gx < wx.heap.size ∧ gy < wx.heap.size ∧ Below wr.heap.size wr wx)
        case first =>
          have hS : (fun W' : World => Below wr.heap.size wr W') (World.drew wr) := (Below.refl _ wr).drew
          refine wp_region_held (S := (fun W' : World => Below wr.heap.size wr W')) (by kernel_rfl) ?_
          change wpAnyH _ _ _ _ _ _ _ _ (World.drew wr)
          refine wpAnyH_take (i := 0) (v := ?_) rfl (by kernel_rfl) (by kernel_rfl) (by kernel_rfl) (fun _ _ _ h => h) (Or.inl ⟨by kernel_rfl, ?_⟩) hS ?_
          rotate_left 1
          · intro W' hb'; go_simp; try exact rfl
          refine wpAnyH_take (i := 1) (v := ?_) rfl (by kernel_rfl) (by kernel_rfl) (by kernel_rfl) (fun _ _ _ h => h) (Or.inl ⟨by kernel_rfl, ?_⟩) hS ?_
          rotate_left 1
          · intro W' hb'; go_simp; try exact rfl
          refine wpAnyH_take (i := 2) (v := ?_) rfl (by kernel_rfl) (by kernel_rfl) (by kernel_rfl) (fun _ _ _ h => h) (Or.inl ⟨by kernel_rfl, ?_⟩) hS ?_
          rotate_left 1
          · intro W' hb'; go_simp; try exact rfl
          refine wpAnyH_take (i := 3) (v := ?_) rfl (by kernel_rfl) (by kernel_rfl) (by kernel_rfl) (fun _ _ _ h => h) (Or.inl ⟨by kernel_rfl, ?_⟩) hS ?_
          rotate_left 1
          · intro W' hb'; have q0 := (hb'.cell (p := ⟨ba, _, none⟩) hbaw).trans x0; have q1 := (hb'.cell (p := ⟨ba, _, none⟩) hbaw).trans x1; have q2 := (hb'.cell (p := ⟨ba, _, none⟩) hbaw).trans x2; have q3 := (hb'.cell (p := ⟨ba, _, none⟩) hbaw).trans x3; have q4 := (hb'.cell (p := ⟨ba, _, none⟩) hbaw).trans x4; have q5 := (hb'.cell (p := ⟨ba, _, none⟩) hbaw).trans x5; have q6 := (hb'.cell (p := ⟨ba, _, none⟩) hbaw).trans x6; go_simp; try exact rfl
          refine wpAnyH_take (i := 4) (v := ?_) rfl (by kernel_rfl) (by kernel_rfl) (by kernel_rfl) (fun _ _ _ h => h) (Or.inl ⟨by kernel_rfl, ?_⟩) hS ?_
          rotate_left 1
          · intro W' hb'; go_simp; try exact rfl
          refine wpAnyH_take (i := 5) (v := ?_) rfl (by kernel_rfl) (by kernel_rfl) (by kernel_rfl) (fun _ _ _ h => h) (Or.inl ⟨by kernel_rfl, ?_⟩) hS ?_
          rotate_left 1
          · intro W' hb'; go_simp; try exact rfl
          refine wpAnyH_take (i := 6) (v := ?_) rfl (by kernel_rfl) (by kernel_rfl) (by kernel_rfl) (fun _ _ _ h => h) (Or.inl ⟨by kernel_rfl, ?_⟩) hS ?_
          rotate_left 1
          · intro W' hb'; go_simp; try exact rfl
          refine wpAnyH_take (i := 7) (v := ?_) rfl (by kernel_rfl) (by kernel_rfl) (by kernel_rfl) (fun _ _ _ h => h) (Or.inl ⟨by kernel_rfl, ?_⟩) hS ?_
          rotate_left 1
          · intro W' hb'; have q0 := (hb'.cell (p := ⟨bb, _, none⟩) hbbw).trans y0; have q1 := (hb'.cell (p := ⟨bb, _, none⟩) hbbw).trans y1; have q2 := (hb'.cell (p := ⟨bb, _, none⟩) hbbw).trans y2; have q3 := (hb'.cell (p := ⟨bb, _, none⟩) hbbw).trans y3; have q4 := (hb'.cell (p := ⟨bb, _, none⟩) hbbw).trans y4; have q5 := (hb'.cell (p := ⟨bb, _, none⟩) hbbw).trans y5; have q6 := (hb'.cell (p := ⟨bb, _, none⟩) hbbw).trans y6; go_simp; try exact rfl
          refine wpAnyH_all (rs := [8, 9]) (by kernel_rfl) (by simp) ?_
          intro kk hkk
          simp only [List.mem_cons, List.not_mem_nil, or_false] at hkk
          rcases hkk with rfl | rfl
          · go_simp
            refine wpOp_runv rfl (by kernel_rfl) (.pointer (some ⟨wr.heap.size, 0, none⟩)) ((World.drew wr).alloc (.cells #[.string ⟨#[]⟩, .string ⟨#[]⟩, .string ⟨#[]⟩, .string ⟨#[]⟩, .int .i64 0, .slice none 0 0, .slice none 0 0] 25)) (by go_simp; try rfl) ?_
            have hS2 := hS.alloc (Nat.le_refl _) (.cells #[.string ⟨#[]⟩, .string ⟨#[]⟩, .string ⟨#[]⟩, .string ⟨#[]⟩, .int .i64 0, .slice none 0 0, .slice none 0 0] 25)
            refine ⟨hS2, ?_⟩
            refine wpAnyH_all (rs := [9]) (by kernel_rfl) (by simp) ?_
            intro kk hkk
            simp only [List.mem_singleton] at hkk
            subst hkk
            go_simp
            refine wpOp_runv rfl (by kernel_rfl) (.pointer (some ⟨wr.heap.size + 1, 0, none⟩)) (((World.drew wr).alloc (.cells #[.string ⟨#[]⟩, .string ⟨#[]⟩, .string ⟨#[]⟩, .string ⟨#[]⟩, .int .i64 0, .slice none 0 0, .slice none 0 0] 25)).alloc (.cells #[.string ⟨#[]⟩, .string ⟨#[]⟩, .string ⟨#[]⟩, .string ⟨#[]⟩, .int .i64 0, .slice none 0 0, .slice none 0 0] 25)) (by go_simp; try rfl) ?_
            have hS3 := hS2.alloc (by simp) (.cells #[.string ⟨#[]⟩, .string ⟨#[]⟩, .string ⟨#[]⟩, .string ⟨#[]⟩, .int .i64 0, .slice none 0 0, .slice none 0 0] 25)
            refine ⟨hS3, ?_⟩
            obtain ⟨W2, hW2⟩ : ∃ X, X = ((World.drew wr).alloc (.cells #[.string ⟨#[]⟩, .string ⟨#[]⟩, .string ⟨#[]⟩, .string ⟨#[]⟩, .int .i64 0, .slice none 0 0, .slice none 0 0] 25)).alloc (.cells #[.string ⟨#[]⟩, .string ⟨#[]⟩, .string ⟨#[]⟩, .string ⟨#[]⟩, .int .i64 0, .slice none 0 0, .slice none 0 0] 25) := ⟨_, rfl⟩
            rw [← hW2] at hS3 ⊢
            have hsz2 : W2.heap.size = wr.heap.size + 2 := by rw [hW2]; simp
            have hz1 : BoxF W2 wr.heap.size (.string ⟨#[]⟩) (.string ⟨#[]⟩) (.string ⟨#[]⟩) (.string ⟨#[]⟩) (.int .i64 0) (.slice none 0 0) (.slice none 0 0) := by
              refine BoxF.of_block (t := 25) ?_
              rw [hW2, Lib.alloc_old _ _ _ (by simp)]
              exact heap_alloc_new (World.drew wr) _
            have hz2 : BoxF W2 (wr.heap.size + 1) (.string ⟨#[]⟩) (.string ⟨#[]⟩) (.string ⟨#[]⟩) (.string ⟨#[]⟩) (.int .i64 0) (.slice none 0 0) (.slice none 0 0) := by
              refine BoxF.of_block (t := 25) ?_
              rw [hW2]
              have := fun o => heap_alloc_new ((World.drew wr).alloc o)
              simp only [World.size_alloc] at this
              exact this _ _
            clear hS2 hW2
            have HZx := Lib.hid hz1
            have HZy := Lib.hid hz2
            clear hz1 hz2
            obtain ⟨gv, hgv⟩ : ∃ g, g = wr.heap.size + 1 := ⟨_, rfl⟩
            rw [← hgv] at HZy ⊢
            have hne : wr.heap.size ≠ gv := by omega
            have hlx : wr.heap.size ≤ wr.heap.size := by omega
            have hly : wr.heap.size ≤ gv := by omega
            have hlx2 : wr.heap.size < W2.heap.size := by omega
            have hly2 : gv < W2.heap.size := by omega
            clear hgv
            refine wpAnyH_all (rs := [10]) (by kernel_rfl) (by simp) ?_
            intro kk hkk
            simp only [List.mem_singleton] at hkk
            subst hkk
            have ⟨⟨c0, c1, c2_, c3, c4, c5, c6⟩, cf⟩ := HZx.out
            have f0 := cf 0
            have f1 := cf 1
            have f2 := cf 2
            have f3 := cf 3
            have f4 := cf 4
            have f5 := cf 5
            have f6 := cf 6
            go_simp
            obtain ⟨W3, hW3⟩ : ∃ X, X = s7 W2 wr.heap.size (str x.type) (str x.cs) (str x.id) (str x.loc) (.int .i64 x.how) (.slice A' n' c') (.slice A2' n2' c2'') := ⟨_, rfl⟩
            refine wpOp_store rfl (by kernel_rfl) W3 (by rw [hW3]; unfold s7; go_simp; try rfl) ?_
            have hbx3 := s7_box HZx.out (str x.type) (str x.cs) (str x.id) (str x.loc) (.int .i64 x.how) (.slice A' n' c') (.slice A2' n2' c2'')
            have hfar3 := s7_far W2 wr.heap.size (str x.type) (str x.cs) (str x.id) (str x.loc) (.int .i64 x.how) (.slice A' n' c') (.slice A2' n2' c2'')
            have hsz3 := s7_size W2 wr.heap.size (str x.type) (str x.cs) (str x.id) (str x.loc) (.int .i64 x.how) (.slice A' n' c') (.slice A2' n2' c2'')
            have hb3 := s7_below hS3 hlx (str x.type) (str x.cs) (str x.id) (str x.loc) (.int .i64 x.how) (.slice A' n' c') (.slice A2' n2' c2'')
            rw [← hW3] at hbx3 hfar3 hsz3 hb3
            have hby3 := BoxF.keep HZy.out (hfar3 gv (Ne.symm hne))
            have HX3 := Lib.hid hbx3
            have HY3 := Lib.hid hby3
            clear c0 c1 c2_ c3 c4 c5 c6 cf f0 f1 f2 f3 f4 f5 f6 hW3 hbx3 hby3 hfar3
            refine ⟨hb3, ?_⟩
            refine wpAnyH_all (rs := [11]) (by kernel_rfl) (by simp) ?_
            intro kk hkk
            simp only [List.mem_singleton] at hkk
            subst hkk
            have ⟨⟨c0, c1, c2_, c3, c4, c5, c6⟩, cf⟩ := HY3.out
            have f0 := cf 0
            have f1 := cf 1
            have f2 := cf 2
            have f3 := cf 3
            have f4 := cf 4
            have f5 := cf 5
            have f6 := cf 6
            go_simp
            obtain ⟨W4, hW4⟩ : ∃ X, X = s7 W3 gv (str y.type) (str y.cs) (str y.id) (str y.loc) (.int .i64 y.how) (.slice B' m' d') (.slice B2' m2' d2'') := ⟨_, rfl⟩
            refine wpOp_store rfl (by kernel_rfl) W4 (by rw [hW4]; unfold s7; go_simp; try rfl) ?_
            have hby4 := s7_box HY3.out (str y.type) (str y.cs) (str y.id) (str y.loc) (.int .i64 y.how) (.slice B' m' d') (.slice B2' m2' d2'')
            have hfar4 := s7_far W3 gv (str y.type) (str y.cs) (str y.id) (str y.loc) (.int .i64 y.how) (.slice B' m' d') (.slice B2' m2' d2'')
            have hsz4 := s7_size W3 gv (str y.type) (str y.cs) (str y.id) (str y.loc) (.int .i64 y.how) (.slice B' m' d') (.slice B2' m2' d2'')
            have hb4 := s7_below hb3 hly (str y.type) (str y.cs) (str y.id) (str y.loc) (.int .i64 y.how) (.slice B' m' d') (.slice B2' m2' d2'')
            rw [← hW4] at hby4 hfar4 hsz4 hb4
            have hbx4 := BoxF.keep HX3.out (hfar4 wr.heap.size hne)
            have hX4 : wr.heap.size < W4.heap.size := by omega
            have hY4 : gv < W4.heap.size := by omega
            have Hfin := Lib.hid (And.intro hne (And.intro hlx (And.intro hly (And.intro hbx4 (And.intro hby4 (And.intro hX4 (And.intro hY4 hb4)))))))
            clear c0 c1 c2_ c3 c4 c5 c6 cf f0 f1 f2 f3 f4 f5 f6 hW4 hbx4 hby4 hfar4
            refine ⟨hb4, ?_⟩
            refine wpAnyH_done (by kernel_rfl) ?_ _
            go_simp
            go_wp2_with fail
            go_meet
            exact ⟨wr.heap.size, gv, rfl, rfl, Hfin.out⟩
          · go_simp
            refine wpOp_runv rfl (by kernel_rfl) (.pointer (some ⟨wr.heap.size, 0, none⟩)) ((World.drew wr).alloc (.cells #[.string ⟨#[]⟩, .string ⟨#[]⟩, .string ⟨#[]⟩, .string ⟨#[]⟩, .int .i64 0, .slice none 0 0, .slice none 0 0] 25)) (by go_simp; try rfl) ?_
            have hS2 := hS.alloc (Nat.le_refl _) (.cells #[.string ⟨#[]⟩, .string ⟨#[]⟩, .string ⟨#[]⟩, .string ⟨#[]⟩, .int .i64 0, .slice none 0 0, .slice none 0 0] 25)
            refine ⟨hS2, ?_⟩
            refine wpAnyH_all (rs := [8]) (by kernel_rfl) (by simp) ?_
            intro kk hkk
            simp only [List.mem_singleton] at hkk
            subst hkk
            go_simp
            refine wpOp_runv rfl (by kernel_rfl) (.pointer (some ⟨wr.heap.size + 1, 0, none⟩)) (((World.drew wr).alloc (.cells #[.string ⟨#[]⟩, .string ⟨#[]⟩, .string ⟨#[]⟩, .string ⟨#[]⟩, .int .i64 0, .slice none 0 0, .slice none 0 0] 25)).alloc (.cells #[.string ⟨#[]⟩, .string ⟨#[]⟩, .string ⟨#[]⟩, .string ⟨#[]⟩, .int .i64 0, .slice none 0 0, .slice none 0 0] 25)) (by go_simp; try rfl) ?_
            have hS3 := hS2.alloc (by simp) (.cells #[.string ⟨#[]⟩, .string ⟨#[]⟩, .string ⟨#[]⟩, .string ⟨#[]⟩, .int .i64 0, .slice none 0 0, .slice none 0 0] 25)
            refine ⟨hS3, ?_⟩
            obtain ⟨W2, hW2⟩ : ∃ X, X = ((World.drew wr).alloc (.cells #[.string ⟨#[]⟩, .string ⟨#[]⟩, .string ⟨#[]⟩, .string ⟨#[]⟩, .int .i64 0, .slice none 0 0, .slice none 0 0] 25)).alloc (.cells #[.string ⟨#[]⟩, .string ⟨#[]⟩, .string ⟨#[]⟩, .string ⟨#[]⟩, .int .i64 0, .slice none 0 0, .slice none 0 0] 25) := ⟨_, rfl⟩
            rw [← hW2] at hS3 ⊢
            have hsz2 : W2.heap.size = wr.heap.size + 2 := by rw [hW2]; simp
            have hz1 : BoxF W2 wr.heap.size (.string ⟨#[]⟩) (.string ⟨#[]⟩) (.string ⟨#[]⟩) (.string ⟨#[]⟩) (.int .i64 0) (.slice none 0 0) (.slice none 0 0) := by
              refine BoxF.of_block (t := 25) ?_
              rw [hW2, Lib.alloc_old _ _ _ (by simp)]
              exact heap_alloc_new (World.drew wr) _
            have hz2 : BoxF W2 (wr.heap.size + 1) (.string ⟨#[]⟩) (.string ⟨#[]⟩) (.string ⟨#[]⟩) (.string ⟨#[]⟩) (.int .i64 0) (.slice none 0 0) (.slice none 0 0) := by
              refine BoxF.of_block (t := 25) ?_
              rw [hW2]
              have := fun o => heap_alloc_new ((World.drew wr).alloc o)
              simp only [World.size_alloc] at this
              exact this _ _
            clear hS2 hW2
            have HZy := Lib.hid hz1
            have HZx := Lib.hid hz2
            clear hz1 hz2
            obtain ⟨gv, hgv⟩ : ∃ g, g = wr.heap.size + 1 := ⟨_, rfl⟩
            rw [← hgv] at HZx ⊢
            have hne : gv ≠ wr.heap.size := by omega
            have hlx : wr.heap.size ≤ gv := by omega
            have hly : wr.heap.size ≤ wr.heap.size := by omega
            have hlx2 : gv < W2.heap.size := by omega
            have hly2 : wr.heap.size < W2.heap.size := by omega
            clear hgv
            refine wpAnyH_all (rs := [10]) (by kernel_rfl) (by simp) ?_
            intro kk hkk
            simp only [List.mem_singleton] at hkk
            subst hkk
            have ⟨⟨c0, c1, c2_, c3, c4, c5, c6⟩, cf⟩ := HZx.out
            have f0 := cf 0
            have f1 := cf 1
            have f2 := cf 2
            have f3 := cf 3
            have f4 := cf 4
            have f5 := cf 5
            have f6 := cf 6
            go_simp
            obtain ⟨W3, hW3⟩ : ∃ X, X = s7 W2 gv (str x.type) (str x.cs) (str x.id) (str x.loc) (.int .i64 x.how) (.slice A' n' c') (.slice A2' n2' c2'') := ⟨_, rfl⟩
            refine wpOp_store rfl (by kernel_rfl) W3 (by rw [hW3]; unfold s7; go_simp; try rfl) ?_
            have hbx3 := s7_box HZx.out (str x.type) (str x.cs) (str x.id) (str x.loc) (.int .i64 x.how) (.slice A' n' c') (.slice A2' n2' c2'')
            have hfar3 := s7_far W2 gv (str x.type) (str x.cs) (str x.id) (str x.loc) (.int .i64 x.how) (.slice A' n' c') (.slice A2' n2' c2'')
            have hsz3 := s7_size W2 gv (str x.type) (str x.cs) (str x.id) (str x.loc) (.int .i64 x.how) (.slice A' n' c') (.slice A2' n2' c2'')
            have hb3 := s7_below hS3 hlx (str x.type) (str x.cs) (str x.id) (str x.loc) (.int .i64 x.how) (.slice A' n' c') (.slice A2' n2' c2'')
            rw [← hW3] at hbx3 hfar3 hsz3 hb3
            have hby3 := BoxF.keep HZy.out (hfar3 wr.heap.size (Ne.symm hne))
            have HX3 := Lib.hid hbx3
            have HY3 := Lib.hid hby3
            clear c0 c1 c2_ c3 c4 c5 c6 cf f0 f1 f2 f3 f4 f5 f6 hW3 hbx3 hby3 hfar3
            refine ⟨hb3, ?_⟩
            refine wpAnyH_all (rs := [11]) (by kernel_rfl) (by simp) ?_
            intro kk hkk
            simp only [List.mem_singleton] at hkk
            subst hkk
            have ⟨⟨c0, c1, c2_, c3, c4, c5, c6⟩, cf⟩ := HY3.out
            have f0 := cf 0
            have f1 := cf 1
            have f2 := cf 2
            have f3 := cf 3
            have f4 := cf 4
            have f5 := cf 5
            have f6 := cf 6
            go_simp
            obtain ⟨W4, hW4⟩ : ∃ X, X = s7 W3 wr.heap.size (str y.type) (str y.cs) (str y.id) (str y.loc) (.int .i64 y.how) (.slice B' m' d') (.slice B2' m2' d2'') := ⟨_, rfl⟩
            refine wpOp_store rfl (by kernel_rfl) W4 (by rw [hW4]; unfold s7; go_simp; try rfl) ?_
            have hby4 := s7_box HY3.out (str y.type) (str y.cs) (str y.id) (str y.loc) (.int .i64 y.how) (.slice B' m' d') (.slice B2' m2' d2'')
            have hfar4 := s7_far W3 wr.heap.size (str y.type) (str y.cs) (str y.id) (str y.loc) (.int .i64 y.how) (.slice B' m' d') (.slice B2' m2' d2'')
            have hsz4 := s7_size W3 wr.heap.size (str y.type) (str y.cs) (str y.id) (str y.loc) (.int .i64 y.how) (.slice B' m' d') (.slice B2' m2' d2'')
            have hb4 := s7_below hb3 hly (str y.type) (str y.cs) (str y.id) (str y.loc) (.int .i64 y.how) (.slice B' m' d') (.slice B2' m2' d2'')
            rw [← hW4] at hby4 hfar4 hsz4 hb4
            have hbx4 := BoxF.keep HX3.out (hfar4 gv hne)
            have hX4 : gv < W4.heap.size := by omega
            have hY4 : wr.heap.size < W4.heap.size := by omega
            have Hfin := Lib.hid (And.intro hne (And.intro hlx (And.intro hly (And.intro hbx4 (And.intro hby4 (And.intro hX4 (And.intro hY4 hb4)))))))
            clear c0 c1 c2_ c3 c4 c5 c6 cf f0 f1 f2 f3 f4 f5 f6 hW4 hbx4 hby4 hfar4
            refine ⟨hb4, ?_⟩
            refine wpAnyH_done (by kernel_rfl) ?_ _
            go_simp
            go_wp2_with fail
            go_meet
            exact ⟨gv, wr.heap.size, rfl, rfl, Hfin.out⟩
        case rest =>
          obtain ⟨gx, gy, rfl, rfl, hne, hlx, hly, hbxX, hbyX, hgx, hgy, hbw⟩ := hcut
          obtain ⟨hk1, hk2, hk3, hk4⟩ := Hk.out
          have hty : y.type = x.type := by have := congrArg PartD.type hk1; exact this
          have hcs : y.cs = x.cs := by have := congrArg PartD.cs hk1; exact this
          have hid_ : y.id = x.id := by have := congrArg PartD.id hk1; exact this
          have hlo : y.loc = x.loc := by have := congrArg PartD.loc hk1; exact this
          have hho : y.how = x.how := by have := congrArg PartD.how hk1; exact this
          obtain ⟨hyb, rfl, hyc, hym⟩ := (show By wr w5.heap.size B' y.body.length y.body ∧ m' = y.body.length ∧ y.body.length ≤ d' ∧ d' ≤ maxLen from by
            obtain ⟨A3, c3, A4, c4, hv, _, hb3, hc3, hm3, _⟩ := Hya.out.open
            simp only [List.cons.injEq, and_true] at hv
            obtain ⟨_, _, _, _, _, h5, _⟩ := hv
            injection h5 with h5 h6 h7
            subst h5
            subst h7
            exact ⟨hb3.sl, h6, hc3, hm3⟩)
          obtain ⟨hxb, rfl, hxc, hxm⟩ := (show By wr w5.heap.size A' x.body.length x.body ∧ n' = x.body.length ∧ x.body.length ≤ c' ∧ c' ≤ maxLen from by
            obtain ⟨A3, c3, A4, c4, hv, _, hb3, hc3, hm3, _⟩ := Hxa.out.open
            simp only [List.cons.injEq, and_true] at hv
            obtain ⟨_, _, _, _, _, h5, _⟩ := hv
            injection h5 with h5 h6 h7
            subst h5
            subst h7
            exact ⟨hb3.sl, h6, hc3, hm3⟩)
          have hmix := mix_at Hxa.out Hya.out rfl
          rw [hty, hcs, hid_, hlo, hho] at hbyX
          obtain ⟨W5, hW5⟩ : ∃ X, X = wc.setCell ⟨gy, 5, none⟩ (.slice A' x.body.length c') := ⟨_, rfl⟩
          have hby5 := hbyX.s5 (.slice A' x.body.length c')
          have hbx5 := hbxX.setFar (p := ⟨gy, 5, none⟩) (Ne.symm hne) (.slice A' x.body.length c')
          have hbw5 := hbw.setCell (p := ⟨gy, 5, none⟩) hly (.slice A' x.body.length c')
          have hgx5 : gx < (wc.setCell ⟨gy, 5, none⟩ (.slice A' x.body.length c')).heap.size := by simpa using hgx
          rw [← hW5] at hby5 hbx5 hbw5 hgx5
          have ⟨⟨c0, c1, c2_, c3, c4, c5, c6⟩, cf⟩ := hbyX
          have ⟨⟨d0, d1, d2, d3, d4, d5, d6⟩, df⟩ := hbxX
          have f5 := cf 5
          have hbel5 := hbel.trans (hbw5.mono hbel.size)
          have hbx9 : (flatD (bareD x)).length ≤ 1 := by rw [flatD_eq]; simp [bareD, flatsD]
          have hsm := Same_any 1 (bareD x) (bareD x) _ _ W5 hbx9 ((Hxa.out.belowN hbw5 hbel.size).more hbel5.size) ((hmix.belowN hbw5 hbel.size).more hbel5.size)
          rw [sameD_refl] at hsm
          have Hsm := Lib.hid hsm
          have Hbx5 := Lib.hid hbx5
          have Hby5 := Lib.hid hby5
          have Hyb := Lib.hid hyb
          have Hxb := Lib.hid hxb
          have Hbw5 := Lib.hid hbw5
          have HK2 := Lib.hid hk2
          have HK4 := Lib.hid hk4
          have hbelr := hbel.size
          clear x0 x1 x2 x3 x4 x5 x6 y0 y1 y2 y3 y4 y5 y6 hsm hbx5 hby5 hyb hxb hbw5 hk1 hk2 hk4 hmix hcs hid_ hlo hho hbyX hbxX hbx9 cf df Hxa Hya Hk
          go_upto_region 15 with fail
          rw [← hW5]
          clear hW5 c0 c1 c2_ c3 c4 c5 c6 d0 d1 d2 d3 d4 d5 d6 f5 hbw
          have ⟨⟨c0, c1, c2_, c3, c4, c5, c6⟩, _⟩ := Hby5.out
          have ⟨⟨d0, d1, d2, d3, d4, d5, d6⟩, _⟩ := Hbx5.out
          go_wp2_with fail
          refine Hsm.out.mono ?_
          rintro e w6 ⟨rfl, hb6⟩
          have hbx6 := Hbx5.out.below hb6 hgx5
          have hbw6 := Hbw5.out.trans (hb6.mono Hbw5.out.size)
          have hbel6 := hbel.trans (hbw6.mono hbel.size)
          have hb60 := Hb10.out.trans (hbel6.mono Hb10.out.size)
          have ⟨⟨e0, _, _, _, _, e5, _⟩, _⟩ := hbx6
          have Hbw6 := Lib.hid hbw6
          have Hbel6 := Lib.hid hbel6
          have Hb60 := Lib.hid hb60
          have Hbx6 := Lib.hid hbx6
          have hgx6 : gx < w6.heap.size := by have := hb6.size; omega
          have hw6 := hbel6.size
          have hwr6 := hbw6.size
          clear c0 c1 c2_ c3 c4 c5 c6 d0 d1 d2 d3 d4 d5 d6 hb6 hbw6 hbel6 hb60 hbx6 Hsm Hbx5 Hby5 Hbw5
          by_cases ht : x.type = htmlB
          · have ht1 : (x.type == [116, 101, 120, 116, 47, 104, 116, 109, 108]) = true := by rw [ht]; rfl
            obtain ⟨hf1, hf2, hf3, hf4⟩ := Hop.out i x Hx.out ht y.body HK2.out
            have hFn := Find_any B' y.body.length d' y.body w6 (HM.out.below Hb60.out) ((Sl.below Hyb.out (Hbw6.out.mono hbelr)).more hw6) hyc hym
            have hfl := findE_len y.body
            generalize findE y.body = T at *
            obtain ⟨ls, fe⟩ := T
            simp only at hf1 hf2 hf4 hfl
            subst hf1
            have HFn := Lib.hid hFn
            have Hf2 := Lib.hid hf2
            have Hf3 := Lib.hid hf3
            have Hf4 := Lib.hid hf4
            clear hFn hf2 hf3 hf4 ht
            go_wp2_with fail
            refine HFn.out.mono ?_
            rintro e w7 ⟨S5, c5, rfl, hown7, hb7⟩
            have Hls := Lib.hid (Sl.of_own hown7)
            have Hb7 := Lib.hid hb7
            have hw7 := hb7.size
            clear hown7 hb7 HFn e0 e5
            go_wp2_with fail
            obtain ⟨i0, hi0, hi1, hi2, hi3⟩ := info_parts infoStr3
            have HI0 := Lib.hid (And.intro hi0 (And.intro hi1 (And.intro hi2 hi3)))
            obtain ⟨L, hL⟩ : ∃ L, L = ls.length := ⟨_, rfl⟩
            rw [← hL] at Hls hfl Hf2 ⊢
            have HL := Lib.hid hL
            clear hi0 hi1 hi2 hi3 hL
            go_loopw [4, 18, 19, 109] (fun sv tv nv jv wr => sv = .bool false ∧ TxO m i ns gs w7 tv nv jv wr) (fun _ _ _ jv _ => m - (intOf jv).toNat)
            case atStart => exact ⟨rfl, 0, 0, 0, none, rfl, Nat.zero_le _, rfl, rfl, Lib.hid rfl, World.ownsRow_nil _ _ _ _, Below.refl _ _⟩
            case round =>
              obtain ⟨rfl, j, nt, ct, St, rfl, hj, rfl, rfl, hnt, hownt, hbelt⟩ := hrel
              have hntj : nt ≤ j := by
                have h1 := List.length_filter_le (fun g : GoalD => g.part == i) (gs.take j)
                have h2 := hnt.out
                have h3 := List.length_take_le j gs
                omega
              have hszt := hbelt.size
              have hbw6q := Hb7.out.trans (hbelt.mono hw7)
              have hb5q := Hbel6.out.trans (hbw6q.mono hw6)
              have Hownt := Lib.hid hownt
              have Hbelt := Lib.hid hbelt
              have Hb5q := Lib.hid hb5q
              clear hownt hbelt hbw6q hb5q
              by_cases hjm : j < m
              · obtain ⟨bg, offg, g, hS2, hbg, hgg, g0, g1, g2, g3, g4, g5⟩ := (Sl.below Hsg.out Hb5q.out).goal6 j hjm
                subst hS2
                obtain ⟨W2, hW2⟩ : ∃ W2, W2 = wr.alloc (.cells #[.int .i64 (g.part : Nat), .int .i64 (g.l.frm : Nat), .int .i64 (g.l.til : Nat), str g.l.text, str g.goal, .int .i64 g.find] 55) := ⟨_, rfl⟩
                have hbB : Below wr.heap.size wr W2 := by rw [hW2]; exact (Below.refl _ _).alloc (Nat.le_refl _) _
                have gb : GB W2 wr.heap.size g := by rw [hW2]; exact heap_alloc_new wr _
                go_upto_region 28 with fail
                rw [← hW2]
                clear hW2 g0 g1 g2 g3 g4 g5
                have ⟨g0, g1, g2, g3, g4, g5⟩ := gb.box
                have HbB := Lib.hid hbB
                have hszB := hbB.size
                have hgbl := gb.lt
                have Hgb := Lib.hid gb
                have Hgg := Lib.hid hgg
                clear gb hbB hgg
                by_cases hxi : g.part = i
                · have e1 : (((g.part : Nat) : Int) == ((i : Nat) : Int)) = true := by rw [hxi]; simp
                  have hgl := filter_at (fun g : GoalD => g.part == i) gs j g Hgg.out (by simp [hxi])
                  rw [← hnt.out] at hgl
                  have hlt : nt < L := by
                    have := Hf2.out
                    rw [this]
                    rcases Nat.lt_or_ge nt (gs.filter (fun g : GoalD => g.part == i)).length with h | h
                    · exact h
                    · rw [List.getElem?_eq_none h] at hgl; cases hgl
                  have hro : PredName 49 #[.pointer (some ⟨wr.heap.size, 0, none⟩)] (fun n => n.part == g.find) W2 := fun W n hb => ro1 n wr.heap.size g.find W ((hb.cell (p := ⟨wr.heap.size, 5, none⟩) hgbl).trans g5) (Nat.lt_of_lt_of_le hgbl hb.size)
                  have hb02 := Hb10.out.trans ((Hb5q.out.trans (HbB.out.mono Hb5q.out.size)).mono Hb10.out.size)
                  have hix := IndexFunc_Name 49 _ (enters_of Tryz.func49 (by kernel_rfl) rfl) _ NA nn nc W2.heap.size ns W2 ((Sl.below Hns.out hb02).more hb02.size) (Nat.le_refl _) (Nat.le_trans hnn hnc) hro
                  have Hgl := Lib.hid hgl
                  have Hb02 := Lib.hid hb02
                  clear hro hb02 hgl g0 g1 g2 g3 g4 g5
                  have ⟨g0, _, _, _, _, _⟩ := Hgb.out.box
                  rcases first_ofN g.find ns 0 Hgood.out with ⟨hk, hof⟩ | ⟨kn, nm, hnk, hk, hof, hne0⟩
                  · rw [hk] at hix
                    have Hix := Lib.hid hix
                    clear hix hk
                    go_wp2_with fail
                    refine Hix.out.mono ?_
                    rintro e w8 ⟨rfl, hb8⟩
                    have hgb8 := Hgb.out.below hb8
                    have ⟨_, _, _, g3, _, _⟩ := hgb8.box
                    have hbr8 := HbB.out.trans (hb8.mono hszB)
                    have hb78 := Hbelt.out.trans (hbr8.mono hszt)
                    obtain ⟨bl, offl, lk, hSl, hbl, hdl, l0, l1, l2⟩ := (Sl.below Hls.out hb78).link nt hlt
                    subst hSl
                    have hlk : ls[nt]? = some lk := by have := congrArg List.head? hdl; simpa [List.head?_drop] using this
                    have hte : (lk.text == g.l.text) = true := by
                      have := Hf4.out nt g lk Hgl.out hlk
                      rw [this, hof, if_pos rfl]
                      simp
                    have hd1 : decide ((0 : Int) ≤ -1) = false := rfl
                    have hd2 : decide ((-1 : Int) < 0) = true := rfl
                    have hn0 : ((nt : Int) == (L : Int)) = false := by simp; omega
                    have hq0 : (0 : Int) ≤ (nt : Int) := by omega
                    have hq1 : (nt : Int) < (L : Int) := by omega
                    have Hbr8 := Lib.hid hbr8
                    have Hb78 := Lib.hid hb78
                    have Hof := Lib.hid hof
                    clear hb8 hgb8 hbr8 hb78 hdl hlk hof 
                    go_upto_region 30 with fail
                    go_quiet (fail)
                    rename_i nq
                    have Hown8 := Lib.hid (own_below Hownt.out (belN Hbr8.out nq))
                    have Hb79 := Lib.hid (belN Hb78.out nq)
                    have hw8 : w7.heap.size ≤ (w8.drewN nq).heap.size := Hb78.out.size
                    have h63 : nt + 1 ≤ maxLen := by unfold maxLen; omega
                    have h47 : (nt + 1) * 16 ≤ 140737488355328 := by omega
                    obtain ⟨hi0, hi1, hi2, hi3⟩ := HI0.out
                    generalize w8.drewN nq = w9 at *
                    clear Hbr8 Hb78
                    go_wp2_with (at_builtin; refine wpList_app2 rfl _ _ 57 rfl w7.heap.size 9 i0 _ 1 16 Tryz.underlying57 hi0 hi1 hi2 hi3 rfl (by decide) St nt ct ((textsN ns (gs.take j) i).map str) rfl (Hown8.out.alloc _) _ _ 1 1 [str []] rfl (Sl.row _ _ 1 1 _ rfl) (by intro u hu; rw [List.mem_singleton.1 hu]; rfl) h63 h47 ?c3 ?_)
                    case c3 => simp; omega
                    intro S6 c6 w10 hown6 hb10 hgr6 hat6
                    have hbel10 := (Hb79.out.alloc hw8 (.cells #[str []] 9)).trans hb10
                    rw [show (textsN ns (gs.take j) i).map str ++ [str []] = (textsN ns (gs.take (j + 1)) i).map str from by rw [textsN_take Hgg.out, if_pos hxi, Hof.out]; simp] at hown6
                    have Hfin := Lib.hid (And.intro hown6 hbel10)
                    clear hown6 hb10 hgr6 hat6 hbel10 hi0 hi1 hi2 hi3
                    go_wp2_with fail
                    refine ⟨⟨rfl, j + 1, nt + 1, c6, S6, by go_num, by omega, rfl, by go_num, Lib.hid ?_, Hfin.out.1, Hfin.out.2⟩, by simp [intOf]; omega⟩
                    rw [cnt_take Hgg.out, if_pos hxi, ← hnt.out]
                  · rw [hk, Nat.zero_add] at hix
                    have Hix := Lib.hid hix
                    clear hix hk
                    go_wp2_with fail
                    refine Hix.out.mono ?_
                    rintro e w8 ⟨rfl, hb8⟩
                    have hgb8 := Hgb.out.below hb8
                    have ⟨_, _, _, g3, _, _⟩ := hgb8.box
                    have hbr8 := HbB.out.trans (hb8.mono hszB)
                    have hb78 := Hbelt.out.trans (hbr8.mono hszt)
                    obtain ⟨bl, offl, lk, hSl, hbl, hdl, l0, l1, l2⟩ := (Sl.below Hls.out hb78).link nt hlt
                    subst hSl
                    have hlk : ls[nt]? = some lk := by have := congrArg List.head? hdl; simpa [List.head?_drop] using this
                    have hkl : kn < nn := by
                      have h1 := Hns.out.1
                      rw [nameC_len] at h1
                      rcases Nat.lt_or_ge kn ns.length with h | h
                      · omega
                      · rw [List.getElem?_eq_none h] at hnk; cases hnk
                    obtain ⟨bn, offn, nm2, hSn, hbn, hdn, n0, n1⟩ := (Sl.below Hns.out (Hb02.out.trans (hb8.mono Hb02.out.size))).name kn hkl
                    have hnm : nm2 = nm := by
                      have := congrArg List.head? hdn
                      rw [List.head?_drop, hnk] at this
                      exact (Option.some.inj this).symm
                    subst hnm
                    have hte : (lk.text == nm2.name) = true := by
                      have := Hf4.out nt g lk Hgl.out hlk
                      rw [this, hof, if_neg hne0]
                      simp
                    have hkn : (kn : Int) < (nn : Int) := by omega
                    have hd1 : decide ((0 : Int) ≤ (kn : Int)) = true := by simp
                    have hd2 : decide ((kn : Int) < 0) = false := by simp
                    have hk0 : (0 : Int) ≤ (kn : Int) := by omega
                    have hn0 : ((nt : Int) == (L : Int)) = false := by simp; omega
                    have hq0 : (0 : Int) ≤ (nt : Int) := by omega
                    have hq1 : (nt : Int) < (L : Int) := by omega
                    have Hbr8 := Lib.hid hbr8
                    have Hb78 := Lib.hid hb78
                    have Hof := Lib.hid hof
                    subst hSn
                    clear hb8 hgb8 hbr8 hb78 hdl hlk hof hne0 hnk hdn
                    go_upto_region 30 with fail
                    go_quiet (fail)
                    rename_i nq
                    have m1 : (w8.drewN nq).cell? ⟨bn, offn + kn * 2 + 1, none⟩ = some (str nm2.name) := n1
                    have Hown8 := Lib.hid (own_below Hownt.out (belN Hbr8.out nq))
                    have Hb79 := Lib.hid (belN Hb78.out nq)
                    have hw8 : w7.heap.size ≤ (w8.drewN nq).heap.size := Hb78.out.size
                    have h63 : nt + 1 ≤ maxLen := by unfold maxLen; omega
                    have h47 : (nt + 1) * 16 ≤ 140737488355328 := by omega
                    obtain ⟨hi0, hi1, hi2, hi3⟩ := HI0.out
                    generalize w8.drewN nq = w9 at *
                    clear Hbr8 Hb78
                    go_wp2_with (at_builtin; refine wpList_app2 rfl _ _ 57 rfl w7.heap.size 9 i0 _ 1 16 Tryz.underlying57 hi0 hi1 hi2 hi3 rfl (by decide) St nt ct ((textsN ns (gs.take j) i).map str) rfl (Hown8.out.alloc _) _ _ 1 1 [str nm2.name] rfl (Sl.row _ _ 1 1 _ rfl) (by intro u hu; rw [List.mem_singleton.1 hu]; rfl) h63 h47 ?c4 ?_)
                    case c4 => simp; omega
                    intro S6 c6 w10 hown6 hb10 hgr6 hat6
                    have hbel10 := (Hb79.out.alloc hw8 (.cells #[str nm2.name] 9)).trans hb10
                    rw [show (textsN ns (gs.take j) i).map str ++ [str nm2.name] = (textsN ns (gs.take (j + 1)) i).map str from by rw [textsN_take Hgg.out, if_pos hxi, Hof.out]; simp] at hown6
                    have Hfin := Lib.hid (And.intro hown6 hbel10)
                    clear hown6 hb10 hgr6 hat6 hbel10 hi0 hi1 hi2 hi3
                    go_wp2_with fail
                    refine ⟨⟨rfl, j + 1, nt + 1, c6, S6, by go_num, by omega, rfl, by go_num, Lib.hid ?_, Hfin.out.1, Hfin.out.2⟩, by simp [intOf]; omega⟩
                    rw [cnt_take Hgg.out, if_pos hxi, ← hnt.out]
                · have e1 : (((g.part : Nat) : Int) == ((i : Nat) : Int)) = false := by simp; omega
                  go_wp2_with fail
                  refine ⟨⟨rfl, j + 1, nt, ct, St, by go_num, by omega, rfl, rfl, Lib.hid ?_, ?_, Hbelt.out.trans (HbB.out.mono Hbelt.out.size)⟩, by simp [intOf]; omega⟩
                  · rw [cnt_take Hgg.out, if_neg hxi]; exact hnt.out
                  · rw [textsN_take Hgg.out, if_neg hxi]; exact own_below Hownt.out HbB.out
              · obtain rfl : j = m := by omega
                have hgt : gs.take j = gs := List.take_of_length_le (by rw [← Hm.out]; exact Nat.le_refl _)
                have hownx := Hownt.out
                rw [hgt] at hnt hownx
                have hntL : nt = L := by rw [hnt.out]; exact Hf2.out.symm
                subst hntL
                have hb7q := Hb7.out.trans (Hbelt.out.mono hw7)
                have hbr7 := Hbw6.out.trans (hb7q.mono hwr6)
                have hb0q := Hb60.out.trans (hb7q.mono Hb60.out.size)
                have htx : ∀ t ∈ textsN ns gs i, t.length ≤ 30 := by
                  intro t ht
                  unfold textsN at ht
                  obtain ⟨g, _, rfl⟩ := List.mem_map.1 ht
                  exact ofN_len Hgood.out g.find
                have hsum : sumL (textsN ns gs i) ≤ 1000000000000 := by
                  have h1 := sumL_le (textsN ns gs i) htx
                  have h2 : (textsN ns gs i).length = nt := by rw [hnt.out]; unfold textsN; rw [List.length_map]
                  omega
                have hpt := Put_any A' St x.body.length c' nt ct x.body (textsN ns gs i) wr (HM.out.below hb0q) ((Sl.below Hxb.out (hbr7.mono hbelr)).more (Nat.le_trans hw6 hb7q.size)) hxc hxm (Sl.of_own hownx) hsum
                rw [Hf3.out] at hpt
                unfold PutOut at hpt
                simp only at hpt
                have Hpt := Lib.hid hpt
                have ⟨⟨_, _, _, _, _, e5, _⟩, _⟩ := Hbx6.out.below hb7q hgx6
                have Hb7q := Lib.hid hb7q
                have Hbr7 := Lib.hid hbr7
                have hszq := hb7q.size
                have hszr := hbr7.size
                clear hpt hb7q hbr7 hb0q htx hsum hownx hgt
                go_wp2_with fail
                refine Hpt.out.mono ?_
                rintro e w8 ⟨S8, c8, rfl, hown8, hb8⟩
                have hbr8 := Hbr7.out.trans (hb8.mono hszr)
                have hn0 : ((nt : Int) == (nt : Int)) = true := by simp
                have hEq := Equal_bytes S8 B' y.body.length c8 y.body.length d' w8.heap.size w5.heap.size y.body y.body w8 (Sl.of_own hown8) (Sl.below Hyb.out (hbr8.mono hbelr)) (by omega)
                rw [show (y.body == y.body) = true from by simp] at hEq
                have HEq := Lib.hid hEq
                have Hbel8 := Lib.hid (Hbel6.out.trans ((Hb7q.out.trans (hb8.mono hszq)).mono hw6))
                clear hEq hown8 hb8 hbr8 e5 Hpt
                go_wp2_with fail
                refine HEq.out.mono ?_
                rintro e w9 ⟨rfl, q9, rfl⟩
                go_wp2_with fail
                exact ⟨⟨i + 1, rfl, by go_num, by omega, belN Hbel8.out q9⟩, by simp [intOf]; omega⟩
          · have ht1 : (x.type == [116, 101, 120, 116, 47, 104, 116, 109, 108]) = false := by simpa [htmlB] using ht
            have hEq := Equal_bytes B' A' y.body.length d' x.body.length c' w5.heap.size w5.heap.size y.body x.body w6 (Sl.below Hyb.out (Hbw6.out.mono hbelr)) (Sl.below Hxb.out (Hbw6.out.mono hbelr)) (by omega)
            rw [show (y.body == x.body) = true from by simp [HK4.out ht]] at hEq
            have HEq := Lib.hid hEq
            clear hEq ht
            go_wp2_with fail
            refine HEq.out.mono ?_
            rintro e w7 ⟨rfl, q7, rfl⟩
            go_wp2_with fail
            exact ⟨⟨i + 1, rfl, by go_num, by omega, belN Hbel6.out q7⟩, by simp [intOf]; omega⟩
      · obtain rfl : i = n := by omega
        go_wp2_with fail
        go_ret
        exact ⟨rfl, Hb10.out.trans (hbel.mono Hb10.out.size)⟩
  · obtain ⟨q, k, hq⟩ : ∃ q k, namesE p ns = (q, k) := ⟨_, _, rfl⟩
    rw [hq] at HN0 he
    simp only at HN0 he
    have hK1 : ((k : Int) != 0) = true := by simp; omega
    have ⟨x0, x1, x2, x3, x4, x5, x6⟩ := hbx
    clear he hq
    go_enter Tryz.func8, Tryz.ntmps8
    go_wp2_with fail
    rw [← hW]
    clear hW
    refine (HN0.out W (HM.out.below hbW) ((Hp.out.below hbW).more hbW.size) ((Sl.below Hns.out hbW).more hbW.size)).mono ?_
    rintro e w1 ⟨v1, rfl, hp1, hb1⟩
    obtain ⟨A1, c1, A3, c3, rfl, _⟩ := hp1.open
    have hb1' := hbW.trans (hb1.mono hbW.size)
    have hbA := (Below.refl w1.heap.size w1).alloc (Nat.le_refl _) (.cells #[str q.type, str q.cs, str q.id, str q.loc, .int .i64 q.how, .slice A1 q.body.length c1, .slice A3 q.parts.length c3] 25)
    have hb2 := hb1'.trans (hbA.mono hb1'.size)
    have hr2 := Lib.hid (renamed_any _ (HM.out.below hb2))
    have Hb2 := Lib.hid hb2
    clear x0 x1 x2 x3 x4 x5 x6 hbx hb1 hb1' hbA hb2 hp1
    go_wp2_with fail
    refine hr2.out.mono ?_
    rintro e w2 ⟨rfl, hb3⟩
    have hb4 := Hb2.out.trans (hb3.mono Hb2.out.size)
    have hr3 := Lib.hid (renamed_any w2 (HM.out.below hb4))
    have Hb4 := Lib.hid hb4
    clear hb3 hb4
    go_wp2_with fail
    refine hr3.out.mono ?_
    rintro e w3 ⟨rfl, hb5⟩
    go_wp2_with fail
    go_ret
    exact ⟨rfl, Hb4.out.trans (hb5.mono Hb4.out.size)⟩
end Go.Proofs.YtlbdnohnngkapaaGreatDoor

namespace Go.Proofs.YtlbdnohnngkapaaGreatDoor
open Go.ChangeShapes Go.WideShapes Go.ChangeAt Go.RowKit Go.Deep

theorem nameStruct : Tryz.prog.cellsOf 79 = 2 := by kernel_rfl
theorem plain_atN {w : World} {a : Addr} {v : Value} (h : w.cell? (a.add 0) = some v) : ∃ b off, a = ⟨b, off, none⟩ := by
  obtain ⟨b, off, spot⟩ := a
  have hspot : spot = none := by
    simpa [Addr.add] using World.cell?_spot h
  subst hspot
  exact ⟨b, off, rfl⟩
section
variable {H : Type} {enc : TypeId × Value → H} {w : World} {base : Nat} {held : Bool}
set_option maxRecDepth 100000 in
theorem name_of_trod (fuel : Nat) (cs : List Value) (x : DataW H × List MemPlace) (h : DataW.trod enc Tryz.prog w base (fun _ => true) held fuel 79 cs = some x) :
    ∃ f : NameD, cs = nameCells f ∧ f.name.length ≤ maxLen ∧ -9223372036854775808 ≤ f.part ∧ f.part ≤ 9223372036854775807 := by
  obtain ⟨xs, n, hfu, _, hl, hxl, hf⟩ := DataW.trod_struct Tryz.underlying79 h
  rw [nameStruct] at hl
  match cs, hl with
  | [c0, c1], _ =>
    match xs, hxl with
    | [x0, x1], _ =>
      have h0 : DataW.trod enc Tryz.prog w base (fun _ => true) held n 3 [c0] = some x0 := hf 0 _ rfl
      have h1 : DataW.trod enc Tryz.prog w base (fun _ => true) held n 9 [c1] = some x1 := hf 1 _ rfl
      obtain ⟨i0, e0, _, b0⟩ := DataW.trod_int Tryz.underlying3 h0
      obtain ⟨s1, e1, _, b1⟩ := DataW.trod_string Tryz.underlying9 h1
      simp only [List.cons.injEq, and_true] at e0 e1
      subst e0 e1
      exact ⟨⟨i0, s1.data.toList⟩, rfl, b1, bounds_i64 b0⟩
theorem nameC_of (f : Nat → NameD) : ∀ n, nameC ((List.range n).map f) = ((List.range n).map fun i => nameCells (f i)).flatten := by
  intro n
  rw [nameC, List.flatMap_map, List.flatMap]
theorem nameC_at (ls : List NameD) (i k : Nat) (hi : i < ls.length) (hk : k < 2) : (nameC ls)[i * 2 + k]? = (nameCells ls[i])[k]? := by
  have hsplit : nameC ls = nameC (ls.take i) ++ nameC (ls.drop i) := by rw [← nameC_app, List.take_append_drop]
  have e : (nameC (ls.take i)).length = i * 2 := by rw [nameC_len, List.length_take, Nat.min_eq_left (by omega)]
  rw [hsplit, List.getElem?_append_right (by omega), e, Nat.add_sub_cancel_left, List.drop_eq_getElem_cons hi]
  show ((nameCells ls[i]) ++ nameC (ls.drop (i + 1)))[k]? = _
  rw [List.getElem?_append_left (by show k < 2; exact hk)]
set_option maxRecDepth 100000 in
/-- Fields that came in. -/
theorem open_names {r : Reach} {b0 : Nat} {v : Value} {d : DataW H} {pl : List MemPlace} (hv : Value.okWide Tryz.prog w r b0 26 v) (h : DataW.Trod enc Tryz.prog w base (fun _ => true) held 26 v d pl) :
    ∃ A n c ls, v = .slice A n c ∧ Sl w w.heap.size 2 A n (nameC ls) ∧ n ≤ c ∧ c ≤ maxLen ∧ NamesOk ls := by
  obtain ⟨a0, len0, cap0, rfl⟩ := okWide_slice Tryz.underlying26 hv
  obtain ⟨fuel, hf⟩ := h
  rcases DataW.trod_slice Tryz.underlying26 hf with ⟨hcs, _⟩ | ⟨a, len, cap, elems, rest, n', hfu', hcs, _, hb, hl, hm, hlen, hel, hsp, hns⟩
  · simp only [Value.cells, List.cons.injEq, and_true] at hcs
    refine ⟨_, _, _, [], rfl, ?_⟩
    simp at hcs
    obtain ⟨rfl, rfl, rfl⟩ := hcs
    exact ⟨Sl.nil_ _ _ _ _, Nat.le_refl _, Nat.zero_le _, fun f h => by cases h⟩
  · simp [Value.cells] at hcs
    obtain ⟨rfl, rfl, rfl⟩ := hcs
    have hone : ∀ i, i < len0 → ∃ f : NameD, w.cells? base (a.add (i * 2)) 2 = some (nameCells f) ∧ f.name.length ≤ maxLen ∧ -9223372036854775808 ≤ f.part ∧ f.part ≤ 9223372036854775807 := by
      intro i hi
      have h1 := hel i hi
      rw [nameStruct, List.getElem?_eq_getElem (by omega)] at h1
      obtain ⟨cs', hc', ht'⟩ := Option.bind_eq_some_iff.1 h1
      obtain ⟨f, rfl, g1, g2⟩ := name_of_trod n' cs' _ ht'
      exact ⟨f, hc', g1, g2⟩
    haveI : Inhabited NameD := ⟨⟨0, []⟩⟩
    obtain ⟨f, hfp⟩ := choose_lt hone
    refine ⟨some a, len0, cap0, (List.range len0).map f, rfl, ⟨by rw [nameC_len]; simp, fun h0 => ?_⟩, hl, hm, ?_⟩
    · obtain ⟨_, hl0, hat0⟩ := World.cells?_some (hfp 0 h0).1
      have hx0 := hat0 0 (by omega)
      rw [List.getElem?_eq_getElem (by show 0 < 2; omega)] at hx0
      obtain ⟨b, off, hab⟩ : ∃ b off, a = ⟨b, off, none⟩ := by
        have e : (a.add (0 * 2)).add 0 = a.add 0 := by rw [Go.Deep.add_add]
        rw [e] at hx0
        exact plain_atN hx0
      subst hab
      refine ⟨b, off, rfl, ?_, fun j u hu => ?_⟩
      · have e : ((⟨b, off, none⟩ : Addr).add (0 * 2)).add 0 = ⟨b, off, none⟩ := by rw [Go.Deep.add_add]; simp [Addr.add]
        rw [e] at hx0
        exact cell_lt hx0
      · have hj : j < len0 * 2 := by
          rcases Nat.lt_or_ge j (len0 * 2) with h | h
          · exact h
          · rw [List.getElem?_eq_none (by rw [nameC_len]; simp; omega)] at hu; cases hu
        have hi : j / 2 < len0 := by omega
        have hjj : j = j / 2 * 2 + j % 2 := by omega
        obtain ⟨_, hli, hati⟩ := World.cells?_some (hfp (j / 2) hi).1
        have hx := hati (j % 2) (by omega)
        rw [Go.Deep.add_add, ← hjj] at hx
        rw [hjj, nameC_at _ (j / 2) (j % 2) (by simpa using hi) (by omega)] at hu
        simp only [List.getElem_map, List.getElem_range] at hu
        rw [hu] at hx
        have e : (⟨b, off, none⟩ : Addr).add j = ⟨b, off + j, none⟩ := Go.WideShapes.add_plain ..
        rw [e] at hx
        exact hx
    · intro x hx
      obtain ⟨i, hi, rfl⟩ := List.mem_map.1 hx
      exact (hfp i (List.mem_range.1 hi)).2
end
theorem bytesName : Tryz.prog.bytesOf 79 = 24 := by kernel_rfl
/-- What was read takes at most 2^47 - 4096 bytes. -/
theorem reach_names {H : Type} {enc : TypeId × Value → H} {W : World} {ts : List TypeId} {ds : List (DataW H)} {j : Nat} {d : DataW H} {pl : List MemPlace} {A : Option Addr} {n c : Nat}
    (hsz : (DataW.weightsEach Tryz.prog ts ds).all (· ≤ reachBytes) = true) (ht : ts[j]? = some 26) (hd : ds[j]? = some d) (h : DataW.Trod enc Tryz.prog W 0 (fun _ => true) true 26 (.slice A n c) d pl) : c * 24 ≤ 140737488351232 := by
  obtain ⟨fuel, hf⟩ := h
  rcases DataW.trod_slice Tryz.underlying26 hf with ⟨hcs, _⟩ | ⟨a, len, cap, elems, rest, n', hfu', hcs, hx, hb, hl, hm, hlen, hel, hsp, hns⟩
  · simp [Value.cells] at hcs
    omega
  · simp [Value.cells] at hcs
    obtain ⟨rfl, rfl, rfl⟩ := hcs
    simp only [Prod.mk.injEq] at hx
    rw [hx.1] at hd
    have := sized_slice hsz ht hd Tryz.underlying26
    rw [bytesName] at this
    simp only [List.length_map, reachBytes] at this
    have h2 := (hsp rfl).1
    omega
end Go.Proofs.YtlbdnohnngkapaaGreatDoor
