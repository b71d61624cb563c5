import Derived.Test.YtlbdnohnngkapaaGreatDoorU13
import Derived.Test.YtlbdnohnngkapaaGreatDoorU14
import Derived.Test.YtlbdnohnngkapaaGreatDoorU1
import Derived.Test.YtlbdnohnngkapaaGreatDoorRows
import Derived.ProofKit
import Derived.OpenShut
import Derived.ShutString
import Derived.ChangeOld
import Derived.Below
import Derived.Test.YtlbdnohnngkapaaGreatDoorU2
import Derived.Deep.Slices
import Derived.Deep.Fields
import Derived.Lib.SmallJoins
import Derived.Test.YtlbdnohnngkapaaGreatDoorU4
import Derived.Test.YtlbdnohnngkapaaGreatDoorCards
import Derived.Test.YtlbdnohnngkapaaGreatDoorTie
import Derived.Deep.DeepHandedRow
import Derived.Lay
import Derived.Deep.DeepWitnessRowRef
namespace Go.Proofs.YtlbdnohnngkapaaGreatDoor
open Go.RowKit

/-- Memory from B on, but for a row and a box. -/
def NewT (B : Nat) (row : Option Nat) (t : Nat) (w : World) (b : Nat) : Prop := B ≤ b ∧ b < w.heap.size ∧ row ≠ some b ∧ b ≠ t
def BmRel (p : PartD) (h : Int) (L : List PartD) (n1 B t : Nat) (S' : Option Addr) (d' : Nat) (A : Option Addr) (c : Nat) (w2 : World) (iv : Value) (wr : World) : Prop :=
  ∃ (i : Nat) (rows : List (List Value)), iv = .int .i64 (i : Nat) ∧ i ≤ n1 ∧ wr.ownsRow B 25 7 (.slice S' n1 d') n1 rows.flatten ∧
    PartsAt (NewT B (Value.ownBlock (.slice S' n1 d')) t wr) wr ((L.take i).map (setH h) ++ L.drop i) rows ∧ SlS (NewT B (Value.ownBlock (.slice S' n1 d')) t wr) wr 1 A p.body.length (Lib.byteCells p.body) ∧
    BoxF wr t (str p.type) (str p.cs) (str p.id) (str p.loc) (.int .i64 p.how) (.slice A p.body.length c) (.slice S' n1 d') ∧ Below B w2 wr
theorem BoxF.grown {w w' : World} {b : Nat} {v0 v1 v2 v3 v4 v5 v6 : Value} (h : BoxF w b v0 v1 v2 v3 v4 v5 v6) {row : Option Nat} (hg : w.grownBy w' row) (hb : b < w.heap.size) (hne : some b ≠ row) : BoxF w' b v0 v1 v2 v3 v4 v5 v6 := by
  have hk := hg.block b hb hne
  have hc : ∀ k, w'.cell? ⟨b, k, none⟩ = w.cell? ⟨b, k, none⟩ := fun k => World.cell?_of_block hk
  have hf : ∀ k, w'.frozen? ⟨b, k, none⟩ = w.frozen? ⟨b, k, none⟩ := fun k => World.frozen?_of_block hk
  obtain ⟨⟨h0, h1, h2, h3, h4, h5, h6⟩, hz⟩ := h
  exact ⟨⟨(hc 0).trans h0, (hc 1).trans h1, (hc 2).trans h2, (hc 3).trans h3, (hc 4).trans h4, (hc 5).trans h5, (hc 6).trans h6⟩, fun k => (hf k).trans (hz k)⟩
def cssRow : List Value := [str cssD.type, .string ⟨#[]⟩, .string ⟨#[]⟩, .string ⟨#[]⟩, .int .i64 0, .slice none 0 0, .slice none 0 0]
theorem css_cells {S : Nat → Prop} (w : World) : PartAt S w cssD [str cssD.type, .string ⟨#[]⟩, .string ⟨#[]⟩, .string ⟨#[]⟩, .int .i64 0, .slice none 0 0, .slice none 0 0] :=
  ⟨none, 0, 0, none, 0, 0, [], rfl, by refine ⟨?_, ?_, ?_, ?_, ?_, ?_⟩ <;> decide, ⟨rfl, fun h => absurd h (by simp)⟩, Nat.le_refl _, Nat.zero_le _, ⟨rfl, fun h => absurd h (by omega)⟩, Nat.le_refl _, Nat.zero_le _, rfl⟩
theorem how_at {S : Nat → Prop} {w : World} (k : PartD) (r : List Value) (h : Int) (hh : 0 ≤ h ∧ h ≤ 2) (hp : PartAt S w k r) : PartAt S w { k with how := h } (r.set 4 (.int .i64 h)) := by
  obtain ⟨t, cs, id, loc, how, body, parts⟩ := k
  obtain ⟨A, n, c, A2, n2, c2, rows, rfl, ⟨b1, b2, b3, b4, _, _⟩, h2, h3, h4, h5, h6, h7, h8⟩ := hp
  exact ⟨A, n, c, A2, n2, c2, rows, rfl, ⟨b1, b2, b3, b4, by omega, by omega⟩, h2, h3, h4, h5, h6, h7, h8⟩
theorem set_same {α : Type} : ∀ (l : List α) (i : Nat) (k : α), l[i]? = some k → l.set i k = l
  | [], i, k, h => by simp at h
  | x :: l, 0, k, h => by simp at h; rw [h, List.set_cons_zero]
  | x :: l, i + 1, k, h => by rw [List.set_cons_succ, set_same l i k (by simpa using h)]
theorem flat_set4 : ∀ (rows : List (List Value)) (i : Nat) (u : Value), (∀ r ∈ rows, r.length = 7) → ∀ r, rows[i]? = some r → rows.flatten.set (i * 7 + 4) u = (rows.set i (r.set 4 u)).flatten
  | [], i, u, _, r, h => by simp at h
  | x :: rows, 0, u, h7, r, h => by
    simp at h
    subst h
    have hx := h7 x (by simp)
    rw [List.flatten_cons, List.set_cons_zero, List.flatten_cons, List.set_append_left _ _ (by omega)]
  | x :: rows, i + 1, u, h7, r, h => by
    have hx := h7 x (by simp)
    rw [List.flatten_cons, List.set_cons_succ, List.flatten_cons, List.set_append_right _ _ (by omega), hx, show (i + 1) * 7 + 4 - 7 = i * 7 + 4 by omega, flat_set4 rows i u (fun r hr => h7 r (by simp [hr])) r (by simpa using h)]
theorem parts_set {S : Nat → Prop} {w : World} : ∀ (ps : List PartD) (rows : List (List Value)), PartsAt S w ps rows → ∀ (i : Nat) (q : PartD) (r : List Value), i < ps.length → PartAt S w q r → PartsAt S w (ps.set i q) (rows.set i r)
  | [], _, _, i, _, _, hi, _ => by simp at hi
  | p :: ps, _, h, i, q, r, hi, hq => by
    obtain ⟨x, xs, rfl, h1, h2⟩ := h
    cases i with
    | zero => exact ⟨r, xs, rfl, hq, h2⟩
    | succ i => exact ⟨x, xs.set i r, rfl, h1, parts_set ps xs h2 i q r (by simpa using hi) hq⟩
theorem step_set (h : Int) (L : List PartD) (i : Nat) (k : PartD) (hk : L[i]? = some k) : ((L.take i).map (setH h) ++ L.drop i).set i (setH h k) = (L.take (i + 1)).map (setH h) ++ L.drop (i + 1) := by
  have hi : i < L.length := by
    rcases Nat.lt_or_ge i L.length with h' | h'
    · exact h'
    · rw [List.getElem?_eq_none h'] at hk; cases hk
  have hl : ((L.take i).map (setH h)).length = i := by simp; omega
  rw [List.set_append_right _ _ (by omega), hl, Nat.sub_self, List.drop_eq_getElem_cons hi, List.set_cons_zero, List.take_add_one, hk]
  simp
theorem neq_goal (W : World) (a : GoalD) : (binOp .neq 55 (.agg (goalCells a).toArray) (.agg (goalCells a).toArray)).run Tryz.prog W = .ok (.bool false) W := by
  have hs : ∀ n (l : List UInt8), (Op.equalIn (n + 1) 9 (str l) (str l)).run Tryz.prog W = .ok true W := by
    intro n l
    rw [str_eq, run_equalIn_string W n 9 _ _ Tryz.underlying9]
    simp
  unfold goalCells
  rw [run_neq_struct, run_equalIn_agg _ _ _ _ _ (by kernel_rfl) (by kernel_rfl)]
  go_simp
theorem Sl.goal6 {w : World} {B n : Nat} {A : Option Addr} {gs : List GoalD} (h : Sl w B 6 A n (goalC gs)) (i : Nat) (hi : i < n) :
    ∃ b off x, A = some ⟨b, off, none⟩ ∧ b < B ∧ gs[i]? = some x ∧ w.cell? ⟨b, off + i * 6, none⟩ = some (.int .i64 (x.part : Nat)) ∧ w.cell? ⟨b, off + i * 6 + 1, none⟩ = some (.int .i64 (x.l.frm : Nat)) ∧ w.cell? ⟨b, off + i * 6 + 2, none⟩ = some (.int .i64 (x.l.til : Nat)) ∧
      w.cell? ⟨b, off + i * 6 + 3, none⟩ = some (str x.l.text) ∧ w.cell? ⟨b, off + i * 6 + 4, none⟩ = some (str x.goal) ∧ w.cell? ⟨b, off + i * 6 + 5, none⟩ = some (.int .i64 x.find) := by
  obtain ⟨b, off, x, hA, hb, hx, hc⟩ := Sl.goal h i hi
  exact ⟨b, off, x, hA, hb, hx, hc 0 _ rfl, hc 1 _ rfl, hc 2 _ rfl, hc 3 _ rfl, hc 4 _ rfl, hc 5 _ rfl⟩
set_option maxRecDepth 100000 in
set_option maxHeartbeats 1000000 in
theorem Equal_goals (A A' : Option Addr) (n c c' B B' : Nat) (gs : List GoalD) (w : World) (h : Sl w B 6 A n (goalC gs)) (h' : Sl w B' 6 A' n (goalC gs)) (hn : n ≤ 1000000) :
    Calls Tryz.prog 37 #[.slice A n c, .slice A' n c'] w fun e w' => e = .returned (.bool true) ∧ ∃ q, w' = w.drewN q := by
  have hne : ((n : Int) != (n : Int)) = false := by simp
  have H := Lib.hid h
  have H' := Lib.hid h'
  clear h h'
  go_enter Tryz.func37, Tryz.ntmps37
  go_wp2_with fail
  go_loopw [13] (fun iv wr => ∃ i q : Nat, iv = .int .i64 (i : Nat) ∧ i ≤ n ∧ wr = w.drewN q) (fun iv _ => n - (intOf iv).toNat)
  case atStart => exact ⟨0, 0, rfl, Nat.zero_le _, rfl⟩
  case round =>
    obtain ⟨i, q, rfl, hi, rfl⟩ := hrel
    by_cases hin : i < n
    · obtain ⟨b, off, x, rfl, _, hx, x0, x1, x2, x3, x4, x5⟩ := H.out.goal6 i hin
      obtain ⟨b', off', x', rfl, _, hx', y0, y1, y2, y3, y4, y5⟩ := H'.out.goal6 i hin
      rw [hx] at hx'
      injection hx' with hx'
      subst hx'
      have hneq := fun W => neq_goal W x
      simp only [goalCells] at hneq
      clear hx
      go_wp2_with fail
      go_quiet (fail)
      go_wp2_with fail
      exact ⟨⟨i + 1, _, by go_num, by omega, rfl⟩, by simp [intOf]; omega⟩
    · obtain rfl : i = n := by omega
      go_wp2_with fail
      go_ret
      exact ⟨rfl, _, rfl⟩
set_option maxRecDepth 100000 in
set_option maxHeartbeats 8000000 in
theorem bundleMore_walk (p : PartD) (v : List Value) (hw : Int) (w : World) (hM : MaxLenOk w) (hp : PartAt (· < w.heap.size) w p v) (hwb : -9223372036854775808 ≤ hw ∧ hw ≤ 9223372036854775807) :
    Calls Tryz.prog 5 #[.agg v.toArray, .int .i64 hw] w (TruePost w) := by
  have hgl := fun W hM h => Goals_any p v W hM h
  unfold GoalsOut at hgl
  have hgE : (goalsE p).2 = 0 → checkD p = 0 ∧ goalsD p = some (goalsE p).1 := by
    intro h
    unfold goalsE at h ⊢
    by_cases hc : checkD p = 0
    · rw [if_pos hc] at h ⊢
      refine ⟨hc, ?_⟩
      cases hg : goalsD p with
      | none => rw [hg] at h; simp at h
      | some G => rfl
    · rw [if_neg hc] at h
      exact absurd h hc
  obtain ⟨A, c, A2, c2, rfl, _⟩ := hp.open
  obtain ⟨W, hW⟩ : ∃ W, W = w.alloc (.cells #[str p.type, str p.cs, str p.id, str p.loc, .int .i64 p.how, .slice A p.body.length c, .slice A2 p.parts.length c2] 25) := ⟨_, rfl⟩
  have hbW : Below w.heap.size w W := by rw [hW]; exact (Below.refl _ w).alloc (Nat.le_refl _) _
  have hbx : Box7 W w.heap.size (str p.type) (str p.cs) (str p.id) (str p.loc) (.int .i64 p.how) (.slice A p.body.length c) (.slice A2 p.parts.length c2) := by rw [hW]; exact Box7.new w _ _ _ _ _ _ _ _
  have Hgl := Lib.hid hgl
  have Hp := Lib.hid hp
  have HM := Lib.hid hM
  have Hmany := Lib.hid (fun X => Many_any p.type X)
  clear hgl hp hM
  generalize goalsE p = GE at *
  obtain ⟨gs, ge⟩ := GE
  simp only at Hgl hgE
  obtain ⟨mm, hmm⟩ : ∃ mm, mm = manyB p.type := ⟨_, rfl⟩
  rw [← hmm] at Hmany
  by_cases hge : ge = 0
  · subst hge
    obtain ⟨hK, hgd⟩ := hgE rfl
    cases mm
    · clear hgE hK hgd hmm
      go_enter Tryz.func5, Tryz.ntmps5
      go_wp2_with fail
      rw [← hW]
      clear hW
      refine (Hgl.out W (HM.out.below hbW) ((Hp.out.below hbW).more hbW.size)).mono ?_
      rintro e w1 ⟨S1, c1, rfl, hown1, hb1⟩
      have hbel1 := hbW.trans (hb1.mono hbW.size)
      have hbx1 := hbx.below hb1
      clear hbx hb1 hbW Hgl hown1
      go_wp2_with fail
      refine (led_any w1 (HM.out.below hbel1)).mono ?_
      rintro e w2 ⟨rfl, hb2⟩
      have hbel2 := hbel1.trans (hb2.mono hbel1.size)
      have hbx2 := hbx1.below hb2
      have ⟨x0, x1, x2, x3, x4, x5, x6⟩ := hbx2
      clear hbx1 hb2
      go_wp2_with fail
      refine (Hmany.out _).mono ?_
      rintro e wm ⟨rfl, rfl⟩
      clear x0 x1 x2 x3 x4 x5 x6
      go_wp2_with fail
      refine (led_any w2 (HM.out.below hbel2)).mono ?_
      rintro e w3 ⟨rfl, hb3⟩
      have hbel3 := hbel2.trans (hb3.mono hbel2.size)
      go_wp2_with fail
      go_ret
      exact ⟨rfl, hbel3⟩
    · have hmm' := hmm.symm
      obtain ⟨hok1, hok2⟩ := checkD_ok p hK
      have hbod : ∀ q ∈ flatD p, q.body.length ≤ 4000 := fun q hq => chk_body q (hok2 q hq)
      obtain ⟨gn, hgn⟩ : ∃ gn, gn = gs.length := ⟨_, rfl⟩
      rw [← hgn] at Hgl
      have hgcap : gn ≤ 720 := by
        have := goalsF_len _ _ _ _ _ _ _ hgd
        simp only [List.length_nil] at this
        omega
      obtain ⟨r, hr⟩ : ∃ r, r = hw % 3 := ⟨_, rfl⟩
      have hr0 : 0 ≤ r ∧ r ≤ 2 := by omega
      have hlaw := more_law r hr0.1 hr0.2 p hmm' hK gs hgd
      have hnp : p.parts.length ≤ 12 := by have := flatsD_len p.parts; rw [flatD_eq, List.length_cons] at hok1; omega
      have KA := Lib.hid (fun X => at_any hw 3 X hwb (by omega) (by omega))
      rw [← hr] at KA
      have Hlaw := Lib.hid hlaw
      have Hgn := Lib.hid hgn
      have Hbod := Lib.hid hbod
      have Hok1 := Lib.hid hok1
      clear hgE hK hgd hmm hmm' hok1 hok2 hbod hgn hr hlaw
      go_enter Tryz.func5, Tryz.ntmps5
      go_wp2_with fail
      rw [← hW]
      clear hW
      refine (Hgl.out W (HM.out.below hbW) ((Hp.out.below hbW).more hbW.size)).mono ?_
      rintro e w1 ⟨S1, c1, rfl, hown1, hb1⟩
      have hbel1 := hbW.trans (hb1.mono hbW.size)
      have hbx1 := hbx.below hb1
      have Hg1 := Lib.hid (Sl.of_own hown1)
      clear hbx hb1 hbW Hgl hown1
      go_wp2_with fail
      refine (led_any w1 (HM.out.below hbel1)).mono ?_
      rintro e w2 ⟨rfl, hb2⟩
      have hbel2 := hbel1.trans (hb2.mono hbel1.size)
      have hbx2 := hbx1.below hb2
      have Hg2 := Lib.hid ((Sl.below Hg1.out hb2).more hb2.size)
      have ⟨x0, x1, x2, x3, x4, x5, x6⟩ := hbx2
      clear hbx1 hb2 Hg1 hbel1
      go_wp2_with fail
      refine (Hmany.out _).mono ?_
      rintro e wm ⟨rfl, rfl⟩
      have KO := OwnPart_any 12 p _ w2 Hok1.out (by omega) Hbod.out ((Hp.out.below hbel2).more hbel2.size)
      have HKO := Lib.hid KO
      clear KO
      go_wp2_with fail
      refine HKO.out.mono ?_
      rintro e w3 ⟨A3, c3, S2, d2, rows, rfl, hown3, hps3, hss3, g1, g2, g3, g4, gb, hb3⟩
      have hbel3 := hbel2.trans (hb3.mono hbel2.size)
      obtain ⟨W4, hW4⟩ : ∃ W4, W4 = w3.alloc (.cells #[str p.type, str p.cs, str p.id, str p.loc, .int .i64 p.how, .slice A3 p.body.length c3, .slice S2 p.parts.length d2] 25) := ⟨_, rfl⟩
      have hbA : Below w3.heap.size w3 W4 := by rw [hW4]; exact (Below.refl _ _).alloc (Nat.le_refl _) _
      have hXt : BoxF W4 w3.heap.size (str p.type) (str p.cs) (str p.id) (str p.loc) (.int .i64 p.how) (.slice A3 p.body.length c3) (.slice S2 p.parts.length d2) := by
        refine BoxF.of_block (t := 25) ?_
        rw [hW4]
        exact heap_alloc_new w3 _
      have hs4 : W4.heap.size = w3.heap.size + 1 := by rw [hW4]; simp
      have hg2 : ∀ g, Value.ownBlock (.slice S2 p.parts.length d2) = some g → w2.heap.size ≤ g ∧ g < w3.heap.size := fun g hg => hown3.lt g hg
      have hown4 := own_below hown3 hbA
      have in4 : ∀ b, NewS w2.heap.size (Value.ownBlock (.slice S2 p.parts.length d2)) w3 b → NewT w2.heap.size (Value.ownBlock (.slice S2 p.parts.length d2)) w3.heap.size W4 b := fun b hb => ⟨hb.1, by have := hb.2.1; omega, hb.2.2, by have := hb.2.1; omega⟩
      have hps4 := PartsAt.change in4 (fun a ha => hbA.cell ha.2.1) _ _ hps3
      have hss4 := SlS.change hss3 in4 (fun a ha => hbA.cell ha.2.1)
      obtain ⟨i0, hi0, hz0, hz1, hz2⟩ := info_parts catInfoPart
      have hone : ∀ u ∈ cssRow, u.oneCell' = true := by unfold cssRow; simp only [List.mem_cons, List.not_mem_nil, or_false]; rintro u (rfl | rfl | rfl | rfl | rfl | rfl | rfl) <;> rfl
      have h63 : p.parts.length + 1 ≤ maxLen := by unfold maxLen; omega
      have h47 : (p.parts.length + 1) * 120 ≤ 140737488355328 := by omega
      have hB3 := hb3.size
      have hbase : w2.heap.size ≤ W4.heap.size := by omega
      obtain ⟨⟨t0, t1, t2, t3, t4, t5, t6⟩, tf⟩ := id hXt
      have Hown4 := Lib.hid hown4
      have Hps4 := Lib.hid hps4
      have Hss4 := Lib.hid hss4
      have HXt := Lib.hid hXt
      have Hs4 := Lib.hid hs4
      have Hone := Lib.hid hone
      have Hgg := Lib.hid (And.intro g1 (And.intro g2 (And.intro g3 (And.intro g4 gb))))
      clear hown4 hps4 hss4 hXt hs4 in4 hown3 hps3 hss3 hone g1 g2 g3 g4 gb HKO tf x0 x1 x2 x3 x4 x5 x6
      go_upto_region 5 with fail
      rw [← hW4]
      clear hW4
      go_wp2_with (at_builtin; refine wpList_app2 rfl _ _ 23 rfl w2.heap.size 25 i0 _ 7 120 Tryz.underlying23 hi0 hz0 hz1 hz2 rfl (by decide) S2 p.parts.length d2 rows.flatten rfl (Hown4.out.alloc _) _ _ 1 1 cssRow rfl (Sl.row _ _ 7 1 _ rfl) Hone.out h63 h47 ?c2 ?_)
      case c2 => simp; omega
      intro S' d' w5 hown5 hb5 hgr5 hat5
      clear t0 t1 t2 t3 t4 t5 t6 hi0 hz0 hz1 hz2
      have hs4 := Hs4.out
      have hsz5 : W4.heap.size + 1 ≤ w5.heap.size := by have := hgr5.size; simpa using this
      have hXt5 := (HXt.out.below ((Below.refl W4.heap.size W4).alloc (Nat.le_refl _) (.cells cssRow.toArray 25)) (by omega)).grown hgr5 (by simp; omega) (fun e => by have := (hg2 _ e.symm).2; omega)
      have hown' : ∀ g, Value.ownBlock (.slice S' (p.parts.length + 1) d') = some g → g ≠ w3.heap.size := by
        intro g hg
        rcases hat5 with h | h
        · rw [h] at hg; have := (hg2 g hg).2; omega
        · rw [h] at hg
          injection hg with hg
          omega
      have in5 : ∀ b, NewT w2.heap.size (Value.ownBlock (.slice S2 p.parts.length d2)) w3.heap.size W4 b → NewT w2.heap.size (Value.ownBlock (.slice S' (p.parts.length + 1) d')) w3.heap.size w5 b := by
        intro b hb
        refine ⟨hb.1, by have := hb.2.1; omega, ?_, hb.2.2.2⟩
        rcases hat5 with h | h
        · rw [h]; exact hb.2.2.1
        · rw [h]
          intro e
          injection e with e
          have := hb.2.1
          omega
      have old5 : ∀ a : Addr, NewT w2.heap.size (Value.ownBlock (.slice S2 p.parts.length d2)) w3.heap.size W4 a.block → w5.cell? a = W4.cell? a := by
        intro a ha
        obtain ⟨ab, ao, an⟩ := a
        have hlt : ab < W4.heap.size := ha.2.1
        rw [World.cell?_of_block (hgr5.block ab (by simp; omega) (fun e => ha.2.2.1 e.symm))]
        exact World.cell?_alloc_lt _ _ _ hlt
      have hps5 : PartsAt (NewT w2.heap.size (Value.ownBlock (.slice S' (p.parts.length + 1) d')) w3.heap.size w5) w5 (p.parts ++ [cssD]) (rows ++ [cssRow]) :=
        PartsAt.app _ _ _ _ (PartsAt.change in5 old5 _ _ Hps4.out) ⟨_, _, rfl, css_cells _, rfl⟩
      have hss5 := SlS.change Hss4.out in5 old5
      have hX6 := hXt5.s6 (.slice S' (p.parts.length + 1) d')
      have hown6 := own_setFar (p := ⟨w3.heap.size, 6, none⟩) hown5 (fun e => hown' _ e rfl) (.slice S' (p.parts.length + 1) d')
      have in6 : ∀ b, NewT w2.heap.size (Value.ownBlock (.slice S' (p.parts.length + 1) d')) w3.heap.size w5 b → NewT w2.heap.size (Value.ownBlock (.slice S' (p.parts.length + 1) d')) w3.heap.size (w5.setCell ⟨w3.heap.size, 6, none⟩ (.slice S' (p.parts.length + 1) d')) b := fun b hb => ⟨hb.1, by simp; exact hb.2.1, hb.2.2.1, hb.2.2.2⟩
      have old6 : ∀ a : Addr, NewT w2.heap.size (Value.ownBlock (.slice S' (p.parts.length + 1) d')) w3.heap.size w5 a.block → (w5.setCell ⟨w3.heap.size, 6, none⟩ (.slice S' (p.parts.length + 1) d')).cell? a = w5.cell? a := fun a ha => World.cell?_setCell_other _ _ _ _ (by rintro rfl; exact ha.2.2.2 rfl)
      have hps6 := PartsAt.change in6 old6 _ _ hps5
      have hss6 := SlS.change hss5 in6 old6
      have hb24 : Below w2.heap.size w2 W4 := hb3.trans (hbA.mono hb3.size)
      have hb26 : Below w2.heap.size w2 (w5.setCell ⟨w3.heap.size, 6, none⟩ (.slice S' (p.parts.length + 1) d')) := ((hb24.alloc hb24.size _).trans hb5).setCell hB3 _
      have hgrb : ∀ g, Value.ownBlock (.slice S' (p.parts.length + 1) d') = some g → g ≠ w3.heap.size := hown'
      rw [show rows.flatten ++ cssRow = (rows ++ [cssRow]).flatten from by simp] at hown6
      have Hall := Lib.hid (And.intro hown6 (And.intro hps6 (And.intro hss6 (And.intro hX6 (And.intro hb26 hgrb)))))
      obtain ⟨⟨t0, t1, t2, t3, t4, t5, t6⟩, tf⟩ := hXt5
      have tf6 := tf 6
      clear hown6 hps6 hss6 hX6 hb26 hgrb hb24 in6 old6 in5 old5 hps5 hss5 hown' hs4 hsz5 hown5 hb5 hgr5 hat5 tf hg2
      go_upto_region 6 with fail
      clear t0 t1 t2 t3 t4 t5 t6 tf6
      generalize w5.setCell ⟨w3.heap.size, 6, none⟩ (.slice S' (p.parts.length + 1) d') = w6 at Hall ⊢
      obtain ⟨hown6, hps6, hss6, hX6, hb26, hgrb⟩ := Hall.out
      obtain ⟨n1, hn1⟩ : ∃ n1, n1 = p.parts.length + 1 := ⟨_, rfl⟩
      rw [← hn1] at hown6 hps6 hss6 hX6 hgrb ⊢
      obtain ⟨L, hL⟩ : ∃ L, L = p.parts ++ [cssD] := ⟨_, rfl⟩
      rw [← hL] at hps6
      have hLl : L.length = n1 := by rw [hL, hn1]; simp
      obtain ⟨tb, htb⟩ : ∃ tb, tb = w3.heap.size := ⟨_, rfl⟩
      rw [← htb] at hps6 hss6 hX6 hgrb ⊢
      have htb2 : w2.heap.size ≤ tb := by rw [htb]; exact hB3
      have hrel0 : BmRel p r L n1 w2.heap.size tb S' d' A3 c3 w2 (.int .i64 0) w6 := ⟨0, _, rfl, Nat.zero_le _, hown6, by simpa using hps6, hss6, hX6, hb26⟩
      have Hrel0 := Lib.hid hrel0
      have Hgrb := Lib.hid hgrb
      have HL := Lib.hid hL
      have HLl := Lib.hid hLl
      have Hn1 := Lib.hid hn1
      have hn13 : n1 ≤ 13 := by omega
      obtain ⟨⟨_, _, _, _, _, _, t6⟩, _⟩ := hX6
      clear Hall hown6 hps6 hss6 hb26 hgrb hL hLl hrel0 hn1 htb Hown4 Hps4 Hss4 HXt Hs4 hbA hbase h63 h47
      go_wp2_with fail
      go_loopw [40] (BmRel p r L n1 w2.heap.size tb S' d' A3 c3 w2) (fun iv _ => n1 - (intOf iv).toNat)
      case atStart => exact Hrel0.out
      case round =>
        obtain ⟨i, rws, rfl, hi, hown, hps, hss, hX, hbel⟩ := hrel
        by_cases hin : i < n1
        · obtain ⟨g, cap, hv, hgb, hgl⟩ := hown.form (by omega)
          injection hv with hS2 _ hcap
          subst hS2
          subst hcap
          have hlm : ((L.take i).map (setH r) ++ L.drop i).length = n1 := by rw [List.length_append, List.length_map, List.length_take, List.length_drop, HLl.out]; omega
          have hil : i < L.length := by rw [HLl.out]; exact hin
          have hkL := List.getElem?_eq_getElem hil
          obtain ⟨k, hk⟩ : ∃ k, k = L[i] := ⟨_, rfl⟩
          rw [← hk] at hkL
          have hget : ((L.take i).map (setH r) ++ L.drop i)[i]? = some k := by
            have hl : ((L.take i).map (setH r)).length = i := by simp; omega
            rw [List.getElem?_append_right (by omega), hl, Nat.sub_self, List.getElem?_drop, Nat.add_zero, hkL]
          obtain ⟨row, hrow, hpr⟩ := PartsAt.get _ _ hps i (by rw [hlm]; exact hin)
          rw [show ((L.take i).map (setH r) ++ L.drop i)[i]'(by rw [hlm]; exact hin) = k from by rw [List.getElem?_eq_getElem (by rw [hlm]; exact hin)] at hget; injection hget] at hpr
          have hrw7 := PartsAt.rows _ _ hps
          have hcell : ∀ kk u, kk < 7 → row[kk]? = some u → wr.cell? ⟨g, i * 7 + kk, none⟩ = some u := by
            intro kk u hkk hu
            rw [hown.cellAt _ (by omega), flat7_at _ hrw7 i kk row hrow hkk]
            exact hu
          have hstep := step_set r L i k hkL
          obtain ⟨A', c', A2', c2', hrowe, _⟩ := hpr.open
          subst hrowe
          have q0 := hcell 0 _ (by omega) rfl
          have q1 := hcell 1 _ (by omega) rfl
          have q2 := hcell 2 _ (by omega) rfl
          have q3 := hcell 3 _ (by omega) rfl
          have q4 := hcell 4 _ (by omega) rfl
          have q5 := hcell 5 _ (by omega) rfl
          have q6 := hcell 6 _ (by omega) rfl
          simp only [Nat.add_zero] at q0
          have KM := Lib.hid (fun X => Many_any k.type X)
          have hin1 : (i : Int) < n1 := by omega
          have hin0 : 0 ≤ (i : Int) := by omega
          have Hstep := Lib.hid hstep
          have Hpr := Lib.hid hpr
          have Hps := Lib.hid hps
          have Hss := Lib.hid hss
          have Hown := Lib.hid hown
          have HX := Lib.hid hX
          have Hrow := Lib.hid hrow
          have Hrw7 := Lib.hid hrw7
          have Hlm := Lib.hid hlm
          have Hget := Lib.hid hget
          have hfg4 := hown.frozenAt (i * 7 + 4)
          clear hstep hpr hps hss hown hX hrow hrw7 hlm hcell hkL hk hget
          obtain ⟨W7, hW7⟩ : ∃ W7, W7 = wr.alloc (.cells #[str k.type, str k.cs, str k.id, str k.loc, .int .i64 k.how, .slice A' k.body.length c', .slice A2' k.parts.length c2'] 25) := ⟨_, rfl⟩
          have hb7 : Below wr.heap.size wr W7 := by rw [hW7]; exact (Below.refl _ _).alloc (Nat.le_refl _) _
          have hs7 : W7.heap.size = wr.heap.size + 1 := by rw [hW7]; simp
          have hX7 := Box7.new wr 25 (str k.type) (str k.cs) (str k.id) (str k.loc) (.int .i64 k.how) (.slice A' k.body.length c') (.slice A2' k.parts.length c2')
          rw [← hW7] at hX7
          have ⟨x0, x1, x2, x3, x4, x5, x6⟩ := hX7
          go_upto_region 9 with fail
          rw [← hW7]
          clear hW7 q0 q1 q2 q3 q5 q6 hX7
          have hbel7 := hbel.trans (hb7.mono hbel.size)
          have hlt7 : ∀ b, b < wr.heap.size → ∀ o, W7.cell? ⟨b, o, none⟩ = wr.cell? ⟨b, o, none⟩ := fun b hb o => hb7.cell (p := ⟨b, o, none⟩) hb
          have in7 : ∀ b, NewT w2.heap.size (Value.ownBlock (.slice (some ⟨g, 0, none⟩) n1 d')) tb wr b → NewT w2.heap.size (Value.ownBlock (.slice (some ⟨g, 0, none⟩) n1 d')) tb W7 b := fun b hb => ⟨hb.1, by have := hb.2.1; omega, hb.2.2.1, hb.2.2.2⟩
          have old7 : ∀ a : Addr, NewT w2.heap.size (Value.ownBlock (.slice (some ⟨g, 0, none⟩) n1 d')) tb wr a.block → W7.cell? a = wr.cell? a := fun a ha => hb7.cell ha.2.1
          have hps7 := PartsAt.change in7 old7 _ _ Hps.out
          have hss7 := SlS.change Hss.out in7 old7
          have hown7 := own_below Hown.out hb7
          have htlt : tb < wr.heap.size := HX.out.1.lt
          have hXt7 := HX.out.below hb7 htlt
          have hpr7 := PartAt.change in7 old7 _ _ Hpr.out
          have Hps7 := Lib.hid hps7
          have Hss7 := Lib.hid hss7
          have Hown7 := Lib.hid hown7
          have HXt7 := Lib.hid hXt7
          have Hpr7 := Lib.hid hpr7
          have Hbel7 := Lib.hid hbel7
          have hq4 : W7.cell? ⟨g, i * 7 + 4, none⟩ = some (.int .i64 k.how) := (hlt7 g hgl _).trans q4
          have hf4 : W7.frozen? ⟨g, i * 7 + 4, none⟩ = false := hown7.frozenAt _
          clear in7 old7 hps7 hss7 hown7 hXt7 hpr7 hbel7 hlt7 q4 hfg4
          obtain ⟨mk, hmk⟩ : ∃ mk, mk = manyB k.type := ⟨_, rfl⟩
          rw [← hmk] at KM
          have Hmk := Lib.hid hmk
          clear hmk
          cases mk
          · go_wp2_with fail
            refine (KM.out _).mono ?_
            rintro e wm ⟨rfl, rfl⟩
            clear x0 x1 x2 x3 x4 x5 x6
            go_upto_region 10 with fail
            have Hone1 : True := trivial
            · clear Hone1
              have t6 := HXt7.out.1.2.2.2.2.2.2
              have hS : (fun W' : World => W'.cell? ⟨tb, 6, none⟩ = some (.slice (some ⟨g, 0, none⟩) n1 d')) (World.drew W7) := t6
              refine wp_region_held (S := fun W' : World => W'.cell? ⟨tb, 6, none⟩ = some (.slice (some ⟨g, 0, none⟩) n1 d')) (by kernel_rfl) ?_
              change wpAnyH _ _ _ _ _ _ _ _ (World.drew W7)
              refine wpAnyH_take (i := 0) (v := ?_) rfl (by kernel_rfl) (by kernel_rfl) (by kernel_rfl) (fun _ _ _ h => h) (Or.inl ⟨by kernel_rfl, ?_⟩) hS ?_
              rotate_left 1
              · intro W' hb'; go_simp; try exact rfl
              refine wpAnyH_take (i := 1) (v := ?_) rfl (by kernel_rfl) (by kernel_rfl) (by kernel_rfl) (fun _ _ _ h => h) (Or.inl ⟨by kernel_rfl, ?_⟩) hS ?_
              rotate_left 1
              · intro W' hb'; have q0 : W'.cell? ⟨tb, 6, none⟩ = some (.slice (some ⟨g, 0, none⟩) n1 d') := hb'; go_simp; try exact rfl
              refine wpAnyH_take (i := 2) (v := ?_) rfl (by kernel_rfl) (by kernel_rfl) (by kernel_rfl) (fun _ _ _ h => h) (Or.inl ⟨by kernel_rfl, ?_⟩) hS ?_
              rotate_left 1
              · intro W' hb'; go_simp; try exact rfl
              refine wpAnyH_take (i := 3) (v := ?_) rfl (by kernel_rfl) (by kernel_rfl) (by kernel_rfl) (fun _ _ _ h => h) (Or.inl ⟨by kernel_rfl, ?_⟩) hS ?_
              rotate_left 1
              · intro W' hb'; go_simp; try exact rfl
              refine wpAnyH_all (rs := [4]) (by kernel_rfl) (by simp) ?_
              intro kk hkk
              simp only [List.mem_singleton] at hkk
              subst hkk
              go_simp
              refine wpOp_callF rfl (by kernel_rfl) 36 #[.int .i64 hw, .int .i64 3] (by go_simp; try rfl) (.int .i64 r) (fun w' => World.drew W7 = w') ((KA.out (World.drew W7)).mono fun e w' h => h) ?_
              intro wd hwd
              subst hwd
              refine ⟨hS, ?_⟩
              refine wpAnyH_take (i := 5) (v := ?_) rfl (by kernel_rfl) (by kernel_rfl) (by kernel_rfl) (fun _ _ _ h => h) (Or.inl ⟨by kernel_rfl, ?_⟩) hS ?_
              rotate_left 1
              · intro W' hb'; go_simp; try exact rfl
              refine wpAnyH_take (i := 6) (v := ?_) rfl (by kernel_rfl) (by kernel_rfl) (by kernel_rfl) (fun _ _ _ h => h) (Or.inl ⟨by kernel_rfl, ?_⟩) hS ?_
              rotate_left 1
              · intro W' hb'; go_simp; try exact rfl
              refine wpAnyH_all (rs := [7]) (by kernel_rfl) (by simp) ?_
              intro kk hkk
              simp only [List.mem_singleton] at hkk
              subst hkk
              go_simp
              refine wpOp_store rfl (by kernel_rfl) ((World.drew W7).setCell ⟨g, i * 7 + 4, none⟩ (.int .i64 r)) (by go_simp; try rfl) ?_
              have htg : tb ≠ g := fun e => Hgrb.out g rfl e.symm
              have hS : (fun W' : World => W'.cell? ⟨tb, 6, none⟩ = some (.slice (some ⟨g, 0, none⟩) n1 d')) ((World.drew W7).setCell ⟨g, i * 7 + 4, none⟩ (.int .i64 r)) := (World.cell?_setCell_other _ _ _ _ (by intro e; injection e with e _; exact htg e.symm)).trans hS
              refine ⟨hS, ?_⟩
              refine wpAnyH_done (by kernel_rfl) ?_ _
              clear hS t6
              have in8 : ∀ b, NewT w2.heap.size (Value.ownBlock (.slice (some ⟨g, 0, none⟩) n1 d')) tb W7 b → NewT w2.heap.size (Value.ownBlock (.slice (some ⟨g, 0, none⟩) n1 d')) tb ((World.drew W7).setCell ⟨g, i * 7 + 4, none⟩ (.int .i64 r)) b := fun b hb => ⟨hb.1, by simp; exact hb.2.1, hb.2.2.1, hb.2.2.2⟩
              have old8 : ∀ a : Addr, NewT w2.heap.size (Value.ownBlock (.slice (some ⟨g, 0, none⟩) n1 d')) tb W7 a.block → ((World.drew W7).setCell ⟨g, i * 7 + 4, none⟩ (.int .i64 r)).cell? a = W7.cell? a := fun a ha => (World.cell?_setCell_other (World.drew W7) _ _ _ (by rintro rfl; exact ha.2.2.1 rfl)).trans rfl
              have hps8 := parts_set _ _ (PartsAt.change in8 old8 _ _ Hps7.out) i { k with how := r } _ (by rw [Hlm.out]; exact hin) (how_at k _ r hr0 (PartAt.change in8 old8 _ _ Hpr7.out))
              have hset : setH r k = { k with how := r } := by unfold setH; rw [← Hmk.out]; rfl
              rw [← hset, Hstep.out] at hps8
              have hss8 := SlS.change Hss7.out in8 old8
              have hX8 : BoxF ((World.drew W7).setCell ⟨g, i * 7 + 4, none⟩ (.int .i64 r)) tb _ _ _ _ _ _ _ := BoxF.setFar (w := World.drew W7) HXt7.out (p := ⟨g, i * 7 + 4, none⟩) (fun e => htg e.symm) (.int .i64 r)
              have hown8 := (show World.ownsRow (World.drew W7) _ _ _ _ _ _ from Hown7.out).stored (i * 7 + 4) (.int .i64 r)
              have hown8' := hown8.1
              rw [flat_set4 _ _ _ Hrw7.out _ Hrow.out] at hown8'
              have hbel8 : Below w2.heap.size w2 ((World.drew W7).setCell ⟨g, i * 7 + 4, none⟩ (.int .i64 r)) := Hbel7.out.drew.setCell hgb _
              have Hfin := Lib.hid (show BmRel p r L n1 w2.heap.size tb (some ⟨g, 0, none⟩) d' A3 c3 w2 (.int .i64 ((i : Int) + 1)) ((World.drew W7).setCell ⟨g, i * 7 + 4, none⟩ (.int .i64 r)) from ⟨i + 1, _, by go_num, by omega, hown8', hps8, hss8, hX8, hbel8⟩)
              clear in8 old8 hps8 hss8 hX8 hown8 hown8' hbel8 hset
              go_simp
              go_wp2_with fail
              exact ⟨Hfin.out, by simp [intOf]; omega⟩
          · have hset : setH r k = k := by unfold setH; rw [← Hmk.out]; rfl
            have hlist : (L.take (i + 1)).map (setH r) ++ L.drop (i + 1) = (L.take i).map (setH r) ++ L.drop i := by
              rw [← Hstep.out, hset]
              exact set_same _ _ _ Hget.out
            have Hlist := Lib.hid hlist
            have Hfin := Lib.hid (show BmRel p r L n1 w2.heap.size tb (some ⟨g, 0, none⟩) d' A3 c3 w2 (.int .i64 ((i : Int) + 1)) W7 from ⟨i + 1, _, by go_num, by omega, Hown7.out, by rw [Hlist.out]; exact Hps7.out, Hss7.out, HXt7.out, Hbel7.out⟩)
            clear hset hlist
            go_wp2_with fail
            refine (KM.out _).mono ?_
            rintro e wm ⟨rfl, rfl⟩
            go_wp2_with fail
            exact ⟨Hfin.out, by simp [intOf]; omega⟩
        · obtain rfl : i = n1 := by omega
          have hps9 := hps
          rw [List.take_of_length_le (by rw [HLl.out]; exact Nat.le_refl _), List.drop_of_length_le (by rw [HLl.out]; exact Nat.le_refl _), List.append_nil] at hps9
          have hqn : (moreD r p).parts.length = i := by unfold moreD; rw [← HL.out]; simp [HLl.out]
          have hqp : (moreD r p).parts = L.map (setH r) := by unfold moreD; rw [← HL.out]
          have inS : ∀ b, NewT w2.heap.size (Value.ownBlock (.slice S' i d')) tb wr b → NewS w2.heap.size (Value.ownBlock (.slice S' i d')) wr b := fun b hb => ⟨hb.1, hb.2.1, hb.2.2.1⟩
          have hpsN := PartsAt.change inS (fun _ _ => rfl) _ _ hps9
          have hssN := SlS.change hss inS (fun _ _ => rfl)
          have hcap' := own_cap hown
          have hcapm := own_capmax hown
          obtain ⟨g1, g2, g3, g4, gb⟩ := Hgg.out
          have hQ : PartAt (fun b => w2.heap.size ≤ b ∧ b < wr.heap.size) wr (moreD r p) [str p.type, str p.cs, str p.id, str p.loc, .int .i64 p.how, .slice A3 p.body.length c3, .slice S' (moreD r p).parts.length d'] :=
            own_part (p := moreD r p) (Nat.le_refl _) (by rw [hqn]; exact hown) (by rw [hqn, hqp]; exact hpsN) (by rw [hqn]; exact hssN) g1 g2 (by rw [hqn]; exact hcap') hcapm gb
          rw [hqn] at hQ
          have hQ' := PartAt.change (S' := (· < wr.heap.size)) (w' := wr) (fun b hb => hb.2) (fun _ _ => rfl) _ _ hQ
          have hbelr := hbel2.trans (hbel.mono hbel2.size)
          have hMr := HM.out.below hbelr
          have KG := Goals_any (moreD r p) _ wr hMr hQ'
          unfold GoalsOut at KG
          have hG9 := (Sl.below Hg2.out hbel).more hbel.size
          have HKG := Lib.hid KG
          have HG9 := Lib.hid hG9
          obtain ⟨⟨t0, t1, t2, t3, t4, t5, t6⟩, _⟩ := hX
          have Hbelr := Lib.hid hbelr
          have hlaw := Hlaw.out
          clear hps9 hqn hqp inS hpsN hssN hQ hQ' hMr KG hG9 hown hps hss hbelr g1 g2 g3 g4 gb
          generalize goalsE (moreD r p) = Q at HKG hlaw
          obtain ⟨gs2, ge2⟩ := Q
          simp only at HKG hlaw
          rcases hlaw with h9 | h9
          · injection h9 with h9 h9'
            subst h9
            subst h9'
            rw [← Hgn.out] at HKG
            go_wp2_with fail
            refine HKG.out.mono ?_
            rintro e wg ⟨S9, c9, rfl, hown9, hb9⟩
            have hA := (Sl.below HG9.out hb9).more hb9.size
            have hBn := Sl.of_own hown9
            have KE := Lib.hid (Equal_goals S1 S9 gn c1 c9 _ _ gs2 wg hA hBn (by omega))
            have hbg := Hbelr.out.trans (hb9.mono Hbelr.out.size)
            clear hA hBn hown9 hb9 t0 t1 t2 t3 t4 t5 t6
            go_wp2_with fail
            refine KE.out.mono ?_
            rintro e we ⟨rfl, qe, rfl⟩
            go_wp2_with fail
            go_ret
            exact ⟨rfl, belN hbg qe⟩
          · subst h9
            go_wp2_with fail
            refine HKG.out.mono ?_
            rintro e wg ⟨S9, c9, rfl, hown9, hb9⟩
            have hbg := Hbelr.out.trans (hb9.mono Hbelr.out.size)
            clear hown9 hb9 t0 t1 t2 t3 t4 t5 t6
            go_wp2_with fail
            go_ret
            exact ⟨rfl, hbg⟩
  · have hK1 : ((ge : Int) != 0) = true := by simp; omega
    have Hge := Lib.hid hge
    have Hmm := Lib.hid hmm
    clear hge hgE hmm
    go_enter Tryz.func5, Tryz.ntmps5
    go_wp2_with fail
    rw [← hW]
    clear hW
    refine (Hgl.out W (HM.out.below hbW) ((Hp.out.below hbW).more hbW.size)).mono ?_
    rintro e w1 ⟨S1, c1, rfl, hown1, hb1⟩
    have hbel1 := hbW.trans (hb1.mono hbW.size)
    clear hbx hb1 hbW hown1
    go_wp2_with fail
    refine (led_any w1 (HM.out.below hbel1)).mono ?_
    rintro e w2 ⟨rfl, hb2⟩
    have hbel2 := hbel1.trans (hb2.mono hbel1.size)
    clear hb2
    go_wp2_with fail
    refine (led_any w2 (HM.out.below hbel2)).mono ?_
    rintro e w3 ⟨rfl, hb3⟩
    have hbel3 := hbel2.trans (hb3.mono hbel2.size)
    go_wp2_with fail
    go_ret
    exact ⟨rfl, hbel3⟩
end Go.Proofs.YtlbdnohnngkapaaGreatDoor

namespace Go.Proofs.YtlbdnohnngkapaaGreatDoor
open Go.ChangeShapes Go.WideShapes Go.ChangeAt Go.RowKit
open Go.ChangeMaps (open_string shut_string)

theorem own : ownKnob Tryz.prog.godebug = none := by kernel_rfl
theorem laidOut : laidOutB Tryz.prog = true := by kernel_rfl

theorem bd64 {n : Int} (h : (Lit.int .i64 n).wf = true) : -9223372036854775808 ≤ n ∧ n ≤ 9223372036854775807 := bounds_i64 h

/-- What the walk is told of a slice of integers that came in. -/
def IsRow (k : IntKind) (w : World) (a : Option Addr) (len cap : Nat) (zs : List Int) : Prop :=
  (a = none ∧ len = 0 ∧ cap = 0 ∧ zs = []) ∨
  ∃ x, a = some x ∧ len ≤ cap ∧ cap ≤ maxLen ∧ zs.length = cap ∧ (∀ i, i < zs.length → w.cell? (x.add i) = some (.int k (zs.getD i 0))) ∧ ∀ n ∈ zs, (Lit.int k n).wf = true

theorem cell_lt {w : World} {a : Addr} {v : Value} (h : w.cell? a = some v) : a.block < w.heap.size := by
  rcases Nat.lt_or_ge a.block w.heap.size with h' | h'
  · exact h'
  · simp [World.cell?, Array.getElem?_eq_none h'] at h

/-- A slice of bytes that came in, as a list of bytes. -/
theorem IsRow.toBy {w : World} {a : Option Addr} {len cap : Nat} {zs : List Int} (h : IsRow .u8 w a len cap zs) : ∃ l, By w w.heap.size a len l ∧ len ≤ cap ∧ cap ≤ maxLen := by
  rcases h with ⟨rfl, rfl, rfl, rfl⟩ | ⟨x, rfl, hl, hm, hz, hcell, hwf⟩
  · exact ⟨[], By.nil_ _ _ _, Nat.le_refl _, Nat.zero_le _⟩
  · refine ⟨(zs.take len).map fun z => UInt8.ofNat z.toNat, ⟨by simp [Lib.byteCells]; omega, fun h0 => ?_⟩, hl, hm⟩
    obtain ⟨b, off, rfl, hc⟩ := ints_at hcell (by omega)
    refine ⟨b, off, rfl, ?_, fun j u hu => ?_⟩
    · exact cell_lt (hc 0 (by omega))
    · have hj : j < len := by
        rcases Nat.lt_or_ge j len with h' | h'
        · exact h'
        · rw [List.getElem?_eq_none (by simp [Lib.byteCells]; omega)] at hu; cases hu
      have hjz : j < zs.length := by omega
      rw [hc j hjz]
      have hmem : zs[j] ∈ zs := List.getElem_mem hjz
      have hb := bounds_u8 (hwf _ hmem)
      have e : ((UInt8.ofNat zs[j].toNat).toNat : Int) = zs[j] := by rw [UInt8.toNat_ofNat']; omega
      have e2 : (Lib.byteCells ((zs.take len).map fun z => UInt8.ofNat z.toNat))[j]? = some (.int .u8 ((UInt8.ofNat zs[j].toNat).toNat : Int)) := by
        simp [Lib.byteCells, hj, hjz]
      rw [e2] at hu
      rw [← hu, e]
      simp [List.getD, hjz]
end Go.Proofs.YtlbdnohnngkapaaGreatDoor

namespace Go.Proofs.YtlbdnohnngkapaaGreatDoor
open Go.ChangeShapes Go.WideShapes Go.ChangeAt Go.RowKit Go.Deep

theorem partStruct : Tryz.prog.cellsOf 25 = 7 := by kernel_rfl
theorem cell_lt' {w : World} {b o : Nat} {v : Value} (h : w.cell? ⟨b, o, none⟩ = some v) : b < w.heap.size := cell_lt (a := ⟨b, o, none⟩) h
theorem plain_at {w : World} {a : Addr} {v : Value} (h : w.cell? (a.add 0) = some v) : ∃ b off, a = ⟨b, off, none⟩ := by
  obtain ⟨b, off, spot⟩ := a
  have hspot : spot = none := by
    simpa [Addr.add] using World.cell?_spot h
  subst hspot
  exact ⟨b, off, rfl⟩

section
variable {H : Type} {enc : TypeId × Value → H} {w : World} {base : Nat} {held : Bool}
set_option maxRecDepth 100000 in
theorem part_of_trod : ∀ (k fuel : Nat) (cs : List Value) (x : DataW H × List MemPlace), fuel ≤ k → DataW.trod enc Tryz.prog w base (fun _ => true) held fuel 25 cs = some x → ∃ p, PartAt (· < w.heap.size) w p cs := by
  intro k
  induction k with
  | zero =>
    intro fuel cs x hk h
    have : fuel = 0 := by omega
    subst this
    simp [DataW.trod] at h
  | succ k ih =>
    intro fuel cs x hk h
    obtain ⟨xs, n, hfu, _, hl, hxl, hf⟩ := DataW.trod_struct Tryz.underlying25 h
    rw [partStruct] at hl
    match cs, hl with
    | [c0, c1, c2, c3, c4, c5, c6], _ =>
      match xs, hxl with
      | [x0, x1, x2, x3, x4, x5, x6], _ =>
        have h0 : DataW.trod enc Tryz.prog w base (fun _ => true) held n 9 [c0] = some x0 := hf 0 _ rfl
        have h1 : DataW.trod enc Tryz.prog w base (fun _ => true) held n 9 [c1] = some x1 := hf 1 _ rfl
        have h2 : DataW.trod enc Tryz.prog w base (fun _ => true) held n 9 [c2] = some x2 := hf 2 _ rfl
        have h3 : DataW.trod enc Tryz.prog w base (fun _ => true) held n 9 [c3] = some x3 := hf 3 _ rfl
        have h4 : DataW.trod enc Tryz.prog w base (fun _ => true) held n 3 [c4] = some x4 := hf 4 _ rfl
        have h5 : DataW.trod enc Tryz.prog w base (fun _ => true) held n 22 [c5] = some x5 := hf 5 _ rfl
        have h6 : DataW.trod enc Tryz.prog w base (fun _ => true) held n 23 [c6] = some x6 := hf 6 _ rfl
        obtain ⟨s0, e0, _, b0⟩ := DataW.trod_string Tryz.underlying9 h0
        obtain ⟨s1, e1, _, b1⟩ := DataW.trod_string Tryz.underlying9 h1
        obtain ⟨s2, e2, _, b2⟩ := DataW.trod_string Tryz.underlying9 h2
        obtain ⟨s3, e3, _, b3⟩ := DataW.trod_string Tryz.underlying9 h3
        obtain ⟨i4, e4, _, b4⟩ := DataW.trod_int Tryz.underlying3 h4
        simp only [List.cons.injEq, and_true] at e0 e1 e2 e3 e4
        subst e0 e1 e2 e3 e4
        obtain ⟨hlo, hhi⟩ := bounds_i64 b4
        have hby : ∃ A n c l, c5 = .slice A n c ∧ By w w.heap.size A n l ∧ n ≤ c ∧ c ≤ maxLen := by
          rcases open_ints Tryz.underlying22 Tryz.underlying5 (by kernel_rfl) h5 with ⟨hcs, _⟩ | ⟨y, l, c, zs, hcs, _, hl, hm, hz, _, hcell, hwz⟩
          · simp only [List.cons.injEq, and_true] at hcs
            exact ⟨none, 0, 0, [], hcs, By.nil_ _ _ _, Nat.le_refl _, Nat.zero_le _⟩
          · simp only [List.cons.injEq, and_true] at hcs
            have hr : IsRow .u8 w (some y) l c zs := .inr ⟨y, rfl, hl, hm, by simpa using hz, hcell, hwz⟩
            obtain ⟨bl, hb, hle, hmx⟩ := hr.toBy
            exact ⟨some y, l, c, bl, hcs, hb, hle, hmx⟩
        have hps : ∃ A n c ps rows, c6 = .slice A n c ∧ SlS (· < w.heap.size) w 7 A n rows.flatten ∧ PartsAt (· < w.heap.size) w ps rows ∧ n ≤ c ∧ c ≤ maxLen := by
          rcases DataW.trod_slice Tryz.underlying23 h6 with ⟨hcs, _⟩ | ⟨a, len, cap, elems, rest, n', hfu', hcs, _, hb, hl, hm, hlen, hel, hsp, hns⟩
          · simp only [List.cons.injEq, and_true] at hcs
            exact ⟨none, 0, 0, [], [], hcs, ⟨rfl, fun h => absurd h (by omega)⟩, rfl, Nat.le_refl _, Nat.zero_le _⟩
          · simp only [List.cons.injEq, and_true] at hcs
            have hone : ∀ i, i < len → ∃ (q : PartD × List Value), w.cells? base (a.add (i * 7)) 7 = some q.2 ∧ PartAt (· < w.heap.size) w q.1 q.2 := by
              intro i hi
              have h1 := hel i hi
              rw [partStruct, List.getElem?_eq_getElem (by omega)] at h1
              obtain ⟨cs', hc', ht'⟩ := Option.bind_eq_some_iff.1 h1
              obtain ⟨p, hp⟩ := ih n' cs' _ (by omega) ht'
              exact ⟨(p, cs'), hc', hp⟩
            haveI : Inhabited (PartD × List Value) := ⟨(⟨[], [], [], [], 0, [], []⟩, [])⟩
            obtain ⟨f, hfp⟩ := choose_lt hone
            refine ⟨some a, len, cap, (List.range len).map (fun i => (f i).1), (List.range len).map (fun i => (f i).2), hcs, ?_, ?_, hl, hm⟩
            · have h7 : ∀ r ∈ (List.range len).map (fun i => (f i).2), r.length = 7 := by
                intro r hr
                obtain ⟨i, hi, rfl⟩ := List.mem_map.1 hr
                exact (hfp i (List.mem_range.1 hi)).2.row
              refine ⟨by rw [flat7_len _ h7]; simp, fun h0 => ?_⟩
              obtain ⟨_, hl0, hat0⟩ := World.cells?_some (hfp 0 h0).1
              have hx0 := hat0 0 (by omega)
              rw [List.getElem?_eq_getElem (by omega)] at hx0
              obtain ⟨b, off, hab⟩ : ∃ b off, a = ⟨b, off, none⟩ := by
                have e : (a.add (0 * 7)).add 0 = a.add 0 := by rw [Go.Deep.add_add]
                rw [e] at hx0
                exact plain_at hx0
              subst hab
              refine ⟨b, off, rfl, ?_, fun j u hu => ?_⟩
              · have e : ((⟨b, off, none⟩ : Addr).add (0 * 7)).add 0 = ⟨b, off, none⟩ := by rw [Go.Deep.add_add]; simp [Addr.add]
                rw [e] at hx0
                exact cell_lt' hx0
              · have hj : j < len * 7 := by
                  rcases Nat.lt_or_ge j (len * 7) with h | h
                  · exact h
                  · rw [List.getElem?_eq_none (by rw [flat7_len _ h7]; simp; omega)] at hu; cases hu
                have hi : j / 7 < len := by omega
                have hjj : j = j / 7 * 7 + j % 7 := by omega
                obtain ⟨_, hli, hati⟩ := World.cells?_some (hfp (j / 7) hi).1
                have hx := hati (j % 7) (by omega)
                rw [Go.Deep.add_add, ← hjj] at hx
                rw [hjj, flat7_at _ h7 (j / 7) (j % 7) (f (j / 7)).2 (by simp [hi]) (by omega)] at hu
                rw [hu] at hx
                have e : (⟨b, off, none⟩ : Addr).add j = ⟨b, off + j, none⟩ := Go.WideShapes.add_plain ..
                rw [e] at hx
                exact hx
            · refine PartsAt.mk _ _ (by simp) fun i hi => ?_
              have hi' : i < len := by simpa using hi
              refine ⟨(f i).2, by simp [hi'], ?_⟩
              simpa using (hfp i hi').2
        obtain ⟨A, n1, c1', l, rfl, hb1, hb2, hb3⟩ := hby
        obtain ⟨A2, n2, c2', ps, rows, rfl, hp1, hp2, hp3, hp4⟩ := hps
        exact ⟨⟨s0.data.toList, s1.data.toList, s2.data.toList, s3.data.toList, i4, l, ps⟩, A, n1, c1', A2, n2, c2', rows, rfl, ⟨b0, b1, b2, b3, hlo, hhi⟩, hb1, hb2, hb3, hp1, hp3, hp4, hp2⟩
set_option maxRecDepth 100000 in
theorem open_part {r : Reach} {b0 : Nat} {v : Value} {d : DataW H} {pl : List MemPlace} (hv : Value.okWide Tryz.prog w r b0 25 v) (h : DataW.Trod enc Tryz.prog w base (fun _ => true) held 25 v d pl) : ∃ p cs, v = .agg cs.toArray ∧ PartAt (· < w.heap.size) w p cs := by
  obtain ⟨cs, rfl, hsz⟩ := okWide_struct Tryz.underlying25 hv
  obtain ⟨l⟩ := cs
  obtain ⟨fuel, hf⟩ := h
  obtain ⟨p, hp⟩ := part_of_trod fuel fuel _ _ (Nat.le_refl _) hf
  exact ⟨p, l, rfl, hp⟩
end
end Go.Proofs.YtlbdnohnngkapaaGreatDoor

namespace Go.Proofs.YtlbdnohnngkapaaGreatDoor
open Go.ChangeShapes Go.WideShapes Go.ChangeAt Go.RowKit

theorem maxLen_of_shaped {W : World} (h : W.ShapedOpen Tryz.prog) : MaxLenOk W := Go.Proofs.Tryz.laysM219.s1_3 W h
end Go.Proofs.YtlbdnohnngkapaaGreatDoor


