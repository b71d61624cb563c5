import Derived.Test.YtdhmmepcnladcaaDoorPartC
import Derived.Test.YtdhmmepcnladcaaDoorCloPart
import Derived.Test.YtdhmmepcnladcaaDoorClobyte
import Derived.Deep.RegionWith
namespace Go.Proofs.YtdhmmepcnladcaaDoor
open Go.RowKit

def CopyRes (p : PartD) (w : World) (e : Ending) (w' : World) : Prop :=
  ∃ v : List Value, e = .returned (.agg v.toArray) ∧ PartAt (fun b => w.heap.size ≤ b ∧ b < w'.heap.size) w' p v ∧ Below w.heap.size w w'
/-- Memory that the copy made: behind its two boxes, but for the row of its parts. -/
def NewS (B : Nat) (row : Option Nat) (w : World) (b : Nat) : Prop := B ≤ b ∧ b < w.heap.size ∧ row ≠ some b
def CopyRel (p : PartD) (rows : List (List Value)) (n2 h : Nat) (S1 S2 : Option Addr) (d1 d2 : Nat) (w0 : World) (iv : Value) (wr : World) : Prop :=
  ∃ i done, iv = .int .i64 (i : Nat) ∧ i ≤ n2 ∧ done.length = i ∧ wr.ownsRow (h + 2) 25 7 (.slice S2 n2 d2) n2 (done ++ rows.drop i).flatten ∧
    PartsAt (NewS (h + 2) (Value.ownBlock (.slice S2 n2 d2)) wr) wr (p.parts.take i) done ∧ SlS (NewS (h + 2) (Value.ownBlock (.slice S2 n2 d2)) wr) wr 1 S1 p.body.length (Lib.byteCells p.body) ∧
    BoxF wr h (str p.type) (str p.cs) (str p.id) (str p.loc) (.int .i64 p.how) (.slice S1 p.body.length d1) (.slice S2 n2 d2) ∧
    (∃ v0 v1 v2 v3 v4 v5 v6, BoxF wr (h + 1) v0 v1 v2 v3 v4 v5 v6) ∧ Below h w0 wr ∧ h + 2 ≤ wr.heap.size
set_option maxRecDepth 100000 in
set_option maxHeartbeats 4000000 in
theorem Copy_any (k : Nat) : ∀ (p : PartD) (v : List Value) (w : World), (flatD p).length ≤ k → k ≤ 1000 → (∀ q ∈ flatD p, q.body.length ≤ 4000) → PartAt (· < w.heap.size) w p v →
    Calls Tryd.prog 76 #[.agg v.toArray] w (CopyRes p w) := by
  induction k with
  | zero => intro p v w h; rw [flatD_eq] at h; simp at h
  | succ k ih =>
    intro p v w hk hk1 hbod hp
    obtain ⟨A, c, A2, c2, rfl, hbds, hby, hnc, hcm, hP, hc2, hcm2⟩ := hp.open
    obtain ⟨W, hW⟩ : ∃ W, W = (w.alloc (.cells #[str p.type, str p.cs, str p.id, str p.loc, .int .i64 p.how, .slice A p.body.length c, .slice A2 p.parts.length c2] 25)).alloc (.cells #[.string ⟨#[]⟩, .string ⟨#[]⟩, .string ⟨#[]⟩, .string ⟨#[]⟩, .int .i64 0, .slice none 0 0, .slice none 0 0] 25) := ⟨_, rfl⟩
    have hbW : Below w.heap.size w W := by rw [hW]; exact ((Below.refl _ w).alloc (Nat.le_refl _) _).alloc (by simp) _
    have hsW : W.heap.size = w.heap.size + 2 := by rw [hW]; simp
    have hx1 : BoxF W w.heap.size (str p.type) (str p.cs) (str p.id) (str p.loc) (.int .i64 p.how) (.slice A p.body.length c) (.slice A2 p.parts.length c2) := by
      refine BoxF.of_block (t := 25) ?_
      rw [hW, Lib.alloc_old _ _ _ (by simp)]
      exact heap_alloc_new w _
    have hx2 : BoxF W (w.heap.size + 1) (.string ⟨#[]⟩) (.string ⟨#[]⟩) (.string ⟨#[]⟩) (.string ⟨#[]⟩) (.int .i64 0) (.slice none 0 0) (.slice none 0 0) := by
      refine BoxF.of_block (t := 25) ?_
      rw [hW]
      have := heap_alloc_new (w.alloc (.cells #[str p.type, str p.cs, str p.id, str p.loc, .int .i64 p.how, .slice A p.body.length c, .slice A2 p.parts.length c2] 25)) (.cells #[.string ⟨#[]⟩, .string ⟨#[]⟩, .string ⟨#[]⟩, .string ⟨#[]⟩, .int .i64 0, .slice none 0 0, .slice none 0 0] 25)
      simpa using this
    have hnb : p.body.length ≤ 1000000000 := by have := hbod p (by rw [flatD_eq]; simp); omega
    have hfl : (flatsD p.parts).length ≤ k := by rw [flatD_eq, List.length_cons] at hk; omega
    have hnp : p.parts.length ≤ 1000000000 := by have := flatsD_len p.parts; omega
    obtain ⟨rows, hrs, hrp⟩ := hP
    have hc1 : ∀ W', Below w.heap.size w W' → Calls Tryd.prog 156 #[.slice A p.body.length c] W' (CloResbyte (Lib.byteCells p.body) p.body.length W') :=
      fun W' hb => Clone_byte A _ c w.heap.size _ W' (Sl.below hby hb) hb.size (oneCell_byteCells _) hnb
    have hc2 : ∀ W', Below w.heap.size w W' → Calls Tryd.prog 157 #[.slice A2 p.parts.length c2] W' (CloResPart rows.flatten p.parts.length W') :=
      fun W' hb => Clone_Part A2 _ c2 w.heap.size _ W' (Sl.below hrs hb) hb.size (PartsAt.one _ _ hrp) hnp
    have Hc1 := Lib.hid hc1
    have Hc2 := Lib.hid hc2
    have Hx1 := Lib.hid (show BoxF W.drew _ _ _ _ _ _ _ _ from hx1)
    have Hx2 := Lib.hid (show BoxF W.drew _ _ _ _ _ _ _ _ from hx2)
    have HsW := Lib.hid hsW
    have hszW : w.heap.size + 2 ≤ W.drew.heap.size := by show _ ≤ W.heap.size; omega
    have Hby := Lib.hid hby
    have Hrs := Lib.hid hrs
    have Hrp := Lib.hid hrp
    have Hih := Lib.hid ih
    have Hbod := Lib.hid hbod
    clear hc1 hc2 hsW hx2 hby hrs hrp ih hbod hp
    obtain ⟨⟨x0, x1, x2, x3, x4, x5, x6⟩, hf⟩ := hx1
    go_enter Tryd.func76, Tryd.ntmps76
    go_wp2_with fail
    rw [← hW]
    clear hW
    go_region_with (first
      | (go_at_call 156; refine (Hc1.out _ hbW.drew).mono ?_; rintro e w1 ⟨S1, d1, rfl, hown1, hb1⟩; have hbel1 := hbW.drew.trans (hb1.mono hbW.drew.size); have hB1 := hb1.mono hszW; obtain ⟨⟨y0, y1, y2, y3, y4, y5, y6⟩, yf⟩ := Hx1.out.below hB1 (by omega))
      | (go_at_call 157; refine (Hc2.out _ hbel1).mono ?_; rintro e w2 ⟨S2, d2, rfl, hown2, hb2⟩; have hbel2 := hbel1.trans (hb2.mono hbel1.size); have hB2 := hB1.trans (hb2.mono (Nat.le_trans hszW hb1.size)); obtain ⟨⟨z0, z1, z2, z3, z4, z5, z6⟩, zf⟩ := Hx1.out.below hB2 (by omega)))
    all_goals
      generalize hW3 : (w2.setCell ⟨w.heap.size, 5, none⟩ (Value.slice S1 p.body.length d1)).setCell ⟨w.heap.size, 6, none⟩ (Value.slice S2 p.parts.length d2) = w3
      have hrel0 : CopyRel p rows p.parts.length w.heap.size S1 S2 d1 d2 w (.int .i64 0) w3 := by
        have hne : Value.ownBlock (.slice S2 p.parts.length d2) ≠ some w.heap.size := fun e => by have := (hown2.lt _ e).1; have := hb1.size; omega
        have hsz3 : w3.heap.size = w2.heap.size := by rw [← hW3]; simp
        have hz1 := hb1.size
        have hz2 := hb2.size
        refine ⟨0, [], rfl, Nat.zero_le _, rfl, ?_, rfl, ?_, ?_, ?_, ?_, by omega⟩
        · rw [← hW3]
          exact own_setFar (own_setFar (own_base hown2 (by omega)) hne _) hne _
        · refine SlS.change (own_sls hown1) (fun b hb => ⟨Nat.le_trans hszW hb.1, by have := hb.2; omega, fun e => ?_⟩) (fun a ha => ?_)
          · have := (hown2.lt _ e).1
            have := hb.2
            omega
          · rw [← hW3]
            have h1 := ha.1
            rw [World.cell?_setCell_other _ _ _ _ (by rintro rfl; have h1' : w.heap.size + 2 ≤ w.heap.size := Nat.le_trans hszW h1; omega), World.cell?_setCell_other _ _ _ _ (by rintro rfl; have h1' : w.heap.size + 2 ≤ w.heap.size := Nat.le_trans hszW h1; omega)]
            exact hb2.cell ha.2
        · rw [← hW3]
          exact BoxF.set56 (Hx1.out.below hB2 (by omega)) _ _
        · rw [← hW3]
          exact ⟨_, _, _, _, _, _, _, ((Hx2.out.below hB2 (by omega)).setFar (by simp) _).setFar (by simp) _⟩
        · rw [← hW3]
          exact (hbel2.setCell (Nat.le_refl _) _).setCell (Nat.le_refl _) _
      have hdd : p.body.length ≤ d1 ∧ d1 ≤ maxLen ∧ p.parts.length ≤ d2 ∧ d2 ≤ maxLen := ⟨own_cap hown1, own_capmax hown1, own_cap hown2, own_capmax hown2⟩
      have Hdd := Lib.hid hdd
      have Hrel0 := Lib.hid hrel0
      have hx6 : w3.cell? ⟨w.heap.size, 6, none⟩ = some (.slice S2 p.parts.length d2) := by
        obtain ⟨i, done, _, _, _, _, _, _, hbx, _⟩ := hrel0
        exact hbx.1.2.2.2.2.2.2
      clear hW3 hrel0 hdd hown1 hown2 y0 y1 y2 y3 y4 y5 y6 yf z0 z1 z2 z3 z4 z5 z6 zf x0 x1 x2 x3 x4 x5 x6 hf
      clear hb1 hb2 hbel1 hbel2 hB1 hB2
      go_wp2_with fail
      go_loopw [16] (CopyRel p rows p.parts.length w.heap.size S1 S2 d1 d2 w) (fun iv _ => p.parts.length - (intOf iv).toNat)
      case atStart => exact Hrel0.out
      case round =>
        obtain ⟨i, done, rfl, hi, hdl, hown, hpd, hs1, hbx, hb1x, hbel, hsz⟩ := hrel
        by_cases hin : i < p.parts.length
        · obtain ⟨g, cap, hv, hgb, hgl⟩ := hown.form (by omega)
          injection hv with hS2 _ hcap
          subst hS2
          subst hcap
          obtain ⟨r, hr, hpr⟩ := PartsAt.get _ _ Hrp.out i hin
          have hri : i < rows.length := by rw [PartsAt.len _ _ Hrp.out]; exact hin
          have hrd : rows.drop i = r :: rows.drop (i + 1) := by
            rw [List.drop_eq_getElem_cons hri]
            rw [List.getElem?_eq_getElem hri] at hr
            injection hr with hr
            rw [hr]
          have hpd7 := PartsAt.rows _ _ hpd
          have hrw7 : ∀ x ∈ done ++ rows.drop i, x.length = 7 := by
            intro x hx
            rcases List.mem_append.1 hx with hx | hx
            · exact hpd7 x hx
            · exact PartsAt.rows _ _ Hrp.out x (List.mem_of_mem_drop hx)
          have hcell : ∀ k u, k < 7 → r[k]? = some u → wr.cell? ⟨g, i * 7 + k, none⟩ = some u := by
            intro k u hk hu
            rw [hown.cellAt _ (by omega), flat7_at _ hrw7 i k r ?_ hk]
            · exact hu
            · rw [List.getElem?_append_right (by omega), hdl, Nat.sub_self, hrd]; rfl
          generalize hq : p.parts[i] = q at hpr
          obtain ⟨A', c', A2', c2', rfl, _⟩ := hpr.open
          have q0 := hcell 0 _ (by omega) rfl
          have q1 := hcell 1 _ (by omega) rfl
          have q2 := hcell 2 _ (by omega) rfl
          have q3 := hcell 3 _ (by omega) rfl
          have q4 := hcell 4 _ (by omega) rfl
          have q5 := hcell 5 _ (by omega) rfl
          have q6 := hcell 6 _ (by omega) rfl
          simp only [Nat.add_zero] at q0
          obtain ⟨W5, hW5⟩ : ∃ W5, W5 = wr.alloc (.cells #[str q.type, str q.cs, str q.id, str q.loc, .int .i64 q.how, .slice A' q.body.length c', .slice A2' q.parts.length c2'] 25) := ⟨_, rfl⟩
          have hbA : Below wr.heap.size wr W5 := by rw [hW5]; exact (Below.refl _ wr).alloc (Nat.le_refl _) _
          have hbel5 : Below w.heap.size w W5 := hbel.trans (hbA.mono hbel.size)
          have hbx5 : BoxF W5 w.heap.size _ _ _ _ _ _ _ := hbx.below hbA (by omega)
          have hk5 : BoxF W5 wr.heap.size (str q.type) (str q.cs) (str q.id) (str q.loc) (.int .i64 q.how) (.slice A' q.body.length c') (.slice A2' q.parts.length c2') := by
            refine BoxF.of_block (t := 25) ?_
            rw [hW5]; exact heap_alloc_new wr _
          have hs5 : W5.heap.size = wr.heap.size + 1 := by rw [hW5]; simp
          have hr5 : Row7 W5.drew g (i * 7) (str q.type) (str q.cs) (str q.id) (str q.loc) (.int .i64 q.how) (.slice A' q.body.length c') (.slice A2' q.parts.length c2') := Row7.below (w := wr) ⟨q0, q1, q2, q3, q4, q5, q6⟩ hbA.drew hgl
          have Hr5 := Lib.hid hr5
          have hgl5 : g < W5.drew.heap.size := by show g < W5.heap.size; omega
          have Hbx5 := Lib.hid (show BoxF W5.drew _ _ _ _ _ _ _ _ from hbx5)
          have hh5 : w.heap.size < W5.drew.heap.size := by show w.heap.size < W5.heap.size; omega
          obtain ⟨⟨_, _, _, _, _, _, x6⟩, _⟩ := hbx5
          obtain ⟨⟨k0, k1, k2, k3, k4, k5, k6⟩, _⟩ := hk5
          have hflq : (flatD q).length ≤ k ∧ ∀ x ∈ flatD q, x.body.length ≤ 4000 := by
            have h1 := flatsD_get p.parts i hin
            rw [hq] at h1
            exact ⟨by omega, fun x hx => Hbod.out x (by rw [flatD_eq]; exact List.mem_cons_of_mem _ (h1.2 x hx))⟩
          have hcl := Hih.out q _ W5.drew hflq.1 (by omega) hflq.2 ((hpr.belowN (w' := W5.drew) hbel5.drew (Nat.le_refl _)).more hbel5.size)
          have hown5 := own_below hown hbA
          have Hcl := Lib.hid hcl
          have Hown := Lib.hid hown5
          have Hq := Lib.hid hq
          have Hpd := Lib.hid hpd
          have Hs1 := Lib.hid hs1
          have Hbx := Lib.hid hbx
          have Hb1x := Lib.hid hb1x
          have Hdl := Lib.hid hdl
          have Hs5 := Lib.hid hs5
          have Hrd := Lib.hid hrd
          have Hpd7 := Lib.hid hpd7
          have hin1 : (i : Int) < p.parts.length := by omega
          have hin0 : 0 ≤ (i : Int) := by omega
          clear hr5 hcl hown5 hown hq hpd hs1 hbx hb1x hdl hs5 hrd hrw7 hpd7 hcell hr hri hpr hflq
          go_wp2_with fail
          rw [← hW5]
          clear hW5 q0 q1 q2 q3 q4 q5 q6
          go_region_with (first
            | (go_at_call 76; refine Hcl.out.mono ?_; rintro e w6 ⟨v6, rfl, hpv, hb6⟩; obtain ⟨A6, d6, A7, d7, rfl, _⟩ := hpv.open; have hown6 := own_below (show World.ownsRow W5.drew _ _ _ _ _ _ from Hown.out) hb6; have f6 : ∀ j, w6.frozen? ⟨g, j, none⟩ = false := fun j => hown6.frozenAt j; obtain ⟨c0, c1, c2, c3, c4, c5, c6⟩ := Hr5.out.below hb6 hgl5; obtain ⟨⟨_, _, _, _, _, _, y6⟩, _⟩ := Hbx5.out.below hb6 hh5; have Hown6 := Lib.hid hown6; have Hpv := Lib.hid hpv; clear hown6 hpv))
          all_goals
            generalize hW7 : (((((((w6.setCell ⟨g, i * 7, none⟩ (str q.type)).setCell ⟨g, i * 7 + 1, none⟩ (str q.cs)).setCell ⟨g, i * 7 + 2, none⟩ (str q.id)).setCell ⟨g, i * 7 + 3, none⟩ (str q.loc)).setCell ⟨g, i * 7 + 4, none⟩ (.int .i64 q.how)).setCell ⟨g, i * 7 + 5, none⟩ (.slice A6 q.body.length d6)).setCell ⟨g, i * 7 + 6, none⟩ (.slice A7 q.parts.length d7)) = w7
            have HW7 := Lib.hid hW7
            clear hW7
            go_wp2_with fail
            refine ⟨?_, by simp [intOf]; omega⟩
            have hs5 := Hs5.out
            have hb65 : Below W5.heap.size W5 w6 := ⟨hb6.os, hb6.tape, hb6.output, hb6.size, hb6.block⟩
            have hgb6 : W5.heap.size ≤ w6.heap.size := hb65.size
            have hbr6 : Below wr.heap.size wr w6 := hbA.trans (hb65.mono hbA.size)
            have hd7 := Hpd7.out
            have hown7 := own_set7 (g := g) (i := i) (done := done) (rest := rows.drop (i + 1)) (by have := Hown6.out; rw [Hrd.out] at this; exact this) hd7 Hdl.out (str q.type) (str q.cs) (str q.id) (str q.loc) (.int .i64 q.how) (.slice A6 q.body.length d6) (.slice A7 q.parts.length d7)
            rw [HW7.out] at hown7
            have hsz7 : w7.heap.size = w6.heap.size := by rw [← HW7.out]; simp
            have far7 : ∀ a : Addr, a.block ≠ g → w7.cell? a = w6.cell? a := fun a ha => by rw [← HW7.out]; exact set7_far _ _ _ _ _ _ _ ha
            have old7 : ∀ a : Addr, NewS (w.heap.size + 2) (Value.ownBlock (.slice (some ⟨g, 0, none⟩) p.parts.length d2)) wr a.block → w7.cell? a = wr.cell? a := fun a ha => by
              rw [far7 a (fun e => ha.2.2 (by rw [e]; rfl))]; exact hbr6.cell ha.2.1
            have in7 : ∀ b, NewS (w.heap.size + 2) (Value.ownBlock (.slice (some ⟨g, 0, none⟩) p.parts.length d2)) wr b → NewS (w.heap.size + 2) (Value.ownBlock (.slice (some ⟨g, 0, none⟩) p.parts.length d2)) w7 b := fun b hb => ⟨hb.1, by have := hb.2.1; omega, hb.2.2⟩
            refine ⟨i + 1, done ++ [[str q.type, str q.cs, str q.id, str q.loc, .int .i64 q.how, .slice A6 q.body.length d6, .slice A7 q.parts.length d7]], by go_num, by omega, by simp [Hdl.out], by rw [List.append_assoc]; exact hown7, ?_, ?_, ?_, ?_, ?_, by omega⟩
            · have ht : p.parts.take (i + 1) = p.parts.take i ++ [q] := by rw [List.take_succ_eq_append_getElem hin, Hq.out]
              rw [ht]
              refine PartsAt.app _ _ _ _ (PartsAt.change in7 old7 _ _ Hpd.out) ⟨_, _, rfl, PartAt.change ?_ ?_ _ _ Hpv.out, rfl⟩
              · intro b hb
                have h1 : W5.heap.size ≤ b := hb.1
                have h2 := hb.2
                refine ⟨by omega, by omega, fun e => ?_⟩
                have : g = b := Option.some.inj e
                omega
              · intro a ha
                have h1 : W5.heap.size ≤ a.block := ha.1
                exact far7 a (by omega)
            · exact SlS.change Hs1.out in7 old7
            · have h1 := Hbx5.out.below hb6 hh5
              rw [← HW7.out]
              exact ((((((h1.setFar (by simp; omega) _).setFar (by simp; omega) _).setFar (by simp; omega) _).setFar (by simp; omega) _).setFar (by simp; omega) _).setFar (by simp; omega) _).setFar (by simp; omega) _
            · obtain ⟨v0, v1, v2, v3, v4, v5, v6, hbr⟩ := Hb1x.out
              have h1 := hbr.below hbr6 (by omega)
              rw [← HW7.out]
              exact ⟨_, _, _, _, _, _, _, ((((((h1.setFar (by simp; omega) _).setFar (by simp; omega) _).setFar (by simp; omega) _).setFar (by simp; omega) _).setFar (by simp; omega) _).setFar (by simp; omega) _).setFar (by simp; omega) _⟩
            · rw [← HW7.out]
              exact set7_below (hbel5.trans (hb65.mono hbel5.size)) (by omega) _ _ _ _ _ _ _
        · obtain rfl : i = p.parts.length := by omega
          obtain ⟨⟨x0, x1, x2, x3, x4, x5, x6⟩, _⟩ := id hbx
          obtain ⟨r0, r1, r2, r3, r4, r5, r6, ⟨y0, y1, y2, y3, y4, y5, y6⟩, yf⟩ := hb1x
          have hdr : rows.drop p.parts.length = [] := List.drop_of_length_le (by rw [PartsAt.len _ _ Hrp.out]; exact Nat.le_refl _)
          rw [hdr, List.append_nil] at hown
          rw [List.take_length] at hpd
          have Hown := Lib.hid hown
          have Hpd := Lib.hid hpd
          have Hs1 := Lib.hid hs1
          have Hdl := Lib.hid hdl
          clear hown hpd hs1 hdl hdr
          go_wp2_with fail
          have hbx9 := BoxF.set7 (w := wr) (b := w.heap.size + 1) ⟨⟨y0, y1, y2, y3, y4, y5, y6⟩, yf⟩ (str p.type) (str p.cs) (str p.id) (str p.loc) (.int .i64 p.how) (.slice S1 p.body.length d1) (.slice S2 p.parts.length d2)
          have far9 : ∀ a : Addr, a.block ≠ w.heap.size + 1 → (((((((wr.setCell ⟨w.heap.size + 1, 0, none⟩ (str p.type)).setCell ⟨w.heap.size + 1, 1, none⟩ (str p.cs)).setCell ⟨w.heap.size + 1, 2, none⟩ (str p.id)).setCell ⟨w.heap.size + 1, 3, none⟩ (str p.loc)).setCell ⟨w.heap.size + 1, 4, none⟩ (.int .i64 p.how)).setCell ⟨w.heap.size + 1, 5, none⟩ (.slice S1 p.body.length d1)).setCell ⟨w.heap.size + 1, 6, none⟩ (.slice S2 p.parts.length d2)).cell? a = wr.cell? a := by
            intro a ha
            have h : ∀ (w' : World) k u, (w'.setCell ⟨w.heap.size + 1, k, none⟩ u).cell? a = w'.cell? a := fun w' k u => World.cell?_setCell_other _ _ _ _ (by rintro rfl; exact ha rfl)
            rw [h, h, h, h, h, h, h]
          have hbel9 : Below w.heap.size w (((((((wr.setCell ⟨w.heap.size + 1, 0, none⟩ (str p.type)).setCell ⟨w.heap.size + 1, 1, none⟩ (str p.cs)).setCell ⟨w.heap.size + 1, 2, none⟩ (str p.id)).setCell ⟨w.heap.size + 1, 3, none⟩ (str p.loc)).setCell ⟨w.heap.size + 1, 4, none⟩ (.int .i64 p.how)).setCell ⟨w.heap.size + 1, 5, none⟩ (.slice S1 p.body.length d1)).setCell ⟨w.heap.size + 1, 6, none⟩ (.slice S2 p.parts.length d2)) :=
            ((((((hbel.setCell (Nat.le_succ _) _).setCell (Nat.le_succ _) _).setCell (Nat.le_succ _) _).setCell (Nat.le_succ _) _).setCell (Nat.le_succ _) _).setCell (Nat.le_succ _) _).setCell (Nat.le_succ _) _
          have hsz9 : (((((((wr.setCell ⟨w.heap.size + 1, 0, none⟩ (str p.type)).setCell ⟨w.heap.size + 1, 1, none⟩ (str p.cs)).setCell ⟨w.heap.size + 1, 2, none⟩ (str p.id)).setCell ⟨w.heap.size + 1, 3, none⟩ (str p.loc)).setCell ⟨w.heap.size + 1, 4, none⟩ (.int .i64 p.how)).setCell ⟨w.heap.size + 1, 5, none⟩ (.slice S1 p.body.length d1)).setCell ⟨w.heap.size + 1, 6, none⟩ (.slice S2 p.parts.length d2)).heap.size = wr.heap.size := by simp
          generalize (((((((wr.setCell ⟨w.heap.size + 1, 0, none⟩ (str p.type)).setCell ⟨w.heap.size + 1, 1, none⟩ (str p.cs)).setCell ⟨w.heap.size + 1, 2, none⟩ (str p.id)).setCell ⟨w.heap.size + 1, 3, none⟩ (str p.loc)).setCell ⟨w.heap.size + 1, 4, none⟩ (.int .i64 p.how)).setCell ⟨w.heap.size + 1, 5, none⟩ (.slice S1 p.body.length d1)).setCell ⟨w.heap.size + 1, 6, none⟩ (.slice S2 p.parts.length d2)) = w9 at hbx9 far9 hbel9 hsz9 ⊢
          obtain ⟨c0, c1, c2, c3, c4, c5, c6⟩ := hbx9
          refine bodyPost_ret (v := .agg #[str p.type, str p.cs, str p.id, str p.loc, .int .i64 p.how, .slice S1 p.body.length d1, .slice S2 p.parts.length d2]) (by simp [results, Tryd.results76, go_sem, c0, c1, c2, c3, c4, c5, c6]) rfl ?_
          have inN : ∀ b, NewS (w.heap.size + 2) (Value.ownBlock (.slice S2 p.parts.length d2)) wr b → w.heap.size ≤ b ∧ b < w9.heap.size := fun b hb => ⟨by have := hb.1; omega, by have := hb.2.1; omega⟩
          have oldN : ∀ a : Addr, NewS (w.heap.size + 2) (Value.ownBlock (.slice S2 p.parts.length d2)) wr a.block → w9.cell? a = wr.cell? a := fun a ha => far9 a (by have := ha.1; omega)
          have hrw := SlS.change (own_sls Hown.out) (S' := fun b => w.heap.size ≤ b ∧ b < w9.heap.size) (w' := w9) (fun b hb => ⟨by have := hb.1; omega, by have := hb.2; omega⟩) (fun a ha => far9 a (by have := ha.1; omega))
          have hpp := PartsAt.change inN oldN _ _ Hpd.out
          have hss := SlS.change Hs1.out inN oldN
          obtain ⟨hb1, hb2, hb3, hb4, hb5, hb6⟩ := hbds
          have hbnd : p.body.length ≤ d1 ∧ d1 ≤ maxLen ∧ p.parts.length ≤ d2 ∧ d2 ≤ maxLen := Hdd.out
          refine ⟨_, rfl, ?_, hbel9⟩
          obtain ⟨t, cs, id, loc, how, body, parts⟩ := p
          exact ⟨S1, _, d1, S2, _, d2, done, rfl, ⟨hb1, hb2, hb3, hb4, hb5, hb6⟩, hss, hbnd.1, hbnd.2.1, hrw, hbnd.2.2.1, hbnd.2.2.2, hpp⟩
end Go.Proofs.YtdhmmepcnladcaaDoor
