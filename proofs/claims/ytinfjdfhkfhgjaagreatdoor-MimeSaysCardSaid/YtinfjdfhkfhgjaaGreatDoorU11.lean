import Derived.Test.YtinfjdfhkfhgjaaGreatDoorU7
import Derived.Test.YtinfjdfhkfhgjaaGreatDoorU9
import Derived.Test.YtinfjdfhkfhgjaaGreatDoorU10
import Derived.Test.YtinfjdfhkfhgjaaGreatDoorU8
set_option maxRecDepth 100000
set_option maxHeartbeats 40000000
namespace Go.Proofs.YtinfjdfhkfhgjaaGreatDoor
open Go.RowKit
attribute [local go_sem high] cut_bytes
/-- All else stays. -/
structure SameBut (r : Nat) (W W' : World) : Prop where
 block : ∀ j, j ≠ r → W'.heap[j]? = W.heap[j]?
 size : W'.heap.size = W.heap.size
 os : W'.os = W.os
 tape : W'.tape = W.tape
 output : W'.output = W.output
theorem SameBut.trans {r : Nat} {a b c : World} (h : SameBut r a b) (k : SameBut r b c) : SameBut r a c :=
 ⟨fun j hj => (k.block j hj).trans (h.block j hj), k.size.trans h.size, k.os.trans h.os, k.tape.trans h.tape, k.output.trans h.output⟩
theorem SameBut.set (W : World) (r k : Nat) (u : Value) : SameBut r W (W.setCell ⟨r, k, none⟩ u) :=
 ⟨fun j hj => Below.heap_setCell W ⟨r, k, none⟩ u j hj, by simp [World.setCell], rfl, rfl, rfl⟩
theorem set7_block (W : World) (r : Nat) (u0 u1 u2 u3 u4 u5 u6 : Value) : SameBut r W (((((((W.setCell ⟨r, 0, none⟩ u0).setCell ⟨r, 1, none⟩ u1).setCell ⟨r, 2, none⟩ u2).setCell ⟨r, 3, none⟩ u3).setCell ⟨r, 4, none⟩ u4).setCell ⟨r, 5, none⟩ u5).setCell ⟨r, 6, none⟩ u6) :=
 ((((((SameBut.set _ _ _ _).trans (SameBut.set _ _ _ _)).trans (SameBut.set _ _ _ _)).trans (SameBut.set _ _ _ _)).trans (SameBut.set _ _ _ _)).trans (SameBut.set _ _ _ _)).trans (SameBut.set _ _ _ _)
theorem SameBut.grown {w W W' : World} {g : Nat} (h : SameBut w.heap.size W W') (hgr : w.grownBy W (some g)) : w.grownBy W' (some g) :=
 ⟨h.os.trans hgr.os, h.tape.trans hgr.tape, h.output.trans hgr.output, by rw [h.size]; exact hgr.size, fun j hj hne => (h.block j (by omega)).trans (hgr.block j hj hne)⟩
/-- The result's cells are set: all else stays. -/
theorem box_end {w W : World} {g cnt : Nat} (hg : RdIs W g cnt) (hgl : g < w.heap.size) (hgr : w.grownBy W (some g)) (u0 u1 u2 u3 u4 u5 u6 : Value) :
 RdIs (((((((W.setCell ⟨w.heap.size, 0, none⟩ u0).setCell ⟨w.heap.size, 1, none⟩ u1).setCell ⟨w.heap.size, 2, none⟩ u2).setCell ⟨w.heap.size, 3, none⟩ u3).setCell ⟨w.heap.size, 4, none⟩ u4).setCell ⟨w.heap.size, 5, none⟩ u5).setCell ⟨w.heap.size, 6, none⟩ u6) g cnt ∧ w.grownBy (((((((W.setCell ⟨w.heap.size, 0, none⟩ u0).setCell ⟨w.heap.size, 1, none⟩ u1).setCell ⟨w.heap.size, 2, none⟩ u2).setCell ⟨w.heap.size, 3, none⟩ u3).setCell ⟨w.heap.size, 4, none⟩ u4).setCell ⟨w.heap.size, 5, none⟩ u5).setCell ⟨w.heap.size, 6, none⟩ u6) (some g) ∧ SameBut w.heap.size W (((((((W.setCell ⟨w.heap.size, 0, none⟩ u0).setCell ⟨w.heap.size, 1, none⟩ u1).setCell ⟨w.heap.size, 2, none⟩ u2).setCell ⟨w.heap.size, 3, none⟩ u3).setCell ⟨w.heap.size, 4, none⟩ u4).setCell ⟨w.heap.size, 5, none⟩ u5).setCell ⟨w.heap.size, 6, none⟩ u6) := by
 have h := set7_block W w.heap.size u0 u1 u2 u3 u4 u5 u6
 exact ⟨hg.other (h.block g (by omega)), h.grown hgr, h⟩
theorem mpart_any (k : Nat) : ∀ (b : List UInt8) (A : Option Addr) (n c g cnt : Nat) (d : Int) (w : World), d + k = 4 → 1 ≤ d → SlS (fun bl => bl < w.heap.size ∧ bl ≠ g) w 1 A n (Lib.byteCells b) → n ≤ c → c ≤ maxLen → n ≤ 40000 → cnt ≤ 12 → RdIs w g cnt →
 Calls Tryz.prog 22 #[.pointer (some ⟨g, 0, none⟩), .slice A n c, .int .i64 d] w (ReadRes (partM k cnt b) g w) := by
 induction k with
 | zero =>
  intro b A n c g cnt d w hd hd1 hb hn hc hm hcnt hrd
  have hR : partM 0 cnt b = (zeroPD, cnt + 1, 2) := rfl
  have HR := Lib.hid hR
  have hgl := hrd.lt
  obtain ⟨W, hW⟩ : ∃ W, W = w.alloc (.cells #[.string ⟨#[]⟩, .string ⟨#[]⟩, .string ⟨#[]⟩, .string ⟨#[]⟩, .int .i64 0, .slice none 0 0, .slice none 0 0] 25) := ⟨_, rfl⟩
  have hbW : Below w.heap.size w W := by rw [hW]; exact (Below.refl _ w).alloc (Nat.le_refl _) _
  have hbx : BoxF W w.heap.size (.string ⟨#[]⟩) (.string ⟨#[]⟩) (.string ⟨#[]⟩) (.string ⟨#[]⟩) (.int .i64 0) (.slice none 0 0) (.slice none 0 0) := BoxF.of_block (t := 25) (by rw [hW]; exact heap_alloc_new w _)
  have hsW : W.heap.size = w.heap.size + 1 := by rw [hW]; simp
  have hrdW := hrd.below hbW
  have c0 := hrdW.cell
  have f0 := hrdW.fz
  obtain ⟨W1, hW1⟩ : ∃ W1, W1 = W.setCell ⟨g, 0, none⟩ (.int .i64 ((cnt : Int) + 1)) := ⟨_, rfl⟩
  have hrd1 : RdIs W1 g (cnt + 1) := by
   have := hrdW.set (cnt + 1)
   rw [hW1]
   exact this
  have hg1 : W.grownBy W1 (some g) := by rw [hW1]; exact grown_set W g 0 _
  have hgr1 : w.grownBy W1 (some g) := gM_tr (gM_of hbW) hg1
  have hbx1 : BoxF W1 w.heap.size (.string ⟨#[]⟩) (.string ⟨#[]⟩) (.string ⟨#[]⟩) (.string ⟨#[]⟩) (.int .i64 0) (.slice none 0 0) (.slice none 0 0) := by
   rw [hW1]
   exact hbx.setFar (by show g ≠ w.heap.size; omega) _
  have hs1 : W1.heap.size = w.heap.size + 1 := by rw [hW1, ← hsW]; simp [World.setCell]
  have d1 := hrd1.cell
  have HW := Lib.hid hW
  have HW1 := Lib.hid hW1
  have Hrd1 := Lib.hid hrd1
  have Hbx1 := Lib.hid hbx1
  have Hgr1 := Lib.hid hgr1
  have Hs1 := Lib.hid hs1
  obtain rfl : d = 4 := by omega
  clear hR hW hrdW hbx hb hrd hd hW1 hrd1 hbx1 hgr1 hs1 hg1 hsW
  go_enter Tryz.func22, Tryz.ntmps22
  go_upto_region 2 with fail
  rw [← HW.out]
  go_upto_region 3 with fail
  rw [← HW1.out]
  clear c0 f0
  go_wp2_with fail
  all_goals
   refine (rfail_any 2 _).mono ?_
   rintro e w2 ⟨rfl, hb2⟩
   have hbx2 := Hbx1.out.below hb2 (by have := Hs1.out; omega)
   have hrd2 := Hrd1.out.below hb2
   have hgr2 := gM_below Hgr1.out hb2
   have hbx9 := BoxF.set7 (w := w2) (b := w.heap.size) hbx2 (.string ⟨#[]⟩) (.string ⟨#[]⟩) (.string ⟨#[]⟩) (.string ⟨#[]⟩) (.int .i64 0) (.slice none 0 0) (.slice none 0 0)
   have hen9 := box_end hrd2 hgl hgr2 (.string ⟨#[]⟩) (.string ⟨#[]⟩) (.string ⟨#[]⟩) (.string ⟨#[]⟩) (.int .i64 0) (.slice none 0 0) (.slice none 0 0)
   have ⟨⟨z0, z1, z2, z3, z4, z5, z6⟩, zf⟩ := hbx2
   clear d1
   go_wp2_with fail
   generalize hw9 : (((((((w2.setCell ⟨w.heap.size, 0, none⟩ (.string ⟨#[]⟩)).setCell ⟨w.heap.size, 1, none⟩ (.string ⟨#[]⟩)).setCell ⟨w.heap.size, 2, none⟩ (.string ⟨#[]⟩)).setCell ⟨w.heap.size, 3, none⟩ (.string ⟨#[]⟩)).setCell ⟨w.heap.size, 4, none⟩ (.int .i64 0)).setCell ⟨w.heap.size, 5, none⟩ (.slice none 0 0)).setCell ⟨w.heap.size, 6, none⟩ (.slice none 0 0)) = w9 at hbx9 hen9 ⊢
   clear hw9
   obtain ⟨c0, c1, c2, c3, c4, c5, c6⟩ := hbx9
   obtain ⟨hr9, hg9, _⟩ := hen9
   refine bodyPost_ret (v := .tuple #[.agg #[.string ⟨#[]⟩, .string ⟨#[]⟩, .string ⟨#[]⟩, .string ⟨#[]⟩, .int .i64 0, .slice none 0 0, .slice none 0 0], .int .i64 (2 : Nat)]) (by simp [results, Tryz.results22, go_sem, c0, c1, c2, c3, c4, c5, c6]) rfl ?_
   rw [HR.out]
   exact ⟨_, _, _, _, _, _, _, rfl, zero_at _ _, hr9, hg9⟩
 | succ k ih =>
  intro b A n c g cnt d w hd hd1 hb hn hc hm hcnt hrd
  have hR := partM_step k cnt b
  have hgl := hrd.lt
  obtain ⟨W, hW⟩ : ∃ W, W = w.alloc (.cells #[.string ⟨#[]⟩, .string ⟨#[]⟩, .string ⟨#[]⟩, .string ⟨#[]⟩, .int .i64 0, .slice none 0 0, .slice none 0 0] 25) := ⟨_, rfl⟩
  have hbW : Below w.heap.size w W := by rw [hW]; exact (Below.refl _ w).alloc (Nat.le_refl _) _
  have hbx : BoxF W w.heap.size (.string ⟨#[]⟩) (.string ⟨#[]⟩) (.string ⟨#[]⟩) (.string ⟨#[]⟩) (.int .i64 0) (.slice none 0 0) (.slice none 0 0) := BoxF.of_block (t := 25) (by rw [hW]; exact heap_alloc_new w _)
  have hsW : W.heap.size = w.heap.size + 1 := by rw [hW]; simp
  have hrdW := hrd.below hbW
  have c0 := hrdW.cell
  have f0 := hrdW.fz
  obtain ⟨W1, hW1⟩ : ∃ W1, W1 = W.setCell ⟨g, 0, none⟩ (.int .i64 ((cnt : Int) + 1)) := ⟨_, rfl⟩
  have hrd1 : RdIs W1 g (cnt + 1) := by
   have := hrdW.set (cnt + 1)
   rw [hW1]
   exact this
  have hg1 : W.grownBy W1 (some g) := by rw [hW1]; exact grown_set W g 0 _
  have hgr1 : w.grownBy W1 (some g) := gM_tr (gM_of hbW) hg1
  have hbx1 : BoxF W1 w.heap.size (.string ⟨#[]⟩) (.string ⟨#[]⟩) (.string ⟨#[]⟩) (.string ⟨#[]⟩) (.int .i64 0) (.slice none 0 0) (.slice none 0 0) := by
   rw [hW1]
   exact hbx.setFar (by show g ≠ w.heap.size; omega) _
  have hs1 : W1.heap.size = w.heap.size + 1 := by rw [hW1, ← hsW]; simp [World.setCell]
  have d1 := hrd1.cell
  have HW := Lib.hid hW
  have HW1 := Lib.hid hW1
  have Hrd1 := Lib.hid hrd1
  have Hbx1 := Lib.hid hbx1
  have Hgr1 := Lib.hid hgr1
  have Hs1 := Lib.hid hs1
  have Hih := Lib.hid ih
  have hby1 : By W1 W1.heap.size A n b := SlS.change (S' := fun b => b < W1.heap.size) hb (fun b hb => by have := hb.1; omega) (fun q hq => World.cell?_of_block (hgr1.block _ hq.1 (fun e => hq.2 (by injection e))))
  have HB1 := Lib.hid hby1
  have HK : Hid (∀ X, Below W1.heap.size W1 X → BoxF X w.heap.size (.string ⟨#[]⟩) (.string ⟨#[]⟩) (.string ⟨#[]⟩) (.string ⟨#[]⟩) (.int .i64 0) (.slice none 0 0) (.slice none 0 0) ∧ RdIs X g (cnt + 1) ∧ w.grownBy X (some g)) := Lib.hid (fun X hX => ⟨hbx1.below hX (by omega), hrd1.below hX, gM_below hgr1 hX⟩)
  clear hW hrdW hbx hb hrd hW1 hrd1 hbx1 hgr1 hs1 hg1 hsW ih hby1
  by_cases h12 : 12 < cnt + 1
  · rw [if_pos h12] at hR
    have HR := Lib.hid hR
    have hc12 : 12 ≤ cnt := by omega
    have dc : decide ((12 : Int) < (cnt : Int) + 1) = true := by simp; omega
    clear hR h12
    go_enter Tryz.func22, Tryz.ntmps22
    go_upto_region 2 with fail
    rw [← HW.out]
    go_upto_region 3 with fail
    rw [← HW1.out]
    clear c0 f0
    go_wp2_with fail
    refine (rfail_any 2 _).mono ?_
    rintro e w2 ⟨rfl, hb2⟩
    obtain ⟨hbxF, hrdF, hgrF⟩ := HK.out _ hb2
    have hbx9 := BoxF.set7 (w := w2) (b := w.heap.size) hbxF (.string ⟨#[]⟩) (.string ⟨#[]⟩) (.string ⟨#[]⟩) (.string ⟨#[]⟩) (.int .i64 0) (.slice none 0 0) (.slice none 0 0)
    have hen9 := box_end hrdF hgl hgrF (.string ⟨#[]⟩) (.string ⟨#[]⟩) (.string ⟨#[]⟩) (.string ⟨#[]⟩) (.int .i64 0) (.slice none 0 0) (.slice none 0 0)
    have ⟨⟨z0, z1, z2, z3, z4, z5, z6⟩, zf⟩ := hbxF
    clear d1
    go_wp2_with fail
    generalize hw9 : (((((((w2.setCell ⟨w.heap.size, 0, none⟩ (.string ⟨#[]⟩)).setCell ⟨w.heap.size, 1, none⟩ (.string ⟨#[]⟩)).setCell ⟨w.heap.size, 2, none⟩ (.string ⟨#[]⟩)).setCell ⟨w.heap.size, 3, none⟩ (.string ⟨#[]⟩)).setCell ⟨w.heap.size, 4, none⟩ (.int .i64 0)).setCell ⟨w.heap.size, 5, none⟩ (.slice none 0 0)).setCell ⟨w.heap.size, 6, none⟩ (.slice none 0 0)) = w9 at hbx9 hen9 ⊢
    clear hw9
    obtain ⟨c0, c1, c2, c3, c4, c5, c6⟩ := hbx9
    obtain ⟨hr9, hg9, _⟩ := hen9
    refine bodyPost_ret (v := .tuple #[.agg #[.string ⟨#[]⟩, .string ⟨#[]⟩, .string ⟨#[]⟩, .string ⟨#[]⟩, .int .i64 0, .slice none 0 0, .slice none 0 0], .int .i64 (2 : Nat)]) (by simp [results, Tryz.results22, go_sem, c0, c1, c2, c3, c4, c5, c6]) rfl ?_
    rw [HR.out]
    exact ⟨_, _, _, _, _, _, _, rfl, zero_at _ _, hr9, hg9⟩
  · rw [if_neg h12] at hR
    have hc12 : cnt ≤ 11 := by omega
    have dc : decide ((12 : Int) < (cnt : Int) + 1) = false := by simp; omega
    have hl := HB1.out.len
    have hd3 : d ≤ 3 := by omega
    have hpa := Parse_fields b A n c W1 HB1.out hn (by unfold maxLen; omega)
    have hback := fun l k => @parse_back b l k
    obtain ⟨l, at_, pe, hP⟩ : ∃ l at_ pe, parseF b = (l, at_, pe) := ⟨_, _, _, rfl⟩
    rw [hP] at hpa hR hback
    simp only at hR
    have Hpa := Lib.hid hpa
    by_cases hpe : pe ≠ 0
    · rw [if_pos hpe] at hR
      have HR := Lib.hid hR
      have dpe : ((pe : Int) != 0) = true := by simp; omega
      clear hR h12 hpa hback hP hl hpe
      go_enter Tryz.func22, Tryz.ntmps22
      go_upto_region 2 with fail
      rw [← HW.out]
      go_upto_region 3 with fail
      rw [← HW1.out]
      clear c0 f0
      go_wp2_with fail
      refine Hpa.out.mono ?_
      rintro e wa ⟨S, cs, rfl, _, _, _, _, hba⟩
      go_wp2_with fail
      refine (rfail_any pe _).mono ?_
      rintro e w2 ⟨rfl, hb2⟩
      obtain ⟨hbxF, hrdF, hgrF⟩ := HK.out _ (hba.trans (hb2.mono hba.size))
      have hbx9 := BoxF.set7 (w := w2) (b := w.heap.size) hbxF (.string ⟨#[]⟩) (.string ⟨#[]⟩) (.string ⟨#[]⟩) (.string ⟨#[]⟩) (.int .i64 0) (.slice none 0 0) (.slice none 0 0)
      have hen9 := box_end hrdF hgl hgrF (.string ⟨#[]⟩) (.string ⟨#[]⟩) (.string ⟨#[]⟩) (.string ⟨#[]⟩) (.int .i64 0) (.slice none 0 0) (.slice none 0 0)
      have ⟨⟨z0, z1, z2, z3, z4, z5, z6⟩, zf⟩ := hbxF
      clear d1
      go_wp2_with fail
      generalize hw9 : (((((((w2.setCell ⟨w.heap.size, 0, none⟩ (.string ⟨#[]⟩)).setCell ⟨w.heap.size, 1, none⟩ (.string ⟨#[]⟩)).setCell ⟨w.heap.size, 2, none⟩ (.string ⟨#[]⟩)).setCell ⟨w.heap.size, 3, none⟩ (.string ⟨#[]⟩)).setCell ⟨w.heap.size, 4, none⟩ (.int .i64 0)).setCell ⟨w.heap.size, 5, none⟩ (.slice none 0 0)).setCell ⟨w.heap.size, 6, none⟩ (.slice none 0 0)) = w9 at hbx9 hen9 ⊢
      clear hw9
      obtain ⟨c0, c1, c2, c3, c4, c5, c6⟩ := hbx9
      obtain ⟨hr9, hg9, _⟩ := hen9
      refine bodyPost_ret (v := .tuple #[.agg #[.string ⟨#[]⟩, .string ⟨#[]⟩, .string ⟨#[]⟩, .string ⟨#[]⟩, .int .i64 0, .slice none 0 0, .slice none 0 0], .int .i64 (pe : Nat)]) (by simp [results, Tryz.results22, go_sem, c0, c1, c2, c3, c4, c5, c6]) rfl ?_
      rw [HR.out]
      exact ⟨_, _, _, _, _, _, _, rfl, zero_at _ _, hr9, hg9⟩
    · obtain rfl : pe = 0 := by omega
      rw [if_neg (by simp)] at hR
      obtain ⟨hchk, hatb, _, _⟩ := hback l at_ rfl
      obtain ⟨hl20, hok⟩ := chk_len hchk
      have hasc : ∀ f ∈ l, asciiL f.name := fun f hf => tok_asciiL (ok_field (hok f hf)).1
      have hval : ∀ nm, (getF l nm).length ≤ 900 ∧ ∀ x ∈ getF l nm, x.toNat < 128 := by
       intro nm
       have key : ∀ m : List FieldD, (∀ f ∈ m, okF f = true) → (getF m nm).length ≤ 900 ∧ ∀ x ∈ getF m nm, x.toNat < 128 := by
        intro m
        induction m with
        | nil => intro _; simp [getF]
        | cons f r ihr =>
         intro hm
         rw [getF]
         split
         · have hv := val_mem (ok_field (hm f (by simp))).2
           exact ⟨hv.1, fun x hx => by have := hv.2.2 x hx; omega⟩
         · exact ihr (fun f hf => hm f (by simp [hf]))
       exact key l hok
      have hget := fun (nm : List UInt8) (hnm : asciiL nm) (S : Option Addr) (cs B : Nat) (X : World) h hB => Get_ascii l nm S l.length cs B X h hB (by unfold maxLen; omega) hasc hnm
      have Hget := Lib.hid hget
      have Hval := Lib.hid hval
      have acl : asciiL ctN ∧ asciiL idN ∧ asciiL locN ∧ asciiL cteN ∧ asciiL boundN ∧ asciiL charsetN := by
       refine ⟨?_, ?_, ?_, ?_, ?_, ?_⟩ <;> exact ⟨by decide, by decide⟩
      have Hacl := Lib.hid acl
      have hty : tyM l = if getF l ctN = [] then [116, 101, 120, 116, 47, 112, 108, 97, 105, 110] else getF l ctN := rfl
      have htyl : (tyM l).length ≤ 900 := by
       rw [hty]
       split
       · decide
       · exact (hval ctN).1
      obtain ⟨ty, htyy⟩ : ∃ ty, ty = tyM l := ⟨_, rfl⟩
      rw [← htyy] at hR hty htyl
      have hpr := fun X => Params_any ty X (by unfold maxLen; omega)
      obtain ⟨main, ps, qe, hQ⟩ : ∃ main ps qe, paramsF ty = (main, ps, qe) := ⟨_, _, _, rfl⟩
      rw [hQ] at hpr hR
      simp only at hR
      have Hpr := Lib.hid hpr
      have Hty := Lib.hid hty
      have Hatb := Lib.hid hatb
      have HQ := Lib.hid hQ
      obtain ⟨e1, he1⟩ : ∃ e, e = (getF l ctN).isEmpty := ⟨_, rfl⟩
      have q1 : (getF l ctN).isEmpty = e1 := he1.symm
      have q2 : (getF l ctN == []) = e1 := by rw [he1]; cases getF l ctN <;> rfl
      have He1 := Lib.hid he1
      have hl20' : l.length ≤ 20 := hl20
      have hat2 : at_ ≤ n := by omega
      have HR0 := Lib.hid hR
      clear hR h12 hpa hback hP hl hpe hchk hok hasc hget hval acl hty htyy hpr hQ he1 hatb hl20
      go_enter Tryz.func22, Tryz.ntmps22
      go_upto_region 2 with fail
      rw [← HW.out]
      go_upto_region 3 with fail
      rw [← HW1.out]
      clear c0 f0
      go_wp2_with fail
      refine Hpa.out.mono ?_
      rintro e wa ⟨S, cs, rfl, hsl, _, hlc, hcm, hba⟩
      have hg1 := Hget.out ctN Hacl.out.1 S cs wa.heap.size wa hsl (Nat.le_refl _)
      have Hg1 := Lib.hid hg1
      have Hsl := Lib.hid hsl
      simp only at hlc
      clear hg1 hsl
      go_wp2_with fail
      refine Hg1.out.mono ?_
      rintro e wb ⟨rfl, hbb⟩
      have hbab := hba.trans (hbb.mono hba.size)
      go_upto_if 57 with (fail)
      go_cut [12] from 56 to 57 (fun s12 wx => s12 = str ty ∧ wb = wx)
      case first =>
       have hty := Hty.out
       by_cases h0 : getF l ctN = []
       · obtain rfl : e1 = true := by rw [He1.out, h0]; rfl
         rw [if_pos h0] at hty
         have HT := Lib.hid hty
         clear hty h0
         go_wp2_with fail
         go_meet
         exact ⟨by rw [HT.out]; rfl, rfl⟩
       · obtain rfl : e1 = false := by rw [He1.out]; cases h : getF l ctN with | nil => exact absurd h h0 | cons _ _ => rfl
         rw [if_neg h0] at hty
         have HT := Lib.hid hty
         clear hty h0
         go_wp2_with fail
         go_meet
         exact ⟨by rw [HT.out], rfl⟩
      case rest =>
       obtain ⟨rfl, hwc⟩ := hcut
       subst hwc
       go_wp2_with fail
       refine (Hpr.out _).mono ?_
       rintro e wd ⟨S2, cs2, rfl, hsl2, hsm2, hlc2, hcm2, hbd⟩
       simp only at hsm2
       simp only at hlc2 hsl2
       have hbad := hbab.trans (hbd.mono hbab.size)
       have hR := HR0.out
       by_cases hqe : qe ≠ 0
       · rw [if_pos hqe] at hR
         have HR := Lib.hid hR
         have dqe : ((qe : Int) != 0) = true := by simp; omega
         clear hR hqe hsl2
         go_wp2_with fail
         refine (rfail_any qe _).mono ?_
         rintro e w2 ⟨rfl, hb2⟩
         obtain ⟨hbxF, hrdF, hgrF⟩ := HK.out _ (hbad.trans (hb2.mono hbad.size))
         have hbx9 := BoxF.set7 (w := w2) (b := w.heap.size) hbxF (.string ⟨#[]⟩) (.string ⟨#[]⟩) (.string ⟨#[]⟩) (.string ⟨#[]⟩) (.int .i64 0) (.slice none 0 0) (.slice none 0 0)
         have hen9 := box_end hrdF hgl hgrF (.string ⟨#[]⟩) (.string ⟨#[]⟩) (.string ⟨#[]⟩) (.string ⟨#[]⟩) (.int .i64 0) (.slice none 0 0) (.slice none 0 0)
         have ⟨⟨z0, z1, z2, z3, z4, z5, z6⟩, zf⟩ := hbxF
         clear d1
         go_wp2_with fail
         generalize hw9 : (((((((w2.setCell ⟨w.heap.size, 0, none⟩ (.string ⟨#[]⟩)).setCell ⟨w.heap.size, 1, none⟩ (.string ⟨#[]⟩)).setCell ⟨w.heap.size, 2, none⟩ (.string ⟨#[]⟩)).setCell ⟨w.heap.size, 3, none⟩ (.string ⟨#[]⟩)).setCell ⟨w.heap.size, 4, none⟩ (.int .i64 0)).setCell ⟨w.heap.size, 5, none⟩ (.slice none 0 0)).setCell ⟨w.heap.size, 6, none⟩ (.slice none 0 0)) = w9 at hbx9 hen9 ⊢
         clear hw9
         obtain ⟨c0, c1, c2, c3, c4, c5, c6⟩ := hbx9
         obtain ⟨hr9, hg9, _⟩ := hen9
         refine bodyPost_ret (v := .tuple #[.agg #[.string ⟨#[]⟩, .string ⟨#[]⟩, .string ⟨#[]⟩, .string ⟨#[]⟩, .int .i64 0, .slice none 0 0, .slice none 0 0], .int .i64 (qe : Nat)]) (by simp [results, Tryz.results22, go_sem, c0, c1, c2, c3, c4, c5, c6]) rfl ?_
         rw [HR.out]
         exact ⟨_, _, _, _, _, _, _, rfl, zero_at _ _, hr9, hg9⟩
       · obtain rfl : qe = 0 := by omega
         rw [if_neg (by simp)] at hR
         have HR1 := Lib.hid hR
         have Hsl2 := Lib.hid hsl2
         clear hR hsl2 hqe
         obtain ⟨hpn, hml⟩ := params_names HQ.out
         have Hpn := Lib.hid hpn
         clear hpn
         have hsw1 : w.heap.size + 1 ≤ W1.heap.size := Nat.le_of_eq Hs1.out.symm
         have hszd : w.heap.size + 1 ≤ wd.heap.size := Nat.le_trans hsw1 hbad.size
         have hg2 := Hget.out idN Hacl.out.2.1 S cs wd.heap.size wd ((Hsl.out.below (hbb.trans (hbd.mono hbb.size))).more ((hbb.trans (hbd.mono hbb.size)).size)) (Nat.le_refl _)
         have Hg2 := Lib.hid hg2
         have hidv := (Hval.out idN).1
         have hlcv := (Hval.out locN).1
         obtain ⟨gi, hgi⟩ : ∃ x, x = getF l idN := ⟨_, rfl⟩
         obtain ⟨lv, hlv⟩ : ∃ x, x = getF l locN := ⟨_, rfl⟩
         obtain ⟨iv, hiv⟩ : ∃ x, x = idM gi := ⟨_, rfl⟩
         have hlvl : lv.length ≤ 900 := by rw [hlv]; exact hlcv
         have hivl : iv.length ≤ 900 := by
          rw [hiv, hgi]
          unfold idM
          split
          · rw [List.length_drop, List.length_take]; omega
          · exact hidv
         have hidc := fun X => id_any gi X (by rw [hgi]; omega)
         rw [← hgi] at Hg2
         rw [← hiv] at hidc
         have Hidc := Lib.hid hidc
         have Hgi := Lib.hid hgi
         have Hlv := Lib.hid hlv
         have Hiv := Lib.hid hiv
         clear hg2 hidv hgi hlv hiv hidc
         go_wp2_with fail
         refine Hg2.out.mono ?_
         rintro e we ⟨rfl, hbe⟩
         go_wp2_with fail
         refine (Hidc.out _).mono ?_
         rintro e wf ⟨rfl, rfl⟩
         have hbae := hbad.trans (hbe.mono hbad.size)
         have hbsl := hbb.trans ((hbd.trans (hbe.mono hbd.size)).mono hbb.size)
         have hg3 := Hget.out locN Hacl.out.2.2.1 S cs we.heap.size we ((Hsl.out.below hbsl).more hbsl.size) (Nat.le_refl _)
         rw [← Hlv.out] at hg3
         have Hg3 := Lib.hid hg3
         clear hg3
         go_wp2_with fail
         refine Hg3.out.mono ?_
         rintro e wg ⟨rfl, hbg⟩
         have hbag := hbae.trans (hbg.mono hbae.size)
         have hbsg := hbsl.trans (hbg.mono hbsl.size)
         have hbs2 := hbe.trans (hbg.mono hbe.size)
         obtain ⟨V, hV⟩ : ∃ V, V = wg.alloc (.cells #[str main, .string ⟨#[]⟩, str iv, str lv, .int .i64 0, .slice none 0 0, .slice none 0 0] 25) := ⟨_, rfl⟩
         have hbV : Below wg.heap.size wg V := by rw [hV]; exact (Below.refl _ wg).alloc (Nat.le_refl _) _
         have hbxV : BoxF V wg.heap.size (str main) (.string ⟨#[]⟩) (str iv) (str lv) (.int .i64 0) (.slice none 0 0) (.slice none 0 0) := BoxF.of_block (t := 25) (by rw [hV]; exact heap_alloc_new wg _)
         have hszV : V.heap.size = wg.heap.size + 1 := by rw [hV]; simp
         have hbaV := hbag.trans (hbV.mono hbag.size)
         have hbsV := hbsg.trans (hbV.mono hbsg.size)
         have hbs2V := hbs2.trans (hbV.mono hbs2.size)
         have hszg : w.heap.size + 1 ≤ wg.heap.size := Nat.le_trans hsw1 hbag.size
         have hw1g : W1.heap.size ≤ wg.heap.size := hbag.size
         have hwag : wa.heap.size ≤ wg.heap.size := hbsg.size
         have hma := Many_any main V
         have HV := Lib.hid hV
         have HbxV := Lib.hid hbxV
         clear hbe hbg hV hbV hbae hbag hbsl hbsg hbs2 hbxV
         have hR1 := HR1.out
         by_cases hmn : manyB main = true
         · rw [hmn] at hma hR1
           rw [if_pos rfl] at hR1
           have HR2 := Lib.hid hR1
           have Hma := Lib.hid hma
           have hgb := Get_ascii ps boundN S2 ps.length cs2 V.heap.size V ((Hsl2.out.below hbs2V).more hbs2V.size) (Nat.le_refl _) (Nat.le_trans hlc2 hcm2) Hpn.out Hacl.out.2.2.2.2.1
           have hbl : (getF ps boundN).length ≤ maxLen := by
            have key : ∀ m : List FieldD, smallF m → (getF m boundN).length ≤ maxLen := by
             intro m
             induction m with
             | nil => intro _; simp [getF]
             | cons f r ihr =>
              intro hm
              rw [getF]
              split
              · exact (hm f (by simp)).2
              · exact ihr (fun f hf => hm f (by simp [hf]))
            exact key ps hsm2
           have hmy : manyM k cnt l (b.drop at_) main ps = if (splitM (b.drop at_) (getF ps boundN)).2 ≠ 0 then (zeroPD, cnt + 1, (splitM (b.drop at_) (getF ps boundN)).2)
            else if (eachM (partM k) (splitM (b.drop at_) (getF ps boundN)).1 (cnt + 1) []).2.2 ≠ 0 then (zeroPD, (eachM (partM k) (splitM (b.drop at_) (getF ps boundN)).1 (cnt + 1) []).2.1, (eachM (partM k) (splitM (b.drop at_) (getF ps boundN)).1 (cnt + 1) []).2.2)
            else (⟨main, [], idM (getF l idN), getF l locN, 0, [], (eachM (partM k) (splitM (b.drop at_) (getF ps boundN)).1 (cnt + 1) []).1⟩, (eachM (partM k) (splitM (b.drop at_) (getF ps boundN)).1 (cnt + 1) []).2.1, 0) := rfl
           obtain ⟨bv, hbv⟩ : ∃ x, x = getF ps boundN := ⟨_, rfl⟩
           rw [← hbv] at hgb hbl hmy
           have hspl : ∀ x ∈ (splitM (b.drop at_) bv).1, x.length ≤ 40000 := split_small (b.drop at_) bv (by rw [List.length_drop]; omega)
           have hspn := split_many (b.drop at_) bv (by rw [List.length_drop]; omega)
           obtain ⟨L, se, hSp⟩ : ∃ L se, splitM (b.drop at_) bv = (L, se) := ⟨_, _, rfl⟩
           rw [hSp] at hmy hspl hspn
           have hbyr : ∀ X, Below W1.heap.size W1 X → By X X.heap.size (cutA A c at_ 1) (n - at_) (b.drop at_) := fun X hX => ((HB1.out.below hX).more hX.size).cut (k := at_) (c := c) hat2 hn
           have hsp := fun X (hX : Below W1.heap.size W1 X) => Split_any (b.drop at_) bv (cutA A c at_ 1) (n - at_) (c - at_) X (hbyr X hX) (by omega) (by omega) hbl
           rw [hSp] at hsp
           have hgbq := fun X (hX : Below V.heap.size V X) => Get_ascii ps boundN S2 ps.length cs2 V.heap.size X (((Hsl2.out.below hbs2V).more hbs2V.size).below hX) hX.size (Nat.le_trans hlc2 hcm2) Hpn.out Hacl.out.2.2.2.2.1
           rw [← hbv] at hgbq
           have Hmy := Lib.hid hmy
           have Hsp := Lib.hid hsp
           have Hgb := Lib.hid hgbq
           have Hspl := Lib.hid hspl
           have hspn' : L.length ≤ 40000 := hspn
           clear hR1 hma hgb hmy hbv hspl hspn hbyr hsp hgbq hmn hSp hbl
           go_wp2_with fail
           rw [← HV.out]
           refine Hma.out.mono ?_
           rintro e wh ⟨rfl, rfl⟩
           go_upto_region 21 with fail
           have e0 : (0 : Int) ≤ (at_ : Int) := by omega
           have e1 : (at_ : Int) ≤ n := by omega
           go_cut [11, 16] from 104 to 112 (fun s11 s16 wx => ∃ S7 c7 vs7 v7, s11 = .int .i64 (se : Nat) ∧ s16 = .slice S7 L.length c7 ∧ SlS (fun q => V.heap.size ≤ q ∧ q < wx.heap.size) wx 1 S7 L.length vs7 ∧ SpRow V.heap.size wx v7 vs7 L ∧ Below V.heap.size V wx)
           case first =>
            refine wp_region_held (S := AnyW) (by kernel_rfl) ?_
            change wpAnyH _ _ _ _ _ _ _ _ (World.drew V)
            have hgD := Hgb.out (World.drew V) (Below.refl _ V).drew
            refine wpAnyH_take (i := 0) (v := ?_) rfl (by kernel_rfl) (by kernel_rfl) (by kernel_rfl) (fun _ _ _ h => h) (Or.inl ⟨by kernel_rfl, ?_⟩) (anyW _) ?_
            rotate_left 1
            · intro W' hb'; go_simp; try exact rfl
            refine wpAnyH_take (i := 1) (v := ?_) rfl (by kernel_rfl) (by kernel_rfl) (by kernel_rfl) (fun _ _ _ h => h) (Or.inl ⟨by kernel_rfl, ?_⟩) (anyW _) ?_
            rotate_left 1
            · intro W' hb'; go_simp; try exact rfl
            refine wpAnyH_take (i := 2) (v := ?_) rfl (by kernel_rfl) (by kernel_rfl) (by kernel_rfl) (fun _ _ _ h => h) (Or.inl ⟨by kernel_rfl, ?_⟩) (anyW _) ?_
            rotate_left 1
            · intro W' hb'; go_simp; try exact rfl
            refine wpAnyH_take (i := 3) (v := ?_) rfl (by kernel_rfl) (by kernel_rfl) (by kernel_rfl) (fun _ _ _ h => h) (Or.inl ⟨by kernel_rfl, ?_⟩) (anyW _) ?_
            rotate_left 1
            · intro W' hb'; go_simp; try exact rfl
            refine wpAnyH_all (rs := [4]) (by kernel_rfl) (by simp) ?_
            intro kk hkk
            simp only [List.mem_singleton] at hkk
            subst hkk
            go_simp
            refine wpM_callF rfl (by kernel_rfl) 62 #[.slice S2 ps.length cs2, .string ⟨#[98, 111, 117, 110, 100, 97, 114, 121]⟩] (by go_simp; try rfl) _ _ hgD ?_
            intro wk hbk
            have hbk2 : Below V.heap.size V wk := (Below.refl V.heap.size V).drew.trans hbk
            have hbaK := hbaV.trans (hbk2.mono hbaV.size)
            refine ⟨anyW _, ?_⟩
            refine wpAnyH_all (rs := [5]) (by kernel_rfl) (by simp) ?_
            intro kk hkk
            simp only [List.mem_singleton] at hkk
            subst hkk
            go_simp
            refine wpM_callP rfl (by kernel_rfl) 5 #[.slice (cutA A c at_ 1) (n - at_) (c - at_), str bv] (by go_simp; try rfl) _ (Hsp.out wk hbaK) ?_
            rintro e wm ⟨S7, c7, vs7, v7, rfl, hs7, hr7, hbm⟩
            have hbm2 := hbk2.trans (hbm.mono hbk2.size)
            have hfin : Hid (SlS (fun q => V.heap.size ≤ q ∧ q < wm.heap.size) wm 1 S7 L.length vs7 ∧ SpRow V.heap.size wm v7 vs7 L ∧ Below V.heap.size V wm) :=
             Lib.hid ⟨SlS.change hs7 (fun q hq => ⟨Nat.le_trans hbk2.size hq.1, hq.2⟩) (fun _ _ => rfl), hr7.mono hbk2.size, hbm2⟩
            clear hs7 hr7 hbm hbm2 hbk hbk2 hbaK
            refine ⟨_, rfl, anyW _, ?_⟩
            refine wpAnyH_take (i := 6) (v := ?_) rfl (by kernel_rfl) (by kernel_rfl) (by kernel_rfl) (fun _ _ _ h => h) (Or.inl ⟨by kernel_rfl, ?_⟩) (anyW _) ?_
            rotate_left 1
            · intro W' hb'; go_simp; try exact rfl
            refine wpAnyH_take (i := 7) (v := ?_) rfl (by kernel_rfl) (by kernel_rfl) (by kernel_rfl) (fun _ _ _ h => h) (Or.inl ⟨by kernel_rfl, ?_⟩) (anyW _) ?_
            rotate_left 1
            · intro W' hb'; go_simp; try exact rfl
            refine wpAnyH_take (i := 8) (v := ?_) rfl (by kernel_rfl) (by kernel_rfl) (by kernel_rfl) (fun _ _ _ h => h) (Or.inl ⟨by kernel_rfl, ?_⟩) (anyW _) ?_
            rotate_left 1
            · intro W' hb'; go_simp; try exact rfl
            refine wpAnyH_take (i := 9) (v := ?_) rfl (by kernel_rfl) (by kernel_rfl) (by kernel_rfl) (fun _ _ _ h => h) (Or.inl ⟨by kernel_rfl, ?_⟩) (anyW _) ?_
            rotate_left 1
            · intro W' hb'; go_simp; try exact rfl
            refine wpAnyH_take (i := 10) (v := ?_) rfl (by kernel_rfl) (by kernel_rfl) (by kernel_rfl) (fun _ _ _ h => h) (Or.inl ⟨by kernel_rfl, ?_⟩) (anyW _) ?_
            rotate_left 1
            · intro W' hb'; go_simp; try exact rfl
            refine wpAnyH_done (by kernel_rfl) ?_ _
            go_simp
            go_wp2_with fail
            go_meet
            exact ⟨S7, c7, vs7, v7, rfl, rfl, hfin.out⟩
           case rest =>
            obtain ⟨S7, c7, vs7, v7, rfl, rfl, hs7, hr7, hb7⟩ := hcut
            obtain ⟨wS, rfl⟩ : ∃ x, x = wc := ⟨_, rfl⟩
            have hbaS := hbaV.trans (hb7.mono hbaV.size)
            have hmy := Hmy.out
            by_cases hse : se ≠ 0
            · rw [if_pos hse] at hmy
              have hR := HR2.out.trans hmy
              have HR := Lib.hid hR
              have dse : ((se : Int) != 0) = true := by simp; omega
              clear hmy hR hse hs7 hr7
              go_wp2_with fail
              refine (rfail_any se _).mono ?_
              rintro e w2 ⟨rfl, hb2⟩
              obtain ⟨hbxF, hrdF, hgrF⟩ := HK.out _ (hbaS.trans (hb2.mono hbaS.size))
              have hbx9 := BoxF.set7 (w := w2) (b := w.heap.size) hbxF (.string ⟨#[]⟩) (.string ⟨#[]⟩) (.string ⟨#[]⟩) (.string ⟨#[]⟩) (.int .i64 0) (.slice none 0 0) (.slice none 0 0)
              have hen9 := box_end hrdF hgl hgrF (.string ⟨#[]⟩) (.string ⟨#[]⟩) (.string ⟨#[]⟩) (.string ⟨#[]⟩) (.int .i64 0) (.slice none 0 0) (.slice none 0 0)
              have ⟨⟨z0, z1, z2, z3, z4, z5, z6⟩, zf⟩ := hbxF
              go_wp2_with fail
              generalize hw9 : (((((((w2.setCell ⟨w.heap.size, 0, none⟩ (.string ⟨#[]⟩)).setCell ⟨w.heap.size, 1, none⟩ (.string ⟨#[]⟩)).setCell ⟨w.heap.size, 2, none⟩ (.string ⟨#[]⟩)).setCell ⟨w.heap.size, 3, none⟩ (.string ⟨#[]⟩)).setCell ⟨w.heap.size, 4, none⟩ (.int .i64 0)).setCell ⟨w.heap.size, 5, none⟩ (.slice none 0 0)).setCell ⟨w.heap.size, 6, none⟩ (.slice none 0 0)) = w9 at hbx9 hen9 ⊢
              clear hw9
              obtain ⟨c0, c1, c2, c3, c4, c5, c6⟩ := hbx9
              obtain ⟨hr9, hg9, _⟩ := hen9
              refine bodyPost_ret (v := .tuple #[.agg #[.string ⟨#[]⟩, .string ⟨#[]⟩, .string ⟨#[]⟩, .string ⟨#[]⟩, .int .i64 0, .slice none 0 0, .slice none 0 0], .int .i64 (se : Nat)]) (by simp [results, Tryz.results22, go_sem, c0, c1, c2, c3, c4, c5, c6]) rfl ?_
              rw [HR.out]
              exact ⟨_, _, _, _, _, _, _, rfl, zero_at _ _, hr9, hg9⟩
            · obtain rfl : se = 0 := by omega
              rw [if_neg (by simp)] at hmy
              have Hmy2 := Lib.hid hmy
              clear hmy hse
              obtain ⟨hbxR, hrdR, hgrR⟩ := HK.out wS hbaS
              have hbxS := HbxV.out.below hb7 (by omega)
              have hszS : V.heap.size ≤ wS.heap.size := hb7.size
              obtain ⟨E, hE⟩ : ∃ E, E = eachM (partM k) L (cnt + 1) [] := ⟨_, rfl⟩
              have hmy3 := Hmy2.out
              rw [← hE] at hmy3
              have Hmy3 := Lib.hid hmy3
              have HE := Lib.hid hE
              have Hs7 := Lib.hid hs7
              have Hr7 := Lib.hid hr7
              have Hini := Lib.hid (And.intro hbxS (And.intro hrdR (And.intro hbxR hgrR)))
              clear hmy3 hE hs7 hr7 hbxS hrdR hbxR hgrR
              go_wp2_with fail
              go_loopw [7, 122] (ReRel w wS g wg.heap.size k main iv lv L E) (fun _ vi _ => L.length - (intOf vi).toNat)
              case atStart =>
               obtain ⟨i1, i2, i3, i4⟩ := Hini.out
               exact ⟨0, 0, 0, none, [], [], cnt + 1, rfl, rfl, Nat.zero_le _, Nat.le_refl _, Nat.le_refl _, Nat.zero_le _, i1, World.ownsRow_nil _ _ _ _, rfl, i2, by omega, i3, i4, ⟨Nat.le_refl _, fun _ _ _ _ => rfl⟩, HE.out.symm⟩
              case round =>
               obtain ⟨i, m, cs6, S6, rows, out, cn, rfl, rfl, hi, hmi, hmc, hcm6, hbxP, hown, hrows, hrdr, hcn, hbxr, hgrr, hkp, hEE⟩ := hrel
               by_cases hin : i < L.length
               · obtain ⟨x, hx⟩ : ∃ x, L.drop i = x :: L.drop (i + 1) := ⟨L[i], List.drop_eq_getElem_cons hin⟩
                 have hxi : L[i]? = some x := by rw [← List.head?_drop, hx]; rfl
                 obtain ⟨A8, d8, hv8, hs8, hd8, hm8⟩ := Hr7.out.2 i x hxi
                 obtain ⟨bS, offS, hS7, hbS, hcS⟩ := Hs7.out.2 (by omega)
                 subst hS7
                 have hneS : bS ≠ g ∧ bS ≠ wg.heap.size := ⟨by have := hbS.1; omega, by have := hbS.1; omega⟩
                 have k0 : wr.cell? ⟨bS, offS + i, none⟩ = some (.slice A8 x.length d8) := (World.cell?_of_block (a := ⟨bS, offS + i, none⟩) (hkp.2 bS hbS.2 hneS.1 hneS.2)).trans (hcS i _ hv8)
                 have hxl := Hspl.out x (List.mem_of_mem_drop (i := i) (by rw [hx]; simp))
                 have hbx8 : SlS (fun bl => bl < wr.heap.size ∧ bl ≠ g) wr 1 A8 x.length (Lib.byteCells x) := SlS.change hs8 (fun q hq => ⟨by have := hq.2.1; have := hkp.1; omega, by have := hq.1; omega⟩) (fun q hq => World.cell?_of_block (hkp.2 _ hq.2.1 (by have := hq.1; omega) (by have := hq.1; omega)))
                 have hrec := Hih.out x A8 x.length d8 g cn (d + 1) wr (by omega) (by omega) hbx8 hd8 hm8 hxl hcn hrdr
                 have hcnt2 := partM_cnt k cn x
                 have hEE2 := hEE.out
                 rw [hx, eachM] at hEE2
                 obtain ⟨q, cn2, qe, hr⟩ : ∃ q cn2 qe, partM k cn x = (q, cn2, qe) := ⟨_, _, _, rfl⟩
                 rw [hr] at hrec hcnt2 hEE2
                 simp only at hcnt2 hEE2
                 have Hrec := Lib.hid hrec
                 have HE2 := Lib.hid hEE2
                 have Hcnt2 := Lib.hid hcnt2
                 have hltr := hbxr.lt_
                 have hltp := hbxP.lt_
                 have Hst := Lib.hid (And.intro hbxP (And.intro hown (And.intro hrows (And.intro hbxr (And.intro hgrr hkp)))))
                 have hszr := hkp.1
                 clear hx hxi hv8 hs8 hbS hcS hneS hbx8 hrec hcnt2 hEE2 hEE hr hbxP hown hrows hbxr hgrr hkp hrdr
                 go_wp2_with fail
                 refine Hrec.out.mono ?_
                 rintro e w1 ⟨v0, v1, v2, v3, v4, v5, v6, rfl, hpt, hrd1, hg1⟩
                 obtain ⟨Aq, cq, Aq2, cq2, hvq, _⟩ := hpt.open
                 injection hvq with h0 hvq
                 injection hvq with h1 hvq
                 injection hvq with h2 hvq
                 injection hvq with h3 hvq
                 injection hvq with h4 hvq
                 injection hvq with h5 hvq
                 injection hvq with h6 _
                 subst h0; subst h1; subst h2; subst h3; subst h4; subst h5; subst h6
                 simp only at hpt hrd1
                 obtain ⟨nq1, hnq1⟩ : ∃ y, y = q.body.length := ⟨_, rfl⟩
                 obtain ⟨nq2, hnq2⟩ : ∃ y, y = q.parts.length := ⟨_, rfl⟩
                 rw [← hnq1, ← hnq2] at hpt ⊢
                 obtain ⟨hbxP, hown, hrows, hbxr, hgrr, hkp⟩ := Hst.out
                 have hbxP1 := hbxP.same_ (hg1.block _ hltp (by intro e; injection e with e; omega))
                 have hbxr1 := hbxr.same_ (hg1.block _ hltr (by intro e; injection e with e; omega))
                 have hgr1' := gM_tr hgrr hg1
                 have hown1 := hown.kept hg1 (.inr (by intro e; have := (hown.lt _ e).1; omega))
                 have hrows1 : PartsAt (NewB wS.heap.size (.slice S6 m cs6) w1) w1 out rows := PartsAt.change (fun z hz => ⟨hz.1, Nat.lt_of_lt_of_le hz.2.1 hg1.size, hz.2.2⟩) (fun z hz => World.cell?_of_block (hg1.block _ hz.2.1 (by intro e; injection e with e; have := hz.1; omega))) _ _ hrows
                 have hkp1 : KeptB g wg.heap.size wS w1 := ⟨Nat.le_trans hkp.1 hg1.size, fun j hj h1 h2 => (hg1.block j (Nat.lt_of_lt_of_le hj hkp.1) (by intro e; injection e with e; exact h1 e)).trans (hkp.2 j hj h1 h2)⟩
                 have hsz1 : wr.heap.size ≤ w1.heap.size := hg1.size
                 obtain ⟨W2, hW2⟩ : ∃ W2, W2 = w1.alloc (.cells #[str q.type, str q.cs, str q.id, str q.loc, .int .i64 q.how, .slice Aq nq1 cq, .slice Aq2 nq2 cq2] 25) := ⟨_, rfl⟩
                 have hb2 : Below w1.heap.size w1 W2 := by rw [hW2]; exact (Below.refl _ w1).alloc (Nat.le_refl _) _
                 have hsz2 : W2.heap.size = w1.heap.size + 1 := by rw [hW2]; simp
                 have hbxK : Box7 W2 w1.heap.size (str q.type) (str q.cs) (str q.id) (str q.loc) (.int .i64 q.how) (.slice Aq nq1 cq) (.slice Aq2 nq2 cq2) := by rw [hW2]; exact Box7.new w1 _ _ _ _ _ _ _ _
                 have hbxP2 := hbxP1.below hb2 (by omega)
                 have hbxr2 := hbxr1.below hb2 (by omega)
                 have hrd2 := hrd1.below hb2
                 have hgr2' := gM_below hgr1' hb2
                 have HW2 := Lib.hid hW2
                 have hn12 := Lib.hid (And.intro hnq1 hnq2)
                 by_cases hqe : qe ≠ 0
                 · have hEv := HE2.out
                   rw [if_neg hqe] at hEv
                   have hmy3 := Hmy3.out
                   rw [← hEv] at hmy3
                   rw [if_pos hqe] at hmy3
                   have hR := HR2.out.trans hmy3
                   have HR := Lib.hid hR
                   have dqe2 : ((qe : Int) != 0) = true := by simp; omega
                   have Hx2 := Lib.hid (And.intro hbxr2 (And.intro hrd2 hgr2'))
                   clear hEv hmy3 hR hqe hbxP hown hrows hbxr hgrr hkp hbxP1 hbxr1 hgr1' hown1 hrows1 hkp1 hb2 hbxK hbxP2 hbxr2 hrd2 hgr2' hpt hrd1 hg1 hW2 hnq1 hnq2
                   go_wp2_with fail
                   rw [← HW2.out]
                   refine (rfail_any qe _).mono ?_
                   rintro e w2 ⟨rfl, hbf⟩
                   have hbxF := Hx2.out.1.below hbf (by omega)
                   have hrdF := Hx2.out.2.1.below hbf
                   have hgrF := gM_below Hx2.out.2.2 hbf
                   have hbx9 := BoxF.set7 (w := w2) (b := w.heap.size) hbxF (.string ⟨#[]⟩) (.string ⟨#[]⟩) (.string ⟨#[]⟩) (.string ⟨#[]⟩) (.int .i64 0) (.slice none 0 0) (.slice none 0 0)
                   have hen9 := box_end hrdF hgl hgrF (.string ⟨#[]⟩) (.string ⟨#[]⟩) (.string ⟨#[]⟩) (.string ⟨#[]⟩) (.int .i64 0) (.slice none 0 0) (.slice none 0 0)
                   have ⟨⟨z0, z1, z2, z3, z4, z5, z6⟩, zf⟩ := hbxF
                   go_wp2_with fail
                   generalize hw9 : (((((((w2.setCell ⟨w.heap.size, 0, none⟩ (.string ⟨#[]⟩)).setCell ⟨w.heap.size, 1, none⟩ (.string ⟨#[]⟩)).setCell ⟨w.heap.size, 2, none⟩ (.string ⟨#[]⟩)).setCell ⟨w.heap.size, 3, none⟩ (.string ⟨#[]⟩)).setCell ⟨w.heap.size, 4, none⟩ (.int .i64 0)).setCell ⟨w.heap.size, 5, none⟩ (.slice none 0 0)).setCell ⟨w.heap.size, 6, none⟩ (.slice none 0 0)) = w9 at hbx9 hen9 ⊢
                   clear hw9
                   obtain ⟨c0, c1, c2, c3, c4, c5, c6⟩ := hbx9
                   obtain ⟨hr9, hg9, _⟩ := hen9
                   refine bodyPost_ret (v := .tuple #[.agg #[.string ⟨#[]⟩, .string ⟨#[]⟩, .string ⟨#[]⟩, .string ⟨#[]⟩, .int .i64 0, .slice none 0 0, .slice none 0 0], .int .i64 (qe : Nat)]) (by simp [results, Tryz.results22, go_sem, c0, c1, c2, c3, c4, c5, c6]) rfl ?_
                   rw [HR.out]
                   exact ⟨_, _, _, _, _, _, _, rfl, zero_at _ _, hr9, hg9⟩
                 · obtain rfl : qe = 0 := by omega
                   have hEv := HE2.out
                   rw [if_pos rfl] at hEv
                   have hEv' := Lib.hid hEv
                   have hcn2 : cn2 ≤ 12 := Hcnt2.out rfl
                   obtain ⟨W3, hW3⟩ : ∃ W3, W3 = W2.alloc (.cells #[str q.type, str q.cs, str q.id, str q.loc, .int .i64 q.how, .slice Aq nq1 cq, .slice Aq2 nq2 cq2] 25) := ⟨_, rfl⟩
                   have hb3 : Below W2.heap.size W2 W3 := by rw [hW3]; exact (Below.refl _ W2).alloc (Nat.le_refl _) _
                   have hsz3 : W3.heap.size = W2.heap.size + 1 := by rw [hW3]; simp
                   have hb13 : Below w1.heap.size w1 W3 := hb2.trans (hb3.mono hb2.size)
                   have hrow3 : Sl W3 W3.heap.size 7 (some ⟨W2.heap.size, 0, none⟩) 1 [str q.type, str q.cs, str q.id, str q.loc, .int .i64 q.how, .slice Aq nq1 cq, .slice Aq2 nq2 cq2] := by
                    rw [hW3]
                    exact (Sl.row W2 25 7 1 _ rfl).more (by simp)
                   have hown3 := own_below hown1 hb13
                   have hbxP3 := hbxP2.below hb3 (by omega)
                   have hbxr3 := hbxr2.below hb3 (by omega)
                   have hrd3 := hrd2.below hb3
                   have hgr3 := gM_below hgr2' hb3
                   have hrows3 : PartsAt (NewB wS.heap.size (.slice S6 m cs6) W3) W3 out rows := PartsAt.change (fun z hz => ⟨hz.1, Nat.lt_of_lt_of_le hz.2.1 hb13.size, hz.2.2⟩) (fun z hz => hb13.cell hz.2.1) _ _ hrows1
                   have hkp3 : KeptB g wg.heap.size wS W3 := ⟨Nat.le_trans hkp1.1 hb13.size, fun j hj h1 h2 => (hb13.block j (Nat.lt_of_lt_of_le hj hkp1.1)).trans (hkp1.2 j hj h1 h2)⟩
                   have hpt3 : PartAt (NewB wS.heap.size (.slice S6 m cs6) W3) W3 q [str q.type, str q.cs, str q.id, str q.loc, .int .i64 q.how, .slice Aq nq1 cq, .slice Aq2 nq2 cq2] := PartAt.change (fun z hz => ⟨by have := hz.1; omega, Nat.lt_of_lt_of_le hz.2 hb13.size, by intro e; have := (hown.lt _ e).2; have := hz.1; omega⟩) (fun z hz => hb13.cell hz.2) _ _ hpt
                   have hone := hpt3.one
                   have hsS3 : wS.heap.size ≤ W3.heap.size := hkp3.1
                   have hltg : wg.heap.size < wS.heap.size := by omega
                   have HW3 := Lib.hid hW3
                   have Hone := Lib.hid hone
                   have Hsv := Lib.hid (And.intro hbxP3 (And.intro hbxr3 (And.intro hrd3 (And.intro hgr3 (And.intro hrows3 (And.intro hkp3 hpt3))))))
                   have ⟨⟨x0, x1, x2, x3, x4, x5, x6⟩, xf⟩ := hbxP2
                   have ⟨y0, y1, y2, y3, y4, y5, y6⟩ := hbxK
                   obtain ⟨i0, hi0, hz0, hz1, hz2⟩ := info_parts catInfoPart
                   have hsz2' : w1.heap.size + 1 ≤ W2.heap.size := by omega
                   have hsz3' : W2.heap.size + 1 ≤ W3.heap.size := by omega
                   have Hsz3 := Lib.hid hsz3
                   clear hsz2 hsz3 hEv hqe hbxP hown hrows hbxr hgrr hkp hbxP1 hbxr1 hgr1' hown1 hrows1 hkp1 hb2 hbxK hbxP2 hbxr2 hrd2 hgr2' hpt hrd1 hg1 hW2 hW3 hb3 hb13 hbxP3 hbxr3 hrd3 hgr3 hrows3 hkp3 hpt3 hone hnq1 hnq2
                   go_upto_region 30 with fail
                   rw [← HW2.out]
                   have hown3' := hown3
                   have hrow3' := hrow3
                   rw [HW3.out] at hown3' hrow3'
                   have hsS3' : wS.heap.size ≤ (W2.alloc (.cells #[str q.type, str q.cs, str q.id, str q.loc, .int .i64 q.how, .slice Aq nq1 cq, .slice Aq2 nq2 cq2] 25)).heap.size := by rw [← HW3.out]; exact hsS3
                   clear hown3 hrow3
                   go_wp2_with (at_builtin; refine wpListM_app2 rfl _ _ 23 rfl wS.heap.size 25 i0 (Value.agg #[.string ⟨#[]⟩, .string ⟨#[]⟩, .string ⟨#[]⟩, .string ⟨#[]⟩, .int .i64 0, .slice none 0 0, .slice none 0 0]) 7 120 Tryz.underlying23 hi0 hz0 hz1 hz2 rfl (by decide) S6 m cs6 rows.flatten rfl hown3' _ _ 1 1 [str q.type, str q.cs, str q.id, str q.loc, .int .i64 q.how, .slice Aq nq1 cq, .slice Aq2 nq2 cq2] rfl hrow3' Hone.out (by unfold maxLen; omega) (by omega) hsS3' ?_)
                   intro S' c' w4 hown4 hb4 hgr4 hat4
                   rw [← HW3.out] at hb4 hgr4
                   obtain ⟨hbxP3, hbxr3, hrd3, hgr3, hrows3, hkp3, hpt3⟩ := Hsv.out
                   have hbxP4 := hbxP3.below hb4 hltg
                   have hbxr4 := hbxr3.below hb4 (by omega)
                   have hrd4 : RdIs w4 g cn2 := hrd3.other (hb4.block g (by omega))
                   have hnew : ∀ z, NewB wS.heap.size (.slice S6 m cs6) W3 z → NewB wS.heap.size (.slice S' (m + 1) c') w4 z := by
                    intro z hz
                    refine ⟨hz.1, Nat.lt_of_lt_of_le hz.2.1 hb4.size, ?_⟩
                    rcases hat4 with e | e
                    · rw [e]; exact hz.2.2
                    · rw [e]; intro e2; injection e2 with e2; have := hz.2.1; have := Hsz3.out; omega
                   have hcell : ∀ p : Addr, NewB wS.heap.size (.slice S6 m cs6) W3 p.block → w4.cell? p = W3.cell? p := fun p hp => World.cell?_of_block (hgr4.block _ hp.2.1 (fun e => hp.2.2 e.symm))
                   have hrows4 := PartsAt.app _ _ [q] [[str q.type, str q.cs, str q.id, str q.loc, .int .i64 q.how, .slice Aq nq1 cq, .slice Aq2 nq2 cq2]] (PartsAt.change hnew hcell _ _ hrows3) ⟨_, _, rfl, PartAt.change hnew hcell _ _ hpt3, rfl⟩
                   have hown4' : w4.ownsRow wS.heap.size 25 7 (.slice S' (m + 1) c') (m + 1) (rows ++ [[str q.type, str q.cs, str q.id, str q.loc, .int .i64 q.how, .slice Aq nq1 cq, .slice Aq2 nq2 cq2]]).flatten := by rw [List.flatten_append]; simpa using hown4
                   have hgrw4 : w.grownBy w4 (some g) := gM_new hgr3 hgr4 (fun z hz => by have := (hown3'.lt z hz).1; omega)
                   have hkp4 : KeptB g wg.heap.size wS w4 := ⟨Nat.le_trans hkp3.1 hb4.size, fun j hj h1 h2 => (hb4.block j hj).trans (hkp3.2 j hj h1 h2)⟩
                   obtain ⟨w5, hw5⟩ : ∃ w5, w5 = w4.setCell ⟨wg.heap.size, 6, none⟩ (.slice S' (m + 1) c') := ⟨_, rfl⟩
                   have hsb5 := SameBut.set w4 wg.heap.size 6 (.slice S' (m + 1) c')
                   have hbxP5 := hbxP4.m6 (.slice S' (m + 1) c')
                   rw [← hw5] at hsb5 hbxP5
                   have hle5 := own_cap hown4'
                   have hcm5 := own_capmax hown4'
                   have hown5 : w5.ownsRow wS.heap.size 25 7 (.slice S' (m + 1) c') (m + 1) (rows ++ [[str q.type, str q.cs, str q.id, str q.loc, .int .i64 q.how, .slice Aq nq1 cq, .slice Aq2 nq2 cq2]]).flatten := by
                    rw [hw5]
                    exact own_setFar hown4' (by intro e; have := (hown4'.lt _ e).1; simp only at this; omega) _
                   have hlenw : w4.heap.size ≤ w5.heap.size := Nat.le_of_eq hsb5.size.symm
                   have hrows5 : PartsAt (NewB wS.heap.size (.slice S' (m + 1) c') w5) w5 (out ++ [q]) (rows ++ [[str q.type, str q.cs, str q.id, str q.loc, .int .i64 q.how, .slice Aq nq1 cq, .slice Aq2 nq2 cq2]]) := PartsAt.change (fun z hz => ⟨hz.1, Nat.lt_of_lt_of_le hz.2.1 hlenw, hz.2.2⟩) (fun z hz => World.cell?_of_block (hsb5.block _ (by have := hz.1; omega))) _ _ hrows4
                   have hbxr5 := hbxr4.same_ (hsb5.block _ (by omega))
                   have hrd5 : RdIs w5 g cn2 := hrd4.other (hsb5.block _ (by omega))
                   have hgr5 : w.grownBy w5 (some g) := ⟨hsb5.os.trans hgrw4.os, hsb5.tape.trans hgrw4.tape, hsb5.output.trans hgrw4.output, Nat.le_trans hgrw4.size hlenw, fun j hj hne => (hsb5.block j (by omega)).trans (hgrw4.block j hj hne)⟩
                   have hkp5 : KeptB g wg.heap.size wS w5 := ⟨Nat.le_trans hkp4.1 hlenw, fun j hj h1 h2 => (hsb5.block j h2).trans (hkp4.2 j hj h1 h2)⟩
                   have Hend := Lib.hid (And.intro hbxP5 (And.intro hown5 (And.intro hrows5 (And.intro hrd5 (And.intro hbxr5 (And.intro hgr5 hkp5))))))
                   clear x0 x1 x2 x3 x4 x5 x6 xf y0 y1 y2 y3 y4 y5 y6
                   have ⟨⟨x0, x1, x2, x3, x4, x5, x6⟩, xf⟩ := hbxP4
                   have Hw5 := Lib.hid hw5
                   clear hown4 hb4 hgr4 hat4 hbxP3 hbxr3 hrd3 hgr3 hrows3 hkp3 hpt3 hbxP4 hbxr4 hrd4 hnew hcell hrows4 hown4' hgrw4 hkp4 hw5 hsb5 hbxP5 hown5 hrows5 hbxr5 hrd5 hgr5 hkp5 hown3' hrow3'
                   go_wp2_with fail
                   rw [← Hw5.out]
                   obtain ⟨b1, b2, b3, b4, b5, b6, b7⟩ := Hend.out
                   refine ⟨⟨_, _, _, _, _, _, _, _, _, _, _, _, _, _, _, _, _, _, _, _, _, _, _, _, _, _, _, _, _, _, ?_, rfl⟩, ?_⟩
                   · exact ⟨i + 1, m + 1, c', S', _, out ++ [q], cn2, rfl, by go_num, by omega, by omega, hle5, hcm5, b1, b2, b3, b4, hcn2, b5, b6, b7, hEv'.out⟩
                   · simp [intOf]; omega
               · obtain rfl : i = L.length := by omega
                 have hEv := hEE.out
                 rw [List.drop_of_length_le (Nat.le_refl _), eachM] at hEv
                 have hmy3 := Hmy3.out
                 rw [← hEv] at hmy3
                 rw [if_neg (by simp)] at hmy3
                 have hR := HR2.out.trans hmy3
                 rw [← Hgi.out, ← Hiv.out, ← Hlv.out] at hR
                 have HR := Lib.hid hR
                 have hbx9 := BoxF.set7 (w := wr) (b := w.heap.size) hbxr (str main) (.string ⟨#[]⟩) (str iv) (str lv) (.int .i64 0) (.slice none 0 0) (.slice S6 m cs6)
                 have hen9 := box_end hrdr hgl hgrr (str main) (.string ⟨#[]⟩) (str iv) (str lv) (.int .i64 0) (.slice none 0 0) (.slice S6 m cs6)
                 have ⟨⟨z0, z1, z2, z3, z4, z5, z6⟩, zf⟩ := hbxr
                 have ⟨⟨y0, y1, y2, y3, y4, y5, y6⟩, yf⟩ := hbxP
                 have hsl6 := own_sls hown
                 have Hfin := Lib.hid (And.intro hsl6 hrows)
                 have hszr := hkp.1
                 clear hEE hEv hmy3 hR hbxr hbxP hrdr hgrr hkp hown hrows hsl6
                 go_wp2_with fail
                 generalize hw9 : (((((((wr.setCell ⟨w.heap.size, 0, none⟩ (str main)).setCell ⟨w.heap.size, 1, none⟩ (.string ⟨#[]⟩)).setCell ⟨w.heap.size, 2, none⟩ (str iv)).setCell ⟨w.heap.size, 3, none⟩ (str lv)).setCell ⟨w.heap.size, 4, none⟩ (.int .i64 0)).setCell ⟨w.heap.size, 5, none⟩ (.slice none 0 0)).setCell ⟨w.heap.size, 6, none⟩ (.slice S6 m cs6)) = w9 at hbx9 hen9 ⊢
                 clear hw9
                 obtain ⟨c0, c1, c2, c3, c4, c5', c6⟩ := hbx9
                 obtain ⟨hr9, hg9, hsb⟩ := hen9
                 refine bodyPost_ret (v := .tuple #[.agg #[str main, .string ⟨#[]⟩, str iv, str lv, .int .i64 0, .slice none 0 0, .slice S6 m cs6], .int .i64 ((0 : Nat) : Int)]) (by simp [results, Tryz.results22, go_sem, c0, c1, c2, c3, c4, c5', c6]) rfl ?_
                 rw [HR.out]
                 refine ⟨_, _, _, _, _, _, _, rfl, ?_, hr9, hg9⟩
                 refine ⟨none, 0, 0, S6, m, cs6, rows, rfl, ⟨by unfold maxLen; omega, by decide, by unfold maxLen; omega, by unfold maxLen; omega, by decide, by decide⟩, ⟨rfl, fun h => absurd h (by omega)⟩, Nat.le_refl _, Nat.zero_le _, ?_, hmc, hcm6, ?_⟩
                 · exact SlS.change Hfin.out.1 (fun q hq => ⟨by have := hq.1; omega, by rw [hsb.size]; exact hq.2⟩) (fun q hq => World.cell?_of_block (hsb.block _ (by have := hq.1; omega)))
                 · exact PartsAt.change (fun q hq => ⟨by have := hq.1; omega, by rw [hsb.size]; exact hq.2.1⟩) (fun q hq => World.cell?_of_block (hsb.block _ (by have := hq.1; omega))) _ _ Hfin.out.2
         · have hmn : manyB main = false := by simpa using hmn
           rw [hmn] at hma hR1
           rw [if_neg (by simp)] at hR1
           have HR2 := Lib.hid hR1
           have Hma := Lib.hid hma
           have hgc := Get_ascii ps charsetN S2 ps.length cs2 V.heap.size V ((Hsl2.out.below hbs2V).more hbs2V.size) (Nat.le_refl _) (Nat.le_trans hlc2 hcm2) Hpn.out Hacl.out.2.2.2.2.2
           obtain ⟨cv, hcv⟩ : ∃ x, x = getF ps charsetN := ⟨_, rfl⟩
           rw [← hcv] at hgc
           have Hgc := Lib.hid hgc
           have Hcv := Lib.hid hcv
           clear hR1 hma hgc hcv hmn
           have hbyr : ∀ X, Below W1.heap.size W1 X → By X X.heap.size (cutA A c at_ 1) (n - at_) (b.drop at_) := fun X hX => ((HB1.out.below hX).more hX.size).cut (k := at_) (c := c) hat2 hn
           have hbo := fun X (hX : Below W1.heap.size W1 X) => body_any (getF l cteN) (b.drop at_) (cutA A c at_ 1) (n - at_) (c - at_) X (hbyr X hX) (by omega) (by omega) (by have := (Hval.out cteN).1; omega) (Hval.out cteN).2
           have hgt := fun X (hX : Sl X wa.heap.size 2 S l.length (fieldC l)) (hB : wa.heap.size ≤ X.heap.size) => Hget.out cteN Hacl.out.2.2.2.1 S cs wa.heap.size X hX hB
           have hlf : leafM cnt l (b.drop at_) main ps = if (bodyM (getF l cteN) (b.drop at_)).2.2 ≠ 0 then (zeroPD, cnt + 1, (bodyM (getF l cteN) (b.drop at_)).2.2) else (⟨main, getF ps charsetN, idM (getF l idN), getF l locN, (bodyM (getF l cteN) (b.drop at_)).1, (bodyM (getF l cteN) (b.drop at_)).2.1, []⟩, cnt + 1, 0) := rfl
           obtain ⟨tv, htv⟩ : ∃ x, x = getF l cteN := ⟨_, rfl⟩
           rw [← htv] at hbo hgt hlf
           obtain ⟨yh, bb, be, hY⟩ : ∃ yh bb be, bodyM tv (b.drop at_) = (yh, bb, be) := ⟨_, _, _, rfl⟩
           rw [hY] at hbo hlf
           have hyr : -9223372036854775808 ≤ yh ∧ yh ≤ 9223372036854775807 := by
            have : yh = (bodyM tv (b.drop at_)).1 := by rw [hY]
            rw [this]
            unfold bodyM
            repeat' split
            all_goals simp
           have Hyr := Lib.hid hyr
           have Hlf := Lib.hid hlf
           have Hbo := Lib.hid hbo
           have Hgt := Lib.hid hgt
           clear hbyr hbo hgt hlf htv hY hyr
           go_wp2_with fail
           rw [← HV.out]
           refine Hma.out.mono ?_
           rintro e wh ⟨rfl, rfl⟩
           go_wp2_with fail
           refine Hgc.out.mono ?_
           rintro e wi ⟨rfl, hbi⟩
           have hbxi := HbxV.out.below hbi (by omega)
           have hbai := hbaV.trans (hbi.mono hbaV.size)
           have hbsi := hbsV.trans (hbi.mono hbsV.size)
           have hgi : wg.heap.size < wi.heap.size := by have := hbi.size; omega
           obtain ⟨V2, hV2⟩ : ∃ V2, V2 = wi.setCell ⟨wg.heap.size, 1, none⟩ (str cv) := ⟨_, rfl⟩
           have hbx2 := hbxi.m1 (str cv)
           rw [← hV2] at hbx2
           have hba2 : Below W1.heap.size W1 V2 := by rw [hV2]; exact hbai.setCell (by show W1.heap.size ≤ wg.heap.size; exact hw1g) _
           have hbs2 : Below wa.heap.size wa V2 := by rw [hV2]; exact hbsi.setCell (by show wa.heap.size ≤ wg.heap.size; exact hwag) _
           have ⟨⟨x0, x1, x2, x3, x4, x5, x6⟩, xf⟩ := hbxi
           have HV2 := Lib.hid hV2
           have Hbx2 := Lib.hid hbx2
           have hsz2 : V2.heap.size = wi.heap.size := by rw [hV2]; simp [World.setCell]
           clear hbxi hbi hbai hbsi hV2 hbx2
           go_upto_region 17 with fail
           rw [← HV2.out]
           clear x0 x1 x2 x3 x4 x5 x6 xf
           have hgV2 : wg.heap.size < V2.heap.size := by omega
           clear hsz2 hgi
           go_cut [11] from 84 to 95 (fun s11 wx => s11 = .int .i64 (be : Nat) ∧ LeafSt w g (cnt + 1) wg.heap.size main cv iv lv yh bb wx)
           case first =>
            refine wp_region_held (S := AnyW) (by kernel_rfl) ?_
            change wpAnyH _ _ _ _ _ _ _ _ (World.drew V2)
            have hslD : Sl (World.drew V2) wa.heap.size 2 S l.length (fieldC l) := Hsl.out.below hbs2.drew
            have hgD := Hgt.out (World.drew V2) hslD hbs2.size
            have e0 : (0 : Int) ≤ (at_ : Int) := by omega
            have e1 : (at_ : Int) ≤ n := by omega
            refine wpAnyH_take (i := 0) (v := ?_) rfl (by kernel_rfl) (by kernel_rfl) (by kernel_rfl) (fun _ _ _ h => h) (Or.inl ⟨by kernel_rfl, ?_⟩) (anyW _) ?_
            rotate_left 1
            · intro W' hb'; go_simp; try exact rfl
            refine wpAnyH_take (i := 2) (v := ?_) rfl (by kernel_rfl) (by kernel_rfl) (by kernel_rfl) (fun _ _ _ h => h) (Or.inl ⟨by kernel_rfl, ?_⟩) (anyW _) ?_
            rotate_left 1
            · intro W' hb'; go_simp; try exact rfl
            refine wpAnyH_take (i := 3) (v := ?_) rfl (by kernel_rfl) (by kernel_rfl) (by kernel_rfl) (fun _ _ _ h => h) (Or.inl ⟨by kernel_rfl, ?_⟩) (anyW _) ?_
            rotate_left 1
            · intro W' hb'; go_simp; try exact rfl
            refine wpAnyH_take (i := 4) (v := ?_) rfl (by kernel_rfl) (by kernel_rfl) (by kernel_rfl) (fun _ _ _ h => h) (Or.inl ⟨by kernel_rfl, ?_⟩) (anyW _) ?_
            rotate_left 1
            · intro W' hb'; go_simp; try exact rfl
            refine wpAnyH_all (rs := [1]) (by kernel_rfl) (by simp) ?_
            intro kk hkk
            simp only [List.mem_singleton] at hkk
            subst hkk
            go_simp
            refine wpM_callF rfl (by kernel_rfl) 62 #[.slice S l.length cs, .string ⟨#[67, 111, 110, 116, 101, 110, 116, 45, 84, 114, 97, 110, 115, 102, 101, 114, 45, 69, 110, 99, 111, 100, 105, 110, 103]⟩] (by go_simp; try rfl) _ _ hgD ?_
            intro wk hbk
            have hbk2 : Below V2.heap.size V2 wk := (Below.refl V2.heap.size V2).drew.trans hbk
            have hbaK := hba2.trans (hbk2.mono hba2.size)
            refine ⟨anyW _, ?_⟩
            refine wpAnyH_all (rs := [5]) (by kernel_rfl) (by simp) ?_
            intro kk hkk
            simp only [List.mem_singleton] at hkk
            subst hkk
            go_simp
            refine wpM_callP rfl (by kernel_rfl) 65 #[str tv, .slice (cutA A c at_ 1) (n - at_) (c - at_)] (by go_simp; try rfl) _ (Hbo.out wk hbaK) ?_
            rintro e wm ⟨A5, c5, rfl, hs5, hc5, hm5, hbm⟩
            have hbm2 := hbk2.trans (hbm.mono hbk2.size)
            have hbxm := Hbx2.out.below hbm2 hgV2
            have hbaM := hba2.trans (hbm2.mono hba2.size)
            have hszm : V2.heap.size ≤ wm.heap.size := hbm2.size
            have hszk : V2.heap.size ≤ wk.heap.size := hbk2.size
            have hfin : LeafSt w g (cnt + 1) wg.heap.size main cv iv lv yh bb ((wm.setCell ⟨wg.heap.size, 4, none⟩ (.int .i64 yh)).setCell ⟨wg.heap.size, 5, none⟩ (.slice A5 bb.length c5)) := by
             obtain ⟨hbR, hrR, hgR⟩ := HK.out wm hbaM
             have hsb := (SameBut.set wm wg.heap.size 4 (.int .i64 yh)).trans (SameBut.set _ wg.heap.size 5 (.slice A5 bb.length c5))
             refine ⟨A5, c5, (hbxm.m4 _).m5 _, ?_, hc5, hm5, (hbR.setFar (by show wg.heap.size ≠ w.heap.size; omega) _).setFar (by show wg.heap.size ≠ w.heap.size; omega) _, hrR.other (hsb.block g (by omega)), ?_⟩
             · refine SlS.change hs5 (fun q hq => ⟨by have := hq.1; omega, by rw [hsb.size]; exact hq.2⟩) (fun q hq => World.cell?_of_block (hsb.block _ (by have := hq.1; omega)))
             · exact ⟨hsb.os.trans hgR.os, hsb.tape.trans hgR.tape, hsb.output.trans hgR.output, by rw [hsb.size]; exact hgR.size, fun j hj hne => (hsb.block j (by omega)).trans (hgR.block j hj hne)⟩
            have Hf1 := Lib.hid hfin
            have hbx4 := hbxm.m4 (.int .i64 yh)
            have ⟨⟨x0, x1, x2, x3, x4, x5, x6⟩, xf⟩ := hbxm
            have ⟨⟨_, _, _, _, _, y5, _⟩, yf⟩ := hbx4
            clear hfin hs5 hbm hbm2 hbk hbk2 hbxm hbx4 hbaM hbaK
            refine ⟨_, rfl, anyW _, ?_⟩
            refine wpAnyH_take (i := 6) (v := ?_) rfl (by kernel_rfl) (by kernel_rfl) (by kernel_rfl) (fun _ _ _ h => h) (Or.inl ⟨by kernel_rfl, ?_⟩) (anyW _) ?_
            rotate_left 1
            · intro W' hb'; go_simp; try exact rfl
            refine wpAnyH_take (i := 7) (v := ?_) rfl (by kernel_rfl) (by kernel_rfl) (by kernel_rfl) (fun _ _ _ h => h) (Or.inl ⟨by kernel_rfl, ?_⟩) (anyW _) ?_
            rotate_left 1
            · intro W' hb'; go_simp; try exact rfl
            refine wpAnyH_take (i := 8) (v := ?_) rfl (by kernel_rfl) (by kernel_rfl) (by kernel_rfl) (fun _ _ _ h => h) (Or.inl ⟨by kernel_rfl, ?_⟩) (anyW _) ?_
            rotate_left 1
            · intro W' hb'; go_simp; try exact rfl
            refine wpAnyH_take (i := 9) (v := ?_) rfl (by kernel_rfl) (by kernel_rfl) (by kernel_rfl) (fun _ _ _ h => h) (Or.inl ⟨by kernel_rfl, ?_⟩) (anyW _) ?_
            rotate_left 1
            · intro W' hb'; go_simp; try exact rfl
            refine wpAnyH_take (i := 10) (v := ?_) rfl (by kernel_rfl) (by kernel_rfl) (by kernel_rfl) (fun _ _ _ h => h) (Or.inl ⟨by kernel_rfl, ?_⟩) (anyW _) ?_
            rotate_left 1
            · intro W' hb'; go_simp; try exact rfl
            refine wpAnyH_all (rs := [11]) (by kernel_rfl) (by simp) ?_
            intro kk hkk
            simp only [List.mem_singleton] at hkk
            subst hkk
            go_simp
            refine wpM_store rfl (by kernel_rfl) (wm.setCell ⟨wg.heap.size, 4, none⟩ (.int .i64 yh)) (by go_simp; try rfl) ?_
            refine ⟨anyW _, ?_⟩
            refine wpAnyH_take (i := 12) (v := ?_) rfl (by kernel_rfl) (by kernel_rfl) (by kernel_rfl) (fun _ _ _ h => h) (Or.inl ⟨by kernel_rfl, ?_⟩) (anyW _) ?_
            rotate_left 1
            · intro W' hb'; go_simp; try exact rfl
            refine wpAnyH_all (rs := [13]) (by kernel_rfl) (by simp) ?_
            intro kk hkk
            simp only [List.mem_singleton] at hkk
            subst hkk
            go_simp
            refine wpM_store rfl (by kernel_rfl) ((wm.setCell ⟨wg.heap.size, 4, none⟩ (.int .i64 yh)).setCell ⟨wg.heap.size, 5, none⟩ (.slice A5 bb.length c5)) (by go_simp; try rfl) ?_
            refine ⟨anyW _, ?_⟩
            refine wpAnyH_take (i := 14) (v := ?_) rfl (by kernel_rfl) (by kernel_rfl) (by kernel_rfl) (fun _ _ _ h => h) (Or.inl ⟨by kernel_rfl, ?_⟩) (anyW _) ?_
            rotate_left 1
            · intro W' hb'; go_simp; try exact rfl
            refine wpAnyH_done (by kernel_rfl) ?_ _
            go_simp
            go_wp2_with fail
            go_meet
            exact ⟨rfl, Hf1.out⟩
           case rest =>
            obtain ⟨rfl, A5, c5, hbxE, hs9, hc5, hm5, hbxR, hrdR, hgrR⟩ := hcut
            obtain ⟨wx, rfl⟩ : ∃ x, x = wc := ⟨_, rfl⟩
            have hlf := Hlf.out
            by_cases hbe : be ≠ 0
            · rw [if_pos hbe] at hlf
              have hR := HR2.out.trans hlf
              have HR := Lib.hid hR
              have dbe : ((be : Int) != 0) = true := by simp; omega
              have HbR := Lib.hid (And.intro hbxR (And.intro hrdR hgrR))
              have hltx : w.heap.size < wx.heap.size := World.block_lt_of_cell? _ _ hbxR.1.1
              clear hlf hR hbe hbxE hs9 hc5 hm5 hbxR hrdR hgrR
              go_wp2_with fail
              refine (rfail_any be _).mono ?_
              rintro e w2 ⟨rfl, hb2⟩
              have hbxF := HbR.out.1.below hb2 hltx
              have hrdF := HbR.out.2.1.below hb2
              have hgrF := gM_below HbR.out.2.2 hb2
              have hbx9 := BoxF.set7 (w := w2) (b := w.heap.size) hbxF (.string ⟨#[]⟩) (.string ⟨#[]⟩) (.string ⟨#[]⟩) (.string ⟨#[]⟩) (.int .i64 0) (.slice none 0 0) (.slice none 0 0)
              have hen9 := box_end hrdF hgl hgrF (.string ⟨#[]⟩) (.string ⟨#[]⟩) (.string ⟨#[]⟩) (.string ⟨#[]⟩) (.int .i64 0) (.slice none 0 0) (.slice none 0 0)
              have ⟨⟨z0, z1, z2, z3, z4, z5, z6⟩, zf⟩ := hbxF
              go_wp2_with fail
              generalize hw9 : (((((((w2.setCell ⟨w.heap.size, 0, none⟩ (.string ⟨#[]⟩)).setCell ⟨w.heap.size, 1, none⟩ (.string ⟨#[]⟩)).setCell ⟨w.heap.size, 2, none⟩ (.string ⟨#[]⟩)).setCell ⟨w.heap.size, 3, none⟩ (.string ⟨#[]⟩)).setCell ⟨w.heap.size, 4, none⟩ (.int .i64 0)).setCell ⟨w.heap.size, 5, none⟩ (.slice none 0 0)).setCell ⟨w.heap.size, 6, none⟩ (.slice none 0 0)) = w9 at hbx9 hen9 ⊢
              clear hw9
              obtain ⟨c0, c1, c2, c3, c4, c5, c6⟩ := hbx9
              obtain ⟨hr9, hg9, _⟩ := hen9
              refine bodyPost_ret (v := .tuple #[.agg #[.string ⟨#[]⟩, .string ⟨#[]⟩, .string ⟨#[]⟩, .string ⟨#[]⟩, .int .i64 0, .slice none 0 0, .slice none 0 0], .int .i64 (be : Nat)]) (by simp [results, Tryz.results22, go_sem, c0, c1, c2, c3, c4, c5, c6]) rfl ?_
              rw [HR.out]
              exact ⟨_, _, _, _, _, _, _, rfl, zero_at _ _, hr9, hg9⟩
            · obtain rfl : be = 0 := by omega
              rw [if_neg (by simp)] at hlf
              have hR := HR2.out.trans hlf
              rw [← Hcv.out, ← Hgi.out, ← Hiv.out, ← Hlv.out] at hR
              have HR := Lib.hid hR
              have hbx9 := BoxF.set7 (w := wx) (b := w.heap.size) hbxR (str main) (str cv) (str iv) (str lv) (.int .i64 yh) (.slice A5 bb.length c5) (.slice none 0 0)
              have hen9 := box_end hrdR hgl hgrR (str main) (str cv) (str iv) (str lv) (.int .i64 yh) (.slice A5 bb.length c5) (.slice none 0 0)
              have ⟨⟨z0, z1, z2, z3, z4, z5, z6⟩, zf⟩ := hbxR
              have ⟨⟨y0, y1, y2, y3, y4, y5, y6⟩, yf⟩ := hbxE
              have Hs9 := Lib.hid hs9
              have hcvl : cv.length ≤ maxLen := by
               rw [Hcv.out]
               have key : ∀ m : List FieldD, smallF m → (getF m charsetN).length ≤ maxLen := by
                intro m
                induction m with
                | nil => intro _; simp [getF]
                | cons f r ihr =>
                 intro hm
                 rw [getF]
                 split
                 · exact (hm f (by simp)).2
                 · exact ihr (fun f hf => hm f (by simp [hf]))
               exact key ps hsm2
              clear hlf hR hs9 hbxR hbxE hrdR hgrR hbe
              go_wp2_with fail
              generalize hw9 : (((((((wx.setCell ⟨w.heap.size, 0, none⟩ (str main)).setCell ⟨w.heap.size, 1, none⟩ (str cv)).setCell ⟨w.heap.size, 2, none⟩ (str iv)).setCell ⟨w.heap.size, 3, none⟩ (str lv)).setCell ⟨w.heap.size, 4, none⟩ (.int .i64 yh)).setCell ⟨w.heap.size, 5, none⟩ (.slice A5 bb.length c5)).setCell ⟨w.heap.size, 6, none⟩ (.slice none 0 0)) = w9 at hbx9 hen9 ⊢
              clear hw9
              obtain ⟨c0, c1, c2, c3, c4, c5', c6⟩ := hbx9
              obtain ⟨hr9, hg9, hsb⟩ := hen9
              refine bodyPost_ret (v := .tuple #[.agg #[str main, str cv, str iv, str lv, .int .i64 yh, .slice A5 bb.length c5, .slice none 0 0], .int .i64 ((0 : Nat) : Int)]) (by simp [results, Tryz.results22, go_sem, c0, c1, c2, c3, c4, c5', c6]) rfl ?_
              rw [HR.out]
              refine ⟨_, _, _, _, _, _, _, rfl, ?_, hr9, hg9⟩
              refine ⟨A5, bb.length, c5, none, 0, 0, [], rfl, ⟨by unfold maxLen; omega, hcvl, by unfold maxLen; omega, by unfold maxLen; omega, Hyr.out.1, Hyr.out.2⟩, ?_, hc5, hm5, ⟨rfl, fun h => absurd h (by omega)⟩, Nat.le_refl _, Nat.zero_le _, rfl⟩
              refine SlS.change Hs9.out (fun q hq => ⟨by have := hq.1; omega, by rw [hsb.size]; exact hq.2⟩) (fun q hq => World.cell?_of_block (hsb.block _ (by have := hq.1; omega)))
end Go.Proofs.YtinfjdfhkfhgjaaGreatDoor
namespace Go.Proofs.YtinfjdfhkfhgjaaGreatDoor
open Go.RowKit
theorem BrAt.grown {wB w w' : World} {g h cnt cn : Nat} (k : BrAt wB w g h cnt) (hg : w.grownBy w' (some g)) (hc : CntAt w' g cn) : BrAt wB w' g h cn :=
 ⟨⟨hg.os.trans k.1.os, hg.tape.trans k.1.tape, hg.output.trans k.1.output, Nat.le_trans k.1.size hg.size, fun j hj => (hg.block j (Nat.lt_of_lt_of_le hj k.1.size) (fun e => by injection e with e; have := k.2.1; omega)).trans (k.1.block j hj)⟩, k.2.1, k.2.2.1, k.2.2.2.1, hc,
  k.2.2.2.2.2.other (hg.block h k.2.2.2.2.2.lt (fun e => by injection e with e; have := k.2.2.2.1; omega))⟩
theorem BrAt.same {wB w w' : World} {g h cnt r : Nat} (k : BrAt wB w g h cnt) (hs : SameBut r w w') (h1 : r ≠ g) (h2 : r ≠ h) (h3 : wB.heap.size ≤ r) : BrAt wB w' g h cnt :=
 ⟨⟨hs.os.trans k.1.os, hs.tape.trans k.1.tape, hs.output.trans k.1.output, by rw [hs.size]; exact k.1.size, fun j hj => (hs.block j (by omega)).trans (k.1.block j hj)⟩, k.2.1, k.2.2.1, k.2.2.2.1, k.2.2.2.2.1.other (hs.block g (fun e => h1 e.symm)), k.2.2.2.2.2.other (hs.block h (fun e => h2 e.symm))⟩
/-- A block that isn't kept may have changed. -/
theorem BrAt.grown2 {wB w w' : World} {g h cnt : Nat} {r : Option Nat} (k : BrAt wB w g h cnt) (hg : w.grownBy w' r) (h1 : r ≠ some g) (h2 : r ≠ some h) (h3 : ∀ z, r = some z → wB.heap.size ≤ z) : BrAt wB w' g h cnt :=
 ⟨⟨hg.os.trans k.1.os, hg.tape.trans k.1.tape, hg.output.trans k.1.output, Nat.le_trans k.1.size hg.size, fun j hj => (hg.block j (Nat.lt_of_lt_of_le hj k.1.size) (fun e => by have := h3 j e.symm; omega)).trans (k.1.block j hj)⟩, k.2.1, k.2.2.1, k.2.2.2.1, k.2.2.2.2.1.other (hg.block g k.2.2.2.2.1.lt (fun e => h1 e.symm)),
  k.2.2.2.2.2.other (hg.block h k.2.2.2.2.2.lt (fun e => h2 e.symm))⟩
/-- The loop over what stands between borders. -/
def BrRel (wB w wS : World) (g h pb k : Nat) (main iv lv : List UInt8) (L : List (List UInt8)) (E : List PartD × Nat × Nat) (v7 vi : Value) (wr : World) : Prop :=
 ∃ (i m c : Nat) (S : Option Addr) (rows : List (List Value)) (out : List PartD) (cn : Nat), v7 = .int .i64 0 ∧ vi = .int .i64 (i : Nat) ∧ i ≤ L.length ∧ m ≤ i ∧ m ≤ c ∧ c ≤ maxLen ∧
  BoxF wr pb (str main) (.string ⟨#[]⟩) (str iv) (str lv) (.int .i64 0) (.slice none 0 0) (.slice S m c) ∧
  wr.ownsRow wS.heap.size 25 7 (.slice S m c) m rows.flatten ∧ PartsAt (NewB wS.heap.size (.slice S m c) wr) wr out rows ∧ BrAt wB wr g h cn ∧ cn ≤ 12 ∧
  BoxF wr w.heap.size (.string ⟨#[]⟩) (.string ⟨#[]⟩) (.string ⟨#[]⟩) (.string ⟨#[]⟩) (.int .i64 0) (.slice none 0 0) (.slice none 0 0) ∧ BoxF wr (w.heap.size + 1) (.string ⟨#[]⟩) (.string ⟨#[]⟩) (.string ⟨#[]⟩) (.string ⟨#[]⟩) (.int .i64 0) (.slice none 0 0) (.slice none 0 0) ∧ w.grownBy wr (some g) ∧ KeptB g pb wS wr ∧ Hid (eachM (partM k) (L.drop i) cn out = E)
theorem lpA_err (border : List UInt8) : ∀ (l : List (List UInt8)) (o : Bool) (cur : List UInt8) (out : List (List UInt8)), (lpA border l o cur out).2 ≠ 0 → (lpA border l o cur out).1 = []
 | [], _, _, _, _ => rfl
 | line :: r, o, cur, out, h => by
  rw [lpA] at h ⊢
  split
  · rename_i h1
    rw [if_pos h1] at h
    exact lpA_err border r _ _ _ h
  · rename_i h1
    rw [if_neg h1] at h
    split
    · rename_i h2
      rw [if_pos h2] at h
      exact absurd rfl h
    · rename_i h2
      rw [if_neg h2] at h
      exact lpA_err border r _ _ _ h
theorem get_max (nm : List UInt8) : ∀ m : List FieldD, smallF m → (getF m nm).length ≤ maxLen := by
 intro m
 induction m with
 | nil => intro _; simp [getF]
 | cons f r ihr =>
  intro hm
  rw [getF]
  split
  · exact (hm f (by simp)).2
  · exact ihr (fun f hf => hm f (by simp [hf]))
/-- The end of a part that isn't Many. -/
theorem brleaf_fin {w w9 wx : World} {g cnt : Nat} {l ps : List FieldD} {rest main cv iv lv tv bb : List UInt8} {yh : Int} {be n5 c5 : Nat} {A5 : Option Addr}
 (hy : bodyM tv rest = (yh, bb, be)) (hcv : cv = getF ps charsetN) (hiv : iv = idM (getF l idN)) (hlv : lv = getF l locN) (htv : tv = getF l cteN)
 (h1 : main.length ≤ maxLen) (h2 : cv.length ≤ maxLen) (h3 : iv.length ≤ maxLen) (h4 : lv.length ≤ maxLen) (h5 : -9223372036854775808 ≤ yh ∧ yh ≤ 9223372036854775807)
 (hs : be = 0 → n5 = bb.length ∧ SlS (fun q => w.heap.size + 1 ≤ q ∧ q < wx.heap.size) wx 1 A5 n5 (Lib.byteCells bb) ∧ n5 ≤ c5 ∧ c5 ≤ maxLen)
 (hsb : SameBut w.heap.size wx w9) (hc : CntAt w9 g (cnt + 1)) (hg : w.grownBy w9 (some g)) :
 BrRes (leafM cnt l rest main ps) g w (.returned (.tuple #[.agg #[str main, str cv, str iv, str lv, .int .i64 yh, .slice A5 n5 c5, .slice none 0 0], .int .i64 (be : Nat)])) w9 := by
 have hlf : leafM cnt l rest main ps = if be ≠ 0 then (zeroPD, cnt + 1, be) else (⟨main, cv, iv, lv, yh, bb, []⟩, cnt + 1, 0) := by
  unfold leafM
  rw [← htv, hy, hcv, hiv, hlv]
 have h22 : (leafM cnt l rest main ps).2.2 = be := by
  rw [hlf]; split
  · rfl
  · rename_i h; simp only; omega
 refine ⟨main, cv, iv, lv, yh, A5, n5, c5, none, 0, 0, cnt + 1, by rw [h22], fun h0 => ?_, hc, hg⟩
 rw [h22] at h0
 obtain ⟨rfl, hsl, hc5, hm5⟩ := hs h0
 have he : leafM cnt l rest main ps = (⟨main, cv, iv, lv, yh, bb, []⟩, cnt + 1, 0) := by rw [hlf, if_neg (by omega)]
 rw [he]
 refine ⟨⟨A5, bb.length, c5, none, 0, 0, [], rfl, ⟨h1, h2, h3, h4, h5.1, h5.2⟩, ?_, hc5, hm5, ⟨rfl, fun h => absurd h (by omega)⟩, Nat.le_refl _, Nat.zero_le _, rfl⟩, rfl⟩
 exact SlS.change hsl (fun q hq => ⟨by have := hq.1; omega, by rw [hsb.size]; exact hq.2⟩) (fun q hq => World.cell?_of_block (hsb.block _ (by have := hq.1; omega)))
end Go.Proofs.YtinfjdfhkfhgjaaGreatDoor
