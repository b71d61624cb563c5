import Derived.Test.YtinfjdfhkfhgjaaGreatDoorU11
set_option maxRecDepth 100000
set_option maxHeartbeats 40000000
namespace Go.Proofs.YtinfjdfhkfhgjaaGreatDoor
open Go.RowKit
attribute [local go_sem high] cut_bytes
theorem bread_any (wB : World) (HMB : MaxLenOk wB) (HUB : U8Ok wB) (g h : Nat) (k : Nat) : ∀ (b : List UInt8) (A : Option Addr) (n c cnt : Nat) (d : Int) (w : World), d + k = 4 → 1 ≤ d → SlS (fun bl => bl < w.heap.size ∧ bl ≠ g) w 1 A n (Lib.byteCells b) → n ≤ c → c ≤ maxLen → n ≤ 40000 → cnt ≤ 12 → BrAt wB w g h cnt →
 Calls Tryz.prog 37 #[.slice A n c, .int .i64 d, .pointer (some ⟨g, 0, none⟩), .pointer (some ⟨h, 0, none⟩)] w (BrRes (partM k cnt b) g w) := by
 induction k with
 | zero =>
  intro b A n c cnt d w hd hd1 hb hn hc hm hcnt hrd
  have hR : partM 0 cnt b = (zeroPD, cnt + 1, 2) := rfl
  have hgl := hrd.2.2.2.2.1.lt
  have hwB := hrd.1.size
  have hhl := hrd.2.2.2.2.2.lt
  obtain ⟨W, hW⟩ : ∃ W, W = (w.alloc (.cells #[.string ⟨#[]⟩, .string ⟨#[]⟩, .string ⟨#[]⟩, .string ⟨#[]⟩, .int .i64 0, .slice none 0 0, .slice none 0 0] 25)).alloc (.cells #[.string ⟨#[]⟩, .string ⟨#[]⟩, .string ⟨#[]⟩, .string ⟨#[]⟩, .int .i64 0, .slice none 0 0, .slice none 0 0] 25) := ⟨_, rfl⟩
  have hbW : Below w.heap.size w W := by rw [hW]; exact ((Below.refl _ w).alloc (Nat.le_refl _) _).alloc (by simp) _
  have hbx : BoxF W w.heap.size (.string ⟨#[]⟩) (.string ⟨#[]⟩) (.string ⟨#[]⟩) (.string ⟨#[]⟩) (.int .i64 0) (.slice none 0 0) (.slice none 0 0) := by
   refine BoxF.of_block (t := 25) ?_
   rw [hW, Lib.alloc_old _ _ _ (by simp)]
   exact heap_alloc_new w _
  have hbn : BoxF W (w.heap.size + 1) (.string ⟨#[]⟩) (.string ⟨#[]⟩) (.string ⟨#[]⟩) (.string ⟨#[]⟩) (.int .i64 0) (.slice none 0 0) (.slice none 0 0) := by
   refine BoxF.of_block (t := 25) ?_
   rw [hW]
   have := heap_alloc_new (w.alloc (.cells #[.string ⟨#[]⟩, .string ⟨#[]⟩, .string ⟨#[]⟩, .string ⟨#[]⟩, .int .i64 0, .slice none 0 0, .slice none 0 0] 25)) (.cells #[.string ⟨#[]⟩, .string ⟨#[]⟩, .string ⟨#[]⟩, .string ⟨#[]⟩, .int .i64 0, .slice none 0 0, .slice none 0 0] 25)
   simpa using this
  have hsW : W.heap.size = w.heap.size + 2 := by rw [hW]; simp
  have hrdW := hrd.below hbW
  have c0 := hrdW.2.2.2.2.1.cell
  have f0 := hrdW.2.2.2.2.1.fz
  obtain ⟨W1, hW1⟩ : ∃ W1, W1 = W.setCell ⟨g, 0, none⟩ (.int .i64 ((cnt : Int) + 1)) := ⟨_, rfl⟩
  have hrd1 : BrAt wB W1 g h (cnt + 1) := by
   have := hrdW.set (cnt + 1)
   rw [hW1]
   exact this
  have hg1 : W.grownBy W1 (some g) := by rw [hW1]; exact grown_set W g 0 _
  have hgr1 : w.grownBy W1 (some g) := gM_tr (gM_of hbW) hg1
  have hbx1 : BoxF W1 w.heap.size (.string ⟨#[]⟩) (.string ⟨#[]⟩) (.string ⟨#[]⟩) (.string ⟨#[]⟩) (.int .i64 0) (.slice none 0 0) (.slice none 0 0) := by
   rw [hW1]
   exact hbx.setFar (by show g ≠ w.heap.size; omega) _
  have hbn1 : BoxF W1 (w.heap.size + 1) (.string ⟨#[]⟩) (.string ⟨#[]⟩) (.string ⟨#[]⟩) (.string ⟨#[]⟩) (.int .i64 0) (.slice none 0 0) (.slice none 0 0) := by
   rw [hW1]
   exact hbn.setFar (by show g ≠ w.heap.size + 1; omega) _
  have hs1 : W1.heap.size = w.heap.size + 2 := by rw [hW1, ← hsW]; simp [World.setCell]
  have d1 := hrd1.2.2.2.2.1.cell
  have ⟨⟨y0, y1, y2, y3, y4, y5, y6⟩, yf⟩ := hbn1
  have ⟨⟨z0, z1, z2, z3, z4, z5, z6⟩, zf⟩ := hbx1
  have hbx9 := BoxF.set7 (w := W1) (b := w.heap.size) hbx1 (.string ⟨#[]⟩) (.string ⟨#[]⟩) (.string ⟨#[]⟩) (.string ⟨#[]⟩) (.int .i64 0) (.slice none 0 0) (.slice none 0 0)
  have hen9 := brbox_end hrd1.2.2.2.2.1 hgl hgr1 (.string ⟨#[]⟩) (.string ⟨#[]⟩) (.string ⟨#[]⟩) (.string ⟨#[]⟩) (.int .i64 0) (.slice none 0 0) (.slice none 0 0)
  have HW := Lib.hid hW
  have HW1 := Lib.hid hW1
  have Hb9 := Lib.hid (And.intro hbx9 hen9)
  have HR := Lib.hid hR
  obtain rfl : d = 4 := by omega
  obtain ⟨q, hq⟩ : ∃ q, decide ((12 : Int) < (cnt : Int) + 1) = q := ⟨_, rfl⟩
  clear hR hW hrdW hbx hbn hb hrd hd hW1 hrd1 hbx1 hbn1 hgr1 hs1 hg1 hsW hbx9 hen9 hbW
  go_enter Tryz.func37, Tryz.ntmps37
  go_upto_region 2 with fail
  rw [← HW.out]
  go_upto_region 3 with fail
  rw [← HW1.out]
  clear c0 f0
  cases q <;>
  · go_wp2_with fail
    generalize hw9 : (((((((W1.setCell ⟨w.heap.size, 0, none⟩ (.string ⟨#[]⟩)).setCell ⟨w.heap.size, 1, none⟩ (.string ⟨#[]⟩)).setCell ⟨w.heap.size, 2, none⟩ (.string ⟨#[]⟩)).setCell ⟨w.heap.size, 3, none⟩ (.string ⟨#[]⟩)).setCell ⟨w.heap.size, 4, none⟩ (.int .i64 0)).setCell ⟨w.heap.size, 5, none⟩ (.slice none 0 0)).setCell ⟨w.heap.size, 6, none⟩ (.slice none 0 0)) = w9 at *
    obtain ⟨hbx9, hen9⟩ := Hb9.out
    obtain ⟨k0, k1, k2, k3, k4, k5, k6⟩ := hbx9
    refine bodyPost_ret (v := .tuple #[.agg #[.string ⟨#[]⟩, .string ⟨#[]⟩, .string ⟨#[]⟩, .string ⟨#[]⟩, .int .i64 0, .slice none 0 0, .slice none 0 0], .int .i64 (2 : Nat)]) (by simp [results, Tryz.results37, go_sem, k0, k1, k2, k3, k4, k5, k6]) rfl ?_
    rw [HR.out]
    exact ⟨[], [], [], [], 0, none, 0, 0, none, 0, 0, _, rfl, fun h0 => absurd h0 (by show ¬ ((2 : Nat) = 0); omega), hen9.1, hen9.2⟩
 | succ k ih =>
  intro b A n c cnt d w hd hd1 hb hn hc hm hcnt hrd
  have hR := partM_step k cnt b
  have hgl := hrd.2.2.2.2.1.lt
  have hwB := hrd.1.size
  have hhl := hrd.2.2.2.2.2.lt
  obtain ⟨W, hW⟩ : ∃ W, W = (w.alloc (.cells #[.string ⟨#[]⟩, .string ⟨#[]⟩, .string ⟨#[]⟩, .string ⟨#[]⟩, .int .i64 0, .slice none 0 0, .slice none 0 0] 25)).alloc (.cells #[.string ⟨#[]⟩, .string ⟨#[]⟩, .string ⟨#[]⟩, .string ⟨#[]⟩, .int .i64 0, .slice none 0 0, .slice none 0 0] 25) := ⟨_, rfl⟩
  have hbW : Below w.heap.size w W := by rw [hW]; exact ((Below.refl _ w).alloc (Nat.le_refl _) _).alloc (by simp) _
  have hbx : BoxF W w.heap.size (.string ⟨#[]⟩) (.string ⟨#[]⟩) (.string ⟨#[]⟩) (.string ⟨#[]⟩) (.int .i64 0) (.slice none 0 0) (.slice none 0 0) := by
   refine BoxF.of_block (t := 25) ?_
   rw [hW, Lib.alloc_old _ _ _ (by simp)]
   exact heap_alloc_new w _
  have hbn : BoxF W (w.heap.size + 1) (.string ⟨#[]⟩) (.string ⟨#[]⟩) (.string ⟨#[]⟩) (.string ⟨#[]⟩) (.int .i64 0) (.slice none 0 0) (.slice none 0 0) := by
   refine BoxF.of_block (t := 25) ?_
   rw [hW]
   have := heap_alloc_new (w.alloc (.cells #[.string ⟨#[]⟩, .string ⟨#[]⟩, .string ⟨#[]⟩, .string ⟨#[]⟩, .int .i64 0, .slice none 0 0, .slice none 0 0] 25)) (.cells #[.string ⟨#[]⟩, .string ⟨#[]⟩, .string ⟨#[]⟩, .string ⟨#[]⟩, .int .i64 0, .slice none 0 0, .slice none 0 0] 25)
   simpa using this
  have hsW : W.heap.size = w.heap.size + 2 := by rw [hW]; simp
  have hrdW := hrd.below hbW
  have c0 := hrdW.2.2.2.2.1.cell
  have f0 := hrdW.2.2.2.2.1.fz
  obtain ⟨W1, hW1⟩ : ∃ W1, W1 = W.setCell ⟨g, 0, none⟩ (.int .i64 ((cnt : Int) + 1)) := ⟨_, rfl⟩
  have hrd1 : BrAt wB W1 g h (cnt + 1) := by
   have := hrdW.set (cnt + 1)
   rw [hW1]
   exact this
  have hg1 : W.grownBy W1 (some g) := by rw [hW1]; exact grown_set W g 0 _
  have hgr1 : w.grownBy W1 (some g) := gM_tr (gM_of hbW) hg1
  have hbx1 : BoxF W1 w.heap.size (.string ⟨#[]⟩) (.string ⟨#[]⟩) (.string ⟨#[]⟩) (.string ⟨#[]⟩) (.int .i64 0) (.slice none 0 0) (.slice none 0 0) := by
   rw [hW1]
   exact hbx.setFar (by show g ≠ w.heap.size; omega) _
  have hbn1 : BoxF W1 (w.heap.size + 1) (.string ⟨#[]⟩) (.string ⟨#[]⟩) (.string ⟨#[]⟩) (.string ⟨#[]⟩) (.int .i64 0) (.slice none 0 0) (.slice none 0 0) := by
   rw [hW1]
   exact hbn.setFar (by show g ≠ w.heap.size + 1; omega) _
  have hs1 : W1.heap.size = w.heap.size + 2 := by rw [hW1, ← hsW]; simp [World.setCell]
  have d1 := hrd1.2.2.2.2.1.cell
  have Hih := Lib.hid ih
  have hby1 : By W1 W1.heap.size A n b := SlS.change (S' := fun b => b < W1.heap.size) hb (fun b hb => by have := hb.1; omega) (fun q hq => World.cell?_of_block (hgr1.block _ hq.1 (fun e => hq.2 (by injection e))))
  have HB1 := Lib.hid hby1
  have d3 : decide ((3 : Int) < d) = false := by simp; omega
  by_cases h12 : 12 < cnt + 1
  · rw [if_pos h12] at hR
    have dc : decide ((12 : Int) < (cnt : Int) + 1) = true := by simp; omega
    have ⟨⟨y0, y1, y2, y3, y4, y5, y6⟩, yf⟩ := hbn1
    have ⟨⟨z0, z1, z2, z3, z4, z5, z6⟩, zf⟩ := hbx1
    have hbx9 := BoxF.set7 (w := W1) (b := w.heap.size) hbx1 (.string ⟨#[]⟩) (.string ⟨#[]⟩) (.string ⟨#[]⟩) (.string ⟨#[]⟩) (.int .i64 0) (.slice none 0 0) (.slice none 0 0)
    have hen9 := brbox_end hrd1.2.2.2.2.1 hgl hgr1 (.string ⟨#[]⟩) (.string ⟨#[]⟩) (.string ⟨#[]⟩) (.string ⟨#[]⟩) (.int .i64 0) (.slice none 0 0) (.slice none 0 0)
    have HW := Lib.hid hW
    have HW1 := Lib.hid hW1
    have Hb9 := Lib.hid (And.intro hbx9 hen9)
    have HR := Lib.hid hR
    clear hR hW hrdW hbx hbn hb hrd hW1 hrd1 hbx1 hbn1 hgr1 hs1 hg1 hsW hbx9 hen9 hbW ih hby1 h12
    go_enter Tryz.func37, Tryz.ntmps37
    go_upto_region 2 with fail
    rw [← HW.out]
    go_upto_region 3 with fail
    rw [← HW1.out]
    clear c0 f0
    go_wp2_with fail
    generalize hw9 : (((((((W1.setCell ⟨w.heap.size, 0, none⟩ (.string ⟨#[]⟩)).setCell ⟨w.heap.size, 1, none⟩ (.string ⟨#[]⟩)).setCell ⟨w.heap.size, 2, none⟩ (.string ⟨#[]⟩)).setCell ⟨w.heap.size, 3, none⟩ (.string ⟨#[]⟩)).setCell ⟨w.heap.size, 4, none⟩ (.int .i64 0)).setCell ⟨w.heap.size, 5, none⟩ (.slice none 0 0)).setCell ⟨w.heap.size, 6, none⟩ (.slice none 0 0)) = w9 at *
    obtain ⟨hbx9, hen9⟩ := Hb9.out
    obtain ⟨k0, k1, k2, k3, k4, k5, k6⟩ := hbx9
    refine bodyPost_ret (v := .tuple #[.agg #[.string ⟨#[]⟩, .string ⟨#[]⟩, .string ⟨#[]⟩, .string ⟨#[]⟩, .int .i64 0, .slice none 0 0, .slice none 0 0], .int .i64 (2 : Nat)]) (by simp [results, Tryz.results37, go_sem, k0, k1, k2, k3, k4, k5, k6]) rfl ?_
    rw [HR.out]
    exact ⟨[], [], [], [], 0, none, 0, 0, none, 0, 0, _, rfl, fun h0 => absurd h0 (by show ¬ ((2 : Nat) = 0); omega), hen9.1, hen9.2⟩
  · rw [if_neg h12] at hR
    have dc : decide ((12 : Int) < (cnt : Int) + 1) = false := by simp; omega
    have hc12 : cnt + 1 ≤ 12 := by omega
    have hpa := RFieldsRead_any b A n c W1 HB1.out hn hc hm
    obtain ⟨l, at_, pe, hP⟩ : ∃ l at_ pe, parseF b = (l, at_, pe) := ⟨_, _, _, rfl⟩
    have hback := fun l k => @parse_back b l k
    rw [hP] at hpa hR hback
    simp only at hR
    have Hpa := Lib.hid hpa
    have HK : Hid (∀ X, Below W1.heap.size W1 X → BoxF X w.heap.size (.string ⟨#[]⟩) (.string ⟨#[]⟩) (.string ⟨#[]⟩) (.string ⟨#[]⟩) (.int .i64 0) (.slice none 0 0) (.slice none 0 0) ∧ BoxF X (w.heap.size + 1) (.string ⟨#[]⟩) (.string ⟨#[]⟩) (.string ⟨#[]⟩) (.string ⟨#[]⟩) (.int .i64 0) (.slice none 0 0) (.slice none 0 0) ∧ BrAt wB X g h (cnt + 1) ∧ w.grownBy X (some g)) := Lib.hid (fun X hX => ⟨hbx1.below hX (by omega), hbn1.below hX (by omega), hrd1.below hX, gM_below hgr1 hX⟩)
    have HW := Lib.hid hW
    have HW1 := Lib.hid hW1
    have Hs1 := Lib.hid hs1
    clear hW hrdW hbx hbn hb hrd hW1 hrd1 hbx1 hbn1 hgr1 hs1 hg1 hsW hbW ih hby1
    by_cases hpe : pe ≠ 0
    · rw [if_pos hpe] at hR
      have HR := Lib.hid hR
      have dpe : ((pe : Int) != 0) = true := by simp; omega
      have hpe0 : pe ≠ 0 := hpe
      clear hR h12 hpa hback hP hpe
      go_enter Tryz.func37, Tryz.ntmps37
      go_upto_region 2 with fail
      rw [← HW.out]
      go_upto_region 3 with fail
      rw [← HW1.out]
      clear c0 f0
      go_wp2_with fail
      refine Hpa.out.mono ?_
      rintro e wa ⟨S, cs, rfl, _, _, _, _, hba⟩
      obtain ⟨hbxF, hbnF, hrdF, hgrF⟩ := HK.out _ hba
      have ⟨⟨y0, y1, y2, y3, y4, y5, y6⟩, yf⟩ := hbnF
      have ⟨⟨z0, z1, z2, z3, z4, z5, z6⟩, zf⟩ := hbxF
      have hbx9 := BoxF.set7 (w := wa) (b := w.heap.size) hbxF (.string ⟨#[]⟩) (.string ⟨#[]⟩) (.string ⟨#[]⟩) (.string ⟨#[]⟩) (.int .i64 0) (.slice none 0 0) (.slice none 0 0)
      have hen9 := brbox_end hrdF.2.2.2.2.1 hgl hgrF (.string ⟨#[]⟩) (.string ⟨#[]⟩) (.string ⟨#[]⟩) (.string ⟨#[]⟩) (.int .i64 0) (.slice none 0 0) (.slice none 0 0)
      have Hb9 := Lib.hid (And.intro hbx9 hen9)
      clear hbx9 hen9 hbxF hbnF hrdF hgrF hba
      go_wp2_with fail
      generalize hw9 : (((((((wa.setCell ⟨w.heap.size, 0, none⟩ (.string ⟨#[]⟩)).setCell ⟨w.heap.size, 1, none⟩ (.string ⟨#[]⟩)).setCell ⟨w.heap.size, 2, none⟩ (.string ⟨#[]⟩)).setCell ⟨w.heap.size, 3, none⟩ (.string ⟨#[]⟩)).setCell ⟨w.heap.size, 4, none⟩ (.int .i64 0)).setCell ⟨w.heap.size, 5, none⟩ (.slice none 0 0)).setCell ⟨w.heap.size, 6, none⟩ (.slice none 0 0)) = w9 at *
      obtain ⟨hbx9, hen9⟩ := Hb9.out
      obtain ⟨k0, k1, k2, k3, k4, k5, k6⟩ := hbx9
      refine bodyPost_ret (v := .tuple #[.agg #[.string ⟨#[]⟩, .string ⟨#[]⟩, .string ⟨#[]⟩, .string ⟨#[]⟩, .int .i64 0, .slice none 0 0, .slice none 0 0], .int .i64 (pe : Nat)]) (by simp [results, Tryz.results37, go_sem, k0, k1, k2, k3, k4, k5, k6]) rfl ?_
      rw [HR.out]
      exact ⟨[], [], [], [], 0, none, 0, 0, none, 0, 0, _, rfl, fun h0 => absurd h0 (by show ¬ ((pe : Nat) = 0); omega), hen9.1, hen9.2⟩
    · obtain rfl : pe = 0 := by omega
      rw [if_neg (by simp)] at hR
      obtain ⟨hchk, hatb, _, _⟩ := hback l at_ rfl
      obtain ⟨hl20, hok⟩ := chk_len hchk
      have hasc : ∀ f ∈ l, asciiL f.name := fun f hf => tok_asciiL (ok_field (hok f hf)).1
      have hval : ∀ nm, (getF l nm).length ≤ 900 ∧ ∀ x ∈ getF l nm, x.toNat < 128 := by
       intro nm
       have key : ∀ m : List FieldD, (∀ f ∈ m, okF f = true) → (getF m nm).length ≤ 900 ∧ ∀ x ∈ getF m nm, x.toNat < 128 := by
        intro m
        induction m with
        | nil => intro _; simp [getF]
        | cons f r ihr =>
         intro hm
         rw [getF]
         split
         · have hv := val_mem (ok_field (hm f (by simp))).2
           exact ⟨hv.1, fun x hx => by have := hv.2.2 x hx; omega⟩
         · exact ihr (fun f hf => hm f (by simp [hf]))
       exact key l hok
      have hget := fun (nm m : List UInt8) (hlo : lowL nm = lowL m) (hnm : asciiL nm) (S : Option Addr) (cs B : Nat) (X : World) h hB => RGot_ascii l nm m S l.length cs B X hlo h hB (by unfold maxLen; omega) hasc hnm
      have Hget := Lib.hid hget
      have Hval := Lib.hid hval
      have acl : asciiL ctL ∧ asciiL idL ∧ asciiL locL ∧ asciiL cteL ∧ asciiL boundN ∧ asciiL charsetN := by
       refine ⟨?_, ?_, ?_, ?_, ?_, ?_⟩ <;> exact ⟨by decide, by decide⟩
      have Hacl := Lib.hid acl
      have hty : tyM l = if getF l ctN = [] then [116, 101, 120, 116, 47, 112, 108, 97, 105, 110] else getF l ctN := rfl
      have htyl : (tyM l).length ≤ 900 := by
       rw [hty]
       split
       · decide
       · exact (hval ctN).1
      obtain ⟨ty, htyy⟩ : ∃ ty, ty = tyM l := ⟨_, rfl⟩
      rw [← htyy] at hR hty htyl
      have hpr := fun X (hX : U8Ok X) => ParamsOf_any ty X (by unfold maxLen; omega) hX
      obtain ⟨main, ps, qe, hQ⟩ : ∃ main ps qe, paramsF ty = (main, ps, qe) := ⟨_, _, _, rfl⟩
      rw [hQ] at hpr hR
      simp only at hR
      have Hpr := Lib.hid hpr
      have Hty := Lib.hid hty
      have Hatb := Lib.hid hatb
      have HQ := Lib.hid hQ
      obtain ⟨e1, he1⟩ : ∃ e, e = (getF l ctN).isEmpty := ⟨_, rfl⟩
      have q1 : (getF l ctN).isEmpty = e1 := he1.symm
      have q2 : (getF l ctN == []) = e1 := by rw [he1]; cases getF l ctN <;> rfl
      have He1 := Lib.hid he1
      have hl20' : l.length ≤ 20 := hl20
      have hat2 : at_ ≤ n := by have := HB1.out.len; omega
      have HR0 := Lib.hid hR
      clear hR h12 hpa hback hP hpe hchk hok hasc hget hval acl hty htyy hpr hQ he1 hatb hl20
      go_enter Tryz.func37, Tryz.ntmps37
      go_upto_region 2 with fail
      rw [← HW.out]
      go_upto_region 3 with fail
      rw [← HW1.out]
      clear c0 f0
      go_wp2_with fail
      refine Hpa.out.mono ?_
      rintro e wa ⟨S, cs, rfl, hsl, _, hlc, hcm, hba⟩
      have hg1 := Hget.out ctL ctN low_names.1 Hacl.out.1 S cs wa.heap.size wa hsl (Nat.le_refl _)
      have Hg1 := Lib.hid hg1
      have Hsl := Lib.hid hsl
      simp only at hlc
      clear hg1 hsl
      go_wp2_with fail
      refine Hg1.out.mono ?_
      rintro e wb ⟨rfl, hbb⟩
      have hbab := hba.trans (hbb.mono hba.size)
      go_upto_if 48 with (fail)
      go_cut [12] from 47 to 48 (fun s12 wx => s12 = str ty ∧ wb = wx)
      case first =>
       have hty := Hty.out
       by_cases h0 : getF l ctN = []
       · obtain rfl : e1 = true := by rw [He1.out, h0]; rfl
         rw [if_pos h0] at hty
         have HT := Lib.hid hty
         clear hty h0
         go_wp2_with fail
         go_meet
         exact ⟨by rw [HT.out]; rfl, rfl⟩
       · obtain rfl : e1 = false := by rw [He1.out]; cases h : getF l ctN with | nil => exact absurd h h0 | cons _ _ => rfl
         rw [if_neg h0] at hty
         have HT := Lib.hid hty
         clear hty h0
         go_wp2_with fail
         go_meet
         exact ⟨by rw [HT.out], rfl⟩
      case rest =>
       obtain ⟨rfl, hwc⟩ := hcut
       subst hwc
       have hUb : U8Ok wb := HUB.below ((HK.out _ hbab).2.2.1.1)
       go_wp2_with fail
       refine (Hpr.out _ hUb).mono ?_
       rintro e wd ⟨S2, cs2, rfl, hsl2, hsm2, hlc2, hcm2, hbd⟩
       simp only at hsm2
       simp only at hlc2 hsl2
       have hbad := hbab.trans (hbd.mono hbab.size)
       have hR := HR0.out
       by_cases hqe : qe ≠ 0
       · rw [if_pos hqe] at hR
         have HR := Lib.hid hR
         have dqe : ((qe : Int) != 0) = true := by simp; omega
         have hqe0 : qe ≠ 0 := hqe
         clear hR hqe hsl2
         obtain ⟨hbxF, hbnF, hrdF, hgrF⟩ := HK.out _ hbad
         have ⟨⟨y0, y1, y2, y3, y4, y5, y6⟩, yf⟩ := hbnF
         have ⟨⟨z0, z1, z2, z3, z4, z5, z6⟩, zf⟩ := hbxF
         have hbx9 := BoxF.set7 (w := wd) (b := w.heap.size) hbxF (.string ⟨#[]⟩) (.string ⟨#[]⟩) (.string ⟨#[]⟩) (.string ⟨#[]⟩) (.int .i64 0) (.slice none 0 0) (.slice none 0 0)
         have hen9 := brbox_end hrdF.2.2.2.2.1 hgl hgrF (.string ⟨#[]⟩) (.string ⟨#[]⟩) (.string ⟨#[]⟩) (.string ⟨#[]⟩) (.int .i64 0) (.slice none 0 0) (.slice none 0 0)
         have Hb9 := Lib.hid (And.intro hbx9 hen9)
         clear hbx9 hen9 hbxF hbnF hrdF hgrF
         go_wp2_with fail
         generalize hw9 : (((((((wd.setCell ⟨w.heap.size, 0, none⟩ (.string ⟨#[]⟩)).setCell ⟨w.heap.size, 1, none⟩ (.string ⟨#[]⟩)).setCell ⟨w.heap.size, 2, none⟩ (.string ⟨#[]⟩)).setCell ⟨w.heap.size, 3, none⟩ (.string ⟨#[]⟩)).setCell ⟨w.heap.size, 4, none⟩ (.int .i64 0)).setCell ⟨w.heap.size, 5, none⟩ (.slice none 0 0)).setCell ⟨w.heap.size, 6, none⟩ (.slice none 0 0)) = w9 at *
         obtain ⟨hbx9, hen9⟩ := Hb9.out
         obtain ⟨k0, k1, k2, k3, k4, k5, k6⟩ := hbx9
         refine bodyPost_ret (v := .tuple #[.agg #[.string ⟨#[]⟩, .string ⟨#[]⟩, .string ⟨#[]⟩, .string ⟨#[]⟩, .int .i64 0, .slice none 0 0, .slice none 0 0], .int .i64 (qe : Nat)]) (by simp [results, Tryz.results37, go_sem, k0, k1, k2, k3, k4, k5, k6]) rfl ?_
         rw [HR.out]
         exact ⟨[], [], [], [], 0, none, 0, 0, none, 0, 0, _, rfl, fun h0 => absurd h0 (by show ¬ ((qe : Nat) = 0); omega), hen9.1, hen9.2⟩
       · obtain rfl : qe = 0 := by omega
         rw [if_neg (by simp)] at hR
         have HR1 := Lib.hid hR
         have Hsl2 := Lib.hid hsl2
         clear hR hsl2 hqe
         obtain ⟨hpn, hml⟩ := params_names HQ.out
         have Hpn := Lib.hid hpn
         clear hpn
         have hsw1 : w.heap.size + 2 ≤ W1.heap.size := Nat.le_of_eq Hs1.out.symm
         have hszd : w.heap.size + 2 ≤ wd.heap.size := Nat.le_trans hsw1 hbad.size
         have hbsd := hbb.trans (hbd.mono hbb.size)
         have hg2 := Hget.out idL idN low_names.2.1 Hacl.out.2.1 S cs wd.heap.size wd ((Hsl.out.below hbsd).more hbsd.size) (Nat.le_refl _)
         have Hg2 := Lib.hid hg2
         have hidv := (Hval.out idN).1
         have hlcv := (Hval.out locN).1
         obtain ⟨gi, hgi⟩ : ∃ x, x = getF l idN := ⟨_, rfl⟩
         obtain ⟨lv, hlv⟩ : ∃ x, x = getF l locN := ⟨_, rfl⟩
         obtain ⟨iv, hiv⟩ : ∃ x, x = idM gi := ⟨_, rfl⟩
         have hlvl : lv.length ≤ 900 := by rw [hlv]; exact hlcv
         have hgil : gi.length ≤ 900 := by rw [hgi]; exact hidv
         rw [← hgi] at Hg2
         have Hgi := Lib.hid hgi
         have Hlv := Lib.hid hlv
         have Hiv := Lib.hid hiv
         clear hg2 hidv hgi hlv hiv
         go_wp2_with fail
         refine Hg2.out.mono ?_
         rintro e we ⟨rfl, hbe⟩
         have hbae := hbad.trans (hbe.mono hbad.size)
         have hbsl := hbsd.trans (hbe.mono hbsd.size)
         have hg3 := Hget.out locL locN low_names.2.2.1 Hacl.out.2.2.1 S cs we.heap.size we ((Hsl.out.below hbsl).more hbsl.size) (Nat.le_refl _)
         rw [← Hlv.out] at hg3
         have Hg3 := Lib.hid hg3
         clear hg3
         go_wp2_with fail
         refine Hg3.out.mono ?_
         rintro e wg ⟨rfl, hbg⟩
         have hbag := hbae.trans (hbg.mono hbae.size)
         have hbsg := hbsl.trans (hbg.mono hbsl.size)
         have hbs2 := hbe.trans (hbg.mono hbe.size)
         obtain ⟨V, hV⟩ : ∃ V, V = wg.alloc (.cells #[str main, .string ⟨#[]⟩, str gi, str lv, .int .i64 0, .slice none 0 0, .slice none 0 0] 25) := ⟨_, rfl⟩
         have hbV : Below wg.heap.size wg V := by rw [hV]; exact (Below.refl _ wg).alloc (Nat.le_refl _) _
         have hbxV : BoxF V wg.heap.size (str main) (.string ⟨#[]⟩) (str gi) (str lv) (.int .i64 0) (.slice none 0 0) (.slice none 0 0) := BoxF.of_block (t := 25) (by rw [hV]; exact heap_alloc_new wg _)
         have hszV : V.heap.size = wg.heap.size + 1 := by rw [hV]; simp
         have hbaV := hbag.trans (hbV.mono hbag.size)
         have hbsV := hbsg.trans (hbV.mono hbsg.size)
         have hbs2V := hbs2.trans (hbV.mono hbs2.size)
         have hszg : w.heap.size + 2 ≤ wg.heap.size := Nat.le_trans hsw1 hbag.size
         have hw1g : W1.heap.size ≤ wg.heap.size := hbag.size
         have hwag : wa.heap.size ≤ wg.heap.size := hbsg.size
         have HV := Lib.hid hV
         have HbxV := Lib.hid hbxV
         have HbV := Lib.hid hbV
         have ⟨⟨x0, x1, x2, x3, x4, x5, x6⟩, xf⟩ := hbxV
         have HB3 := Lib.hid (And.intro hbag (And.intro hbsg hbs2))
         obtain ⟨q, hq⟩ : ∃ q, q = decide (2 ≤ gi.length ∧ nth gi 0 = 60 ∧ nth gi (gi.length - 1) = 62) := ⟨_, rfl⟩
         have Hq := Lib.hid hq
         clear hbe hbg hV hbV hbae hbag hbsl hbsg hbs2 hbxV hbaV hbsV hbs2V hq
         go_upto_region 15 with fail
         rw [← HV.out]
         go_upto_region 16 with fail
         go_cut [83] from 68 to 83 (fun s83 wx => s83 = .bool q ∧ V = wx)
         case first =>
          have hq := Hq.out
          by_cases h2 : 2 ≤ gi.length
          · have d2 : decide ((2 : Int) ≤ (gi.length : Int)) = true := by simp; omega
            have i2 : (0 : Int) < (gi.length : Int) := by omega
            have i3 : (0 : Int) ≤ (gi.length : Int) - 1 := by omega
            have i4 : (gi.length : Int) - 1 < (gi.length : Int) := by omega
            have i5 : ((gi.length : Int) - 1).toNat = gi.length - 1 := by omega
            by_cases h60 : nth gi 0 = 60
            · have e60 : ((nth gi 0 : Int) == 60) = true := by simp [h60]
              by_cases h62 : nth gi (gi.length - 1) = 62
              · have e62 : ((nth gi (gi.length - 1) : Int) == 62) = true := by simp [h62]
                obtain rfl : q = true := by rw [hq]; simp [h2, h60, h62]
                clear h2 h60 h62 hq
                go_wp2_with fail
                go_meet
                exact ⟨rfl, rfl⟩
              · have e62 : ((nth gi (gi.length - 1) : Int) == 62) = false := by simp; omega
                obtain rfl : q = false := by rw [hq]; simp [h62]
                clear h2 h60 h62 hq
                go_wp2_with fail
                go_meet
                exact ⟨rfl, rfl⟩
            · have e60 : ((nth gi 0 : Int) == 60) = false := by simp; omega
              obtain rfl : q = false := by rw [hq]; simp [h60]
              clear h2 h60 hq
              go_wp2_with fail
              go_meet
              exact ⟨rfl, rfl⟩
          · have d2 : decide ((2 : Int) ≤ (gi.length : Int)) = false := by simp; omega
            obtain rfl : q = false := by rw [hq]; simp [h2]
            clear h2 hq
            go_wp2_with fail
            go_meet
            exact ⟨rfl, rfl⟩
         case rest =>
          obtain ⟨rfl, hwc⟩ := hcut
          subst hwc
          go_upto_if 83 with (fail)
          go_cut [] from 84 to 89 (fun wx => BoxF wx wg.heap.size (str main) (.string ⟨#[]⟩) (str iv) (str lv) (.int .i64 0) (.slice none 0 0) (.slice none 0 0) ∧ Below wg.heap.size wg wx)
          case first =>
           have hbox := HbxV.out
           have hbelV := HbV.out
           have hivv := Hiv.out
           have hq := Hq.out
           cases q with
           | true =>
            obtain ⟨h2, h60, h62⟩ := of_decide_eq_true hq.symm
            rw [idM_yes h2 h60 h62, List.drop_one] at hivv
            have hb2 := hbox.m2 (str iv)
            have hbe2 := below_set8 hbelV (b := wg.heap.size) (Nat.le_refl _) 2 (str iv)
            have Hbb := Lib.hid (And.intro hb2 hbe2)
            have Hivv := Lib.hid hivv
            have i6 : (1 : Int) ≤ (gi.length : Int) - 1 := by omega
            have i7 : (gi.length : Int) - 1 ≤ (gi.length : Int) := by omega
            have i5 : ((gi.length : Int) - 1).toNat = gi.length - 1 := by omega
            clear h2 h60 h62 hivv hb2 hbe2 hbox hbelV hq
            go_wp2_with fail
            go_meet
            rw [← Hivv.out]
            exact Hbb.out
           | false =>
            have hno : ¬ 2 ≤ gi.length ∨ nth gi 0 ≠ 60 ∨ nth gi (gi.length - 1) ≠ 62 := by
             have := of_decide_eq_false hq.symm
             omega
            rw [idM_no hno] at hivv
            have Hbb := Lib.hid (And.intro hbox hbelV)
            have Hivv := Lib.hid hivv
            clear hivv hbox hbelV hq hno
            go_wp2_with fail
            go_meet
            rw [Hivv.out]
            exact Hbb.out
          case rest =>
           obtain ⟨hbxC, hbgC⟩ := hcut
           obtain ⟨V3, rfl⟩ : ∃ x, x = wc := ⟨_, rfl⟩
           have hivl : iv.length ≤ 900 := by
            rw [Hiv.out]
            unfold idM
            split
            · rw [List.length_drop, List.length_take]; omega
            · exact hgil
           obtain ⟨hbag, hbsg, hbs2⟩ := HB3.out
           have hbaC := hbag.trans (hbgC.mono hbag.size)
           have hbsC := hbsg.trans (hbgC.mono hbsg.size)
           have hbs2C := hbs2.trans (hbgC.mono hbs2.size)
           have hgC : wg.heap.size < V3.heap.size := hbxC.lt_
           have HbxC := Lib.hid hbxC
           have hma := IsMany_any main V3 (by unfold maxLen; omega)
           have hR1 := HR1.out
           have e0 : (0 : Int) ≤ (at_ : Int) := by omega
           have e1 : (at_ : Int) ≤ n := by omega
           clear hbag hbsg hbs2 hbgC hbxC x0 x1 x2 x3 x4 x5 x6 xf
           by_cases hmn : manyB main = true
           · skip
             rw [hmn] at hma hR1
             rw [if_pos rfl] at hR1
             have HR2 := Lib.hid hR1
             have Hma := Lib.hid hma
             have hgb := RGot_ascii ps boundN boundN S2 ps.length cs2 V3.heap.size V3 rfl ((Hsl2.out.below hbs2C).more hbs2C.size) (Nat.le_refl _) (Nat.le_trans hlc2 hcm2) Hpn.out Hacl.out.2.2.2.2.1
             have hbl := get_max boundN ps hsm2
             have hmy : manyM k cnt l (b.drop at_) main ps = if (splitM (b.drop at_) (getF ps boundN)).2 ≠ 0 then (zeroPD, cnt + 1, (splitM (b.drop at_) (getF ps boundN)).2)
              else if (eachM (partM k) (splitM (b.drop at_) (getF ps boundN)).1 (cnt + 1) []).2.2 ≠ 0 then (zeroPD, (eachM (partM k) (splitM (b.drop at_) (getF ps boundN)).1 (cnt + 1) []).2.1, (eachM (partM k) (splitM (b.drop at_) (getF ps boundN)).1 (cnt + 1) []).2.2)
              else (⟨main, [], idM (getF l idN), getF l locN, 0, [], (eachM (partM k) (splitM (b.drop at_) (getF ps boundN)).1 (cnt + 1) []).1⟩, (eachM (partM k) (splitM (b.drop at_) (getF ps boundN)).1 (cnt + 1) []).2.1, 0) := rfl
             obtain ⟨bv, hbv⟩ : ∃ x, x = getF ps boundN := ⟨_, rfl⟩
             rw [← hbv] at hgb hbl hmy
             have Hgb := Lib.hid hgb
             have Hmy := Lib.hid hmy
             have hlb := HB1.out.len
             have hrl : (b.drop at_).length ≤ 40000 := by rw [List.length_drop]; omega
             clear hgb hmy hbv hR1 hma hmn
             by_cases hbz : bv = [] ∨ 60 < bv.length
             · have hmy := Hmy.out
               rw [show splitM (b.drop at_) bv = ([], 3) from by unfold splitM; rw [if_neg (by omega), if_pos hbz], if_pos (by decide)] at hmy
               have hR := HR2.out.trans hmy
               have HR := Lib.hid hR
               by_cases hb0 : bv = []
               · obtain ⟨z1, hz1⟩ : ∃ z, z = bv.isEmpty := ⟨_, rfl⟩
                 have q3 : bv.isEmpty = true := by rw [hb0]; rfl
                 have q4 : (bv == []) = true := by rw [hb0]; rfl
                 clear hmy hR hbz hb0 hz1
                 go_wp2_with fail
                 refine Hma.out.mono ?_
                 rintro e wh ⟨rfl, rfl⟩
                 go_wp2_with fail
                 refine Hgb.out.mono ?_
                 rintro e wi ⟨rfl, hbi⟩
                 have hbaI := hbaC.trans (hbi.mono hbaC.size)
                 clear hbi
                 obtain ⟨hbxF, hbnF, hrdF, hgrF⟩ := HK.out _ hbaI
                 have ⟨⟨y0, y1, y2, y3, y4, y5, y6⟩, yf⟩ := hbnF
                 have ⟨⟨z0, z1, z2, z3, z4, z5, z6⟩, zf⟩ := hbxF
                 have hbx9 := BoxF.set7 (w := wi) (b := w.heap.size) hbxF (.string ⟨#[]⟩) (.string ⟨#[]⟩) (.string ⟨#[]⟩) (.string ⟨#[]⟩) (.int .i64 0) (.slice none 0 0) (.slice none 0 0)
                 have hen9 := brbox_end hrdF.2.2.2.2.1 hgl hgrF (.string ⟨#[]⟩) (.string ⟨#[]⟩) (.string ⟨#[]⟩) (.string ⟨#[]⟩) (.int .i64 0) (.slice none 0 0) (.slice none 0 0)
                 have Hb9 := Lib.hid (And.intro hbx9 hen9)
                 clear hbx9 hen9 hbxF hbnF hrdF hgrF
                 go_wp2_with fail
                 obtain ⟨hbx9, hen9⟩ := Hb9.out
                 generalize hw9 : (((((((wi.setCell ⟨w.heap.size, 0, none⟩ (.string ⟨#[]⟩)).setCell ⟨w.heap.size, 1, none⟩ (.string ⟨#[]⟩)).setCell ⟨w.heap.size, 2, none⟩ (.string ⟨#[]⟩)).setCell ⟨w.heap.size, 3, none⟩ (.string ⟨#[]⟩)).setCell ⟨w.heap.size, 4, none⟩ (.int .i64 0)).setCell ⟨w.heap.size, 5, none⟩ (.slice none 0 0)).setCell ⟨w.heap.size, 6, none⟩ (.slice none 0 0)) = w9 at hbx9 hen9 ⊢
                 clear hw9
                 obtain ⟨k0, k1, k2, k3, k4, k5, k6⟩ := hbx9
                 refine bodyPost_ret (v := .tuple #[.agg #[.string ⟨#[]⟩, .string ⟨#[]⟩, .string ⟨#[]⟩, .string ⟨#[]⟩, .int .i64 0, .slice none 0 0, .slice none 0 0], .int .i64 (3 : Nat)]) (by simp [results, Tryz.results37, go_sem, k0, k1, k2, k3, k4, k5, k6]) rfl ?_
                 rw [HR.out]
                 exact ⟨[], [], [], [], 0, none, 0, 0, none, 0, 0, _, rfl, fun h0 => absurd h0 (by show ¬ ((3 : Nat) = 0); omega), hen9.1, hen9.2⟩
               · have q3 : bv.isEmpty = false := by cases bv with | nil => exact absurd rfl hb0 | cons _ _ => rfl
                 have q4 : (bv == []) = false := beq_eq_false_iff_ne.2 hb0
                 have q5 : decide ((60 : Int) < (bv.length : Int)) = true := by rcases hbz with h | h; exact absurd h hb0; simp; omega
                 clear hmy hR hbz hb0
                 go_wp2_with fail
                 refine Hma.out.mono ?_
                 rintro e wh ⟨rfl, rfl⟩
                 go_wp2_with fail
                 refine Hgb.out.mono ?_
                 rintro e wi ⟨rfl, hbi⟩
                 have hbaI := hbaC.trans (hbi.mono hbaC.size)
                 clear hbi
                 obtain ⟨hbxF, hbnF, hrdF, hgrF⟩ := HK.out _ hbaI
                 have ⟨⟨y0, y1, y2, y3, y4, y5, y6⟩, yf⟩ := hbnF
                 have ⟨⟨z0, z1, z2, z3, z4, z5, z6⟩, zf⟩ := hbxF
                 have hbx9 := BoxF.set7 (w := wi) (b := w.heap.size) hbxF (.string ⟨#[]⟩) (.string ⟨#[]⟩) (.string ⟨#[]⟩) (.string ⟨#[]⟩) (.int .i64 0) (.slice none 0 0) (.slice none 0 0)
                 have hen9 := brbox_end hrdF.2.2.2.2.1 hgl hgrF (.string ⟨#[]⟩) (.string ⟨#[]⟩) (.string ⟨#[]⟩) (.string ⟨#[]⟩) (.int .i64 0) (.slice none 0 0) (.slice none 0 0)
                 have Hb9 := Lib.hid (And.intro hbx9 hen9)
                 clear hbx9 hen9 hbxF hbnF hrdF hgrF
                 go_wp2_with fail
                 obtain ⟨hbx9, hen9⟩ := Hb9.out
                 generalize hw9 : (((((((wi.setCell ⟨w.heap.size, 0, none⟩ (.string ⟨#[]⟩)).setCell ⟨w.heap.size, 1, none⟩ (.string ⟨#[]⟩)).setCell ⟨w.heap.size, 2, none⟩ (.string ⟨#[]⟩)).setCell ⟨w.heap.size, 3, none⟩ (.string ⟨#[]⟩)).setCell ⟨w.heap.size, 4, none⟩ (.int .i64 0)).setCell ⟨w.heap.size, 5, none⟩ (.slice none 0 0)).setCell ⟨w.heap.size, 6, none⟩ (.slice none 0 0)) = w9 at hbx9 hen9 ⊢
                 clear hw9
                 obtain ⟨k0, k1, k2, k3, k4, k5, k6⟩ := hbx9
                 refine bodyPost_ret (v := .tuple #[.agg #[.string ⟨#[]⟩, .string ⟨#[]⟩, .string ⟨#[]⟩, .string ⟨#[]⟩, .int .i64 0, .slice none 0 0, .slice none 0 0], .int .i64 (3 : Nat)]) (by simp [results, Tryz.results37, go_sem, k0, k1, k2, k3, k4, k5, k6]) rfl ?_
                 rw [HR.out]
                 exact ⟨[], [], [], [], 0, none, 0, 0, none, 0, 0, _, rfl, fun h0 => absurd h0 (by show ¬ ((3 : Nat) = 0); omega), hen9.1, hen9.2⟩
             · have hb0 : bv ≠ [] := fun h => hbz (.inl h)
               have hb6 : bv.length ≤ 60 := by omega
               have q3 : bv.isEmpty = false := by cases bv with | nil => exact absurd rfl hb0 | cons _ _ => rfl
               have q4 : (bv == []) = false := beq_eq_false_iff_ne.2 hb0
               have q5 : decide ((60 : Int) < (bv.length : Int)) = false := by simp; omega
               have hspl : ∀ x ∈ (splitM (b.drop at_) bv).1, x.length ≤ 40000 := split_small (b.drop at_) bv hrl
               have hspn := split_many (b.drop at_) bv hrl
               have hlp := splitM_lpA hrl hb0 hb6
               have hler := lpA_err bv (linesA (b.drop at_)) false [] []
               rw [← hlp] at hler
               have hsp := fun X (hX : Below W1.heap.size W1 X) => SplitBy_any (b.drop at_) bv (cutA A c at_ 1) (n - at_) (c - at_) X (HMB.below ((HK.out X hX).2.2.1.1)) (((HB1.out.below hX).more hX.size).cut (k := at_) (c := c) hat2 hn) (by omega) hb6
               rw [← hlp] at hsp
               obtain ⟨L, se, hSp⟩ : ∃ L se, splitM (b.drop at_) bv = (L, se) := ⟨_, _, rfl⟩
               have hmy := Hmy.out
               rw [hSp] at hmy hspl hspn hsp hler
               have HMy := Lib.hid hmy
               have Hsp := Lib.hid hsp
               have Hspl := Lib.hid hspl
               have hspn' : L.length ≤ 40000 := hspn
               have Hler := Lib.hid hler
               clear hspl hspn hlp hler hsp hSp hmy hb0 hbz
               go_wp2_with fail
               refine Hma.out.mono ?_
               rintro e wh ⟨rfl, rfl⟩
               go_wp2_with fail
               refine Hgb.out.mono ?_
               rintro e wi ⟨rfl, hbi⟩
               have hbaI := hbaC.trans (hbi.mono hbaC.size)
               go_wp2_with fail
               refine (Hsp.out _ hbaI).mono ?_
               rintro e wS ⟨S7, c7, vs7, v7, rfl, hs7, hr7, hbm⟩
               have hbaS := hbaI.trans (hbm.mono hbaI.size)
               have hbCS := hbi.trans (hbm.mono hbi.size)
               have hbxS := HbxC.out.below hbCS hgC
               have hszS : wh.heap.size ≤ wS.heap.size := hbCS.size
               have hszi : wh.heap.size ≤ wi.heap.size := hbi.size
               have hmy := HMy.out
               by_cases hse : se ≠ 0
               · have hL0 : L = [] := Hler.out hse
                 subst hL0
                 rw [if_pos hse] at hmy
                 have hR := HR2.out.trans hmy
                 have HR := Lib.hid hR
                 have hse0 : se ≠ 0 := hse
                 obtain ⟨hbxR, hbnR, hrdR, hgrR⟩ := HK.out wS hbaS
                 have HbxS := Lib.hid hbxS
                 have HR9 := Lib.hid (And.intro hbxR (And.intro hrdR hgrR))
                 clear hmy hR hse hs7 hr7 hbxS hbxR hbnR hrdR hgrR hbi hbm hbCS
                 go_wp2_with fail
                 go_loopw [113] (fun vi wr => vi = .int .i64 0 ∧ wr = wS) (fun _ _ => 0)
                 case atStart => exact ⟨rfl, rfl⟩
                 case round =>
                  obtain ⟨rfl, rfl⟩ := hrel
                  obtain ⟨hbxR, hrdR, hgrR⟩ := HR9.out
                  have hbxE := HbxS.out
                  have hbx9 := BoxF.set7 (w := wr) (b := w.heap.size) hbxR (str main) (.string ⟨#[]⟩) (str iv) (str lv) (.int .i64 0) (.slice none 0 0) (.slice none 0 0)
                  have hen9 := brbox_end hrdR.2.2.2.2.1 hgl hgrR (str main) (.string ⟨#[]⟩) (str iv) (str lv) (.int .i64 0) (.slice none 0 0) (.slice none 0 0)
                  have hsb9 := set7_block wr w.heap.size (str main) (.string ⟨#[]⟩) (str iv) (str lv) (.int .i64 0) (.slice none 0 0) (.slice none 0 0)
                  have ⟨⟨z0, z1, z2, z3, z4, z5, z6⟩, zf⟩ := hbxR
                  have ⟨⟨y0, y1, y2, y3, y4, y5, y6⟩, yf⟩ := hbxE
                  have Hb9 := Lib.hid (And.intro hbx9 (And.intro hen9 hsb9))
                  clear hbx9 hen9 hsb9 hbxR hbxE hrdR hgrR
                  go_wp2_with fail
                  obtain ⟨hbx9, hen9, hsb9⟩ := Hb9.out
                  generalize hw9 : (((((((wr.setCell ⟨w.heap.size, 0, none⟩ (str main)).setCell ⟨w.heap.size, 1, none⟩ (.string ⟨#[]⟩)).setCell ⟨w.heap.size, 2, none⟩ (str iv)).setCell ⟨w.heap.size, 3, none⟩ (str lv)).setCell ⟨w.heap.size, 4, none⟩ (.int .i64 0)).setCell ⟨w.heap.size, 5, none⟩ (.slice none 0 0)).setCell ⟨w.heap.size, 6, none⟩ (.slice none 0 0)) = w9 at hbx9 hen9 hsb9 ⊢
                  clear hw9
                  obtain ⟨k0, k1, k2, k3, k4, k5, k6⟩ := hbx9
                  refine bodyPost_ret (v := .tuple #[.agg #[str main, .string ⟨#[]⟩, str iv, str lv, .int .i64 0, .slice none 0 0, .slice none 0 0], .int .i64 (se : Nat)]) (by simp [results, Tryz.results37, go_sem, k0, k1, k2, k3, k4, k5, k6]) rfl ?_
                  rw [HR.out]
                  exact ⟨main, [], iv, lv, 0, none, 0, 0, none, 0, 0, _, rfl, fun h0 => absurd h0 (by show ¬ (se = 0); omega), hen9.1, hen9.2⟩
               · obtain rfl : se = 0 := by omega
                 rw [if_neg (by simp)] at hmy
                 have Hmy2 := Lib.hid hmy
                 clear hmy hse
                 obtain ⟨hbxR, hbnR, hrdR, hgrR⟩ := HK.out wS hbaS
                 obtain ⟨E, hE⟩ : ∃ E, E = eachM (partM k) L (cnt + 1) [] := ⟨_, rfl⟩
                 have hmy3 := Hmy2.out
                 rw [← hE] at hmy3
                 have Hmy3 := Lib.hid hmy3
                 have HE := Lib.hid hE
                 have Hs7 := Lib.hid hs7
                 have Hr7 := Lib.hid hr7
                 have Hini := Lib.hid (And.intro hbxS (And.intro hrdR (And.intro hbxR (And.intro hbnR hgrR))))
                 have hWs : w.heap.size + 2 ≤ wS.heap.size := by omega
                 have hWg : w.heap.size + 2 ≤ wg.heap.size := by omega
                 clear hmy3 hE hs7 hr7 hbxS hrdR hbxR hbnR hgrR hbi hbm hbCS
                 go_wp2_with fail
                 go_loopw [7, 113] (BrRel wB w wS g h wg.heap.size k main iv lv L E) (fun _ vi _ => L.length - (intOf vi).toNat)
                 case atStart =>
                  obtain ⟨i1, i2, i3, i4, i5⟩ := Hini.out
                  exact ⟨0, 0, 0, none, [], [], cnt + 1, rfl, rfl, Nat.zero_le _, Nat.le_refl _, Nat.le_refl _, Nat.zero_le _, i1, World.ownsRow_nil _ _ _ _, rfl, i2, by omega, i3, i4, i5, ⟨Nat.le_refl _, fun _ _ _ _ => rfl⟩, HE.out.symm⟩
                 case round =>
                  obtain ⟨i, m, cs6, S6, rows, out, cn, rfl, rfl, hi, hmi, hmc, hcm6, hbxP, hown, hrows, hrdr, hcn, hbxr, hbnr, hgrr, hkp, hEE⟩ := hrel
                  by_cases hin : i < L.length
                  · obtain ⟨x, hx⟩ : ∃ x, L.drop i = x :: L.drop (i + 1) := ⟨L[i], List.drop_eq_getElem_cons hin⟩
                    have hxi : L[i]? = some x := by rw [← List.head?_drop, hx]; rfl
                    obtain ⟨A8, d8, hv8, hs8, hd8, hm8⟩ := Hr7.out.2 i x hxi
                    obtain ⟨bS, offS, hS7, hbS, hcS⟩ := Hs7.out.2 (by omega)
                    subst hS7
                    have hneS : bS ≠ g ∧ bS ≠ wg.heap.size := ⟨by have := hbS.1; omega, by have := hbS.1; omega⟩
                    have k0 : wr.cell? ⟨bS, offS + i, none⟩ = some (.slice A8 x.length d8) := (World.cell?_of_block (a := ⟨bS, offS + i, none⟩) (hkp.2 bS hbS.2 hneS.1 hneS.2)).trans (hcS i _ hv8)
                    have hxl := Hspl.out x (List.mem_of_mem_drop (i := i) (by rw [hx]; simp))
                    have hbx8 : SlS (fun bl => bl < wr.heap.size ∧ bl ≠ g) wr 1 A8 x.length (Lib.byteCells x) := SlS.change hs8 (fun q hq => ⟨by have := hq.2.1; have := hkp.1; omega, by have := hq.1; omega⟩) (fun q hq => World.cell?_of_block (hkp.2 _ hq.2.1 (by have := hq.1; omega) (by have := hq.1; omega)))
                    have hrec := Hih.out x A8 x.length d8 cn (d + 1) wr (by omega) (by omega) hbx8 hd8 hm8 hxl hcn hrdr
                    have hcnt2 := partM_cnt k cn x
                    have hEE2 := hEE.out
                    rw [hx, eachM] at hEE2
                    obtain ⟨q, cn2, qe, hr⟩ : ∃ q cn2 qe, partM k cn x = (q, cn2, qe) := ⟨_, _, _, rfl⟩
                    rw [hr] at hrec hcnt2 hEE2
                    simp only at hcnt2 hEE2
                    have Hrec := Lib.hid hrec
                    have HE2 := Lib.hid hEE2
                    have Hcnt2 := Lib.hid hcnt2
                    have hltr := hbxr.lt_
                    have hltn := hbnr.lt_
                    have hltp := hbxP.lt_
                    have hfn := hrdr.2.2.2.2.2.cell
                    unfold rdFv at hfn
                    have Hst := Lib.hid (And.intro hbxP (And.intro hown (And.intro hrows (And.intro hbxr (And.intro hbnr (And.intro hgrr (And.intro hkp hrdr)))))))
                    have hszr := hkp.1
                    clear hx hxi hv8 hs8 hbS hcS hneS hbx8 hrec hcnt2 hEE2 hEE hr hbxP hown hrows hbxr hbnr hgrr hkp hrdr
                    have eg := enters_of Tryz.func37 (by kernel_rfl) rfl
                    go_wp2_with fail
                    refine Hrec.out.mono ?_
                    rintro e w1 ⟨s0, s1, s2, s3, hx4, Aq, nq1, cq, Aq2, nq2, cq2, cn1, rfl, hpt, hcn1, hg1⟩
                    simp only at hpt
                    obtain ⟨hbxP, hown, hrows, hbxr, hbnr, hgrr, hkp, hrdr⟩ := Hst.out
                    have hrd1 := hrdr.grown hg1 hcn1
                    have hbxP1 := hbxP.same_ (hg1.block _ hltp (by intro e; injection e with e; omega))
                    have hbxr1 := hbxr.same_ (hg1.block _ hltr (by intro e; injection e with e; omega))
                    have hbnr1 := hbnr.same_ (hg1.block _ hltn (by intro e; injection e with e; omega))
                    have hgr1' := gM_tr hgrr hg1
                    have hown1 := hown.kept hg1 (.inr (by intro e; have := (hown.lt _ e).1; omega))
                    have hrows1 : PartsAt (NewB wS.heap.size (.slice S6 m cs6) w1) w1 out rows := PartsAt.change (fun z hz => ⟨hz.1, Nat.lt_of_lt_of_le hz.2.1 hg1.size, hz.2.2⟩) (fun z hz => World.cell?_of_block (hg1.block _ hz.2.1 (by intro e; injection e with e; have := hz.1; omega))) _ _ hrows
                    have hkp1 : KeptB g wg.heap.size wS w1 := ⟨Nat.le_trans hkp.1 hg1.size, fun j hj h1 h2 => (hg1.block j (Nat.lt_of_lt_of_le hj hkp.1) (by intro e; injection e with e; exact h1 e)).trans (hkp.2 j hj h1 h2)⟩
                    have hsz1 : wr.heap.size ≤ w1.heap.size := hg1.size
                    obtain ⟨W2, hW2⟩ : ∃ W2, W2 = w1.alloc (.cells #[str s0, str s1, str s2, str s3, .int .i64 hx4, .slice Aq nq1 cq, .slice Aq2 nq2 cq2] 25) := ⟨_, rfl⟩
                    have hb2 : Below w1.heap.size w1 W2 := by rw [hW2]; exact (Below.refl _ w1).alloc (Nat.le_refl _) _
                    have hsz2 : W2.heap.size = w1.heap.size + 1 := by rw [hW2]; simp
                    have hbxK : Box7 W2 w1.heap.size (str s0) (str s1) (str s2) (str s3) (.int .i64 hx4) (.slice Aq nq1 cq) (.slice Aq2 nq2 cq2) := by rw [hW2]; exact Box7.new w1 _ _ _ _ _ _ _ _
                    have hbxP2 := hbxP1.below hb2 (by omega)
                    have hbxr2 := hbxr1.below hb2 (by omega)
                    have hbnr2 := hbnr1.below hb2 (by omega)
                    have hrd2 := hrd1.below hb2
                    have hgr2' := gM_below hgr1' hb2
                    have HW2 := Lib.hid hW2
                    by_cases hqe : qe ≠ 0
                    · have hEv := HE2.out
                      rw [if_neg hqe] at hEv
                      have hmy3 := Hmy3.out
                      rw [← hEv] at hmy3
                      rw [if_pos hqe] at hmy3
                      have hR := HR2.out.trans hmy3
                      have HR := Lib.hid hR
                      have dqe2 : ((qe : Int) != 0) = true := by simp; omega
                      have hqe0 : qe ≠ 0 := hqe
                      have ⟨⟨y0, y1, y2, y3, y4, y5, y6⟩, yf⟩ := hbnr2
                      have ⟨⟨z0, z1, z2, z3, z4, z5, z6⟩, zf⟩ := hbxr2
                      have hbx9 := BoxF.set7 (w := W2) (b := w.heap.size) hbxr2 (.string ⟨#[]⟩) (.string ⟨#[]⟩) (.string ⟨#[]⟩) (.string ⟨#[]⟩) (.int .i64 0) (.slice none 0 0) (.slice none 0 0)
                      have hen9 := brbox_end hrd2.2.2.2.2.1 hgl hgr2' (.string ⟨#[]⟩) (.string ⟨#[]⟩) (.string ⟨#[]⟩) (.string ⟨#[]⟩) (.int .i64 0) (.slice none 0 0) (.slice none 0 0)
                      have Hb9 := Lib.hid (And.intro hbx9 hen9)
                      clear hEv hmy3 hR hqe hbxP hown hrows hbxr hbnr hgrr hkp hrdr hbxP1 hbxr1 hbnr1 hgr1' hown1 hrows1 hkp1 hb2 hbxK hbxP2 hbxr2 hbnr2 hrd2 hgr2' hpt hrd1 hg1 hcn1 hW2 hbx9 hen9 k0 hfn
                      go_upto_region 28 with fail
                      rw [← HW2.out]
                      go_wp2_with fail
                      obtain ⟨hbx9, hen9⟩ := Hb9.out
                      generalize hw9 : (((((((W2.setCell ⟨w.heap.size, 0, none⟩ (.string ⟨#[]⟩)).setCell ⟨w.heap.size, 1, none⟩ (.string ⟨#[]⟩)).setCell ⟨w.heap.size, 2, none⟩ (.string ⟨#[]⟩)).setCell ⟨w.heap.size, 3, none⟩ (.string ⟨#[]⟩)).setCell ⟨w.heap.size, 4, none⟩ (.int .i64 0)).setCell ⟨w.heap.size, 5, none⟩ (.slice none 0 0)).setCell ⟨w.heap.size, 6, none⟩ (.slice none 0 0)) = w9 at hbx9 hen9 ⊢
                      clear hw9
                      obtain ⟨k0, k1, k2, k3, k4, k5, k6⟩ := hbx9
                      refine bodyPost_ret (v := .tuple #[.agg #[.string ⟨#[]⟩, .string ⟨#[]⟩, .string ⟨#[]⟩, .string ⟨#[]⟩, .int .i64 0, .slice none 0 0, .slice none 0 0], .int .i64 (qe : Nat)]) (by simp [results, Tryz.results37, go_sem, k0, k1, k2, k3, k4, k5, k6]) rfl ?_
                      rw [HR.out]
                      exact ⟨[], [], [], [], 0, none, 0, 0, none, 0, 0, _, rfl, fun h0 => absurd h0 (by show ¬ ((qe : Nat) = 0); omega), hen9.1, hen9.2⟩
                    · obtain rfl : qe = 0 := by omega
                      obtain ⟨hptq, hcnq⟩ := hpt rfl
                      clear hpt
                      have hpt := hptq
                      clear hptq
                      subst hcnq
                      have hEv := HE2.out
                      rw [if_pos rfl] at hEv
                      have hEv' := Lib.hid hEv
                      have hcn2 : cn1 ≤ 12 := Hcnt2.out rfl
                      obtain ⟨W3, hW3⟩ : ∃ W3, W3 = W2.alloc (.cells #[str s0, str s1, str s2, str s3, .int .i64 hx4, .slice Aq nq1 cq, .slice Aq2 nq2 cq2] 25) := ⟨_, rfl⟩
                      have hb3 : Below W2.heap.size W2 W3 := by rw [hW3]; exact (Below.refl _ W2).alloc (Nat.le_refl _) _
                      have hsz3 : W3.heap.size = W2.heap.size + 1 := by rw [hW3]; simp
                      have hb13 : Below w1.heap.size w1 W3 := hb2.trans (hb3.mono hb2.size)
                      have hrow3 : Sl W3 W3.heap.size 7 (some ⟨W2.heap.size, 0, none⟩) 1 [str s0, str s1, str s2, str s3, .int .i64 hx4, .slice Aq nq1 cq, .slice Aq2 nq2 cq2] := by
                       rw [hW3]
                       exact (Sl.row W2 25 7 1 _ rfl).more (by simp)
                      have hown3 := own_below hown1 hb13
                      have hbxP3 := hbxP2.below hb3 (by omega)
                      have hbxr3 := hbxr2.below hb3 (by omega)
                      have hbnr3 := hbnr2.below hb3 (by omega)
                      have hrd3 := hrd2.below hb3
                      have hgr3 := gM_below hgr2' hb3
                      have hrows3 : PartsAt (NewB wS.heap.size (.slice S6 m cs6) W3) W3 out rows := PartsAt.change (fun z hz => ⟨hz.1, Nat.lt_of_lt_of_le hz.2.1 hb13.size, hz.2.2⟩) (fun z hz => hb13.cell hz.2.1) _ _ hrows1
                      have hkp3 : KeptB g wg.heap.size wS W3 := ⟨Nat.le_trans hkp1.1 hb13.size, fun j hj h1 h2 => (hb13.block j (Nat.lt_of_lt_of_le hj hkp1.1)).trans (hkp1.2 j hj h1 h2)⟩
                      have hqS : ∀ z, (wr.heap.size ≤ z ∧ z < w1.heap.size) → NewB wS.heap.size (.slice S6 m cs6) W3 z := by
                       intro z hz
                       refine ⟨by omega, Nat.lt_of_lt_of_le hz.2 hb13.size, ?_⟩
                       intro e
                       have := (hown.lt _ e).2
                       omega
                      have hqC : ∀ z : Addr, (wr.heap.size ≤ z.block ∧ z.block < w1.heap.size) → W3.cell? z = w1.cell? z := fun z hz => hb13.cell hz.2
                      have hpt3 : PartAt (NewB wS.heap.size (.slice S6 m cs6) W3) W3 q [str s0, str s1, str s2, str s3, .int .i64 hx4, .slice Aq nq1 cq, .slice Aq2 nq2 cq2] := PartAt.change hqS hqC _ _ hpt
                      have hone := hpt3.one
                      have hsS3 : wS.heap.size ≤ W3.heap.size := hkp3.1
                      have hltg : wg.heap.size < wS.heap.size := by omega
                      have HW3 := Lib.hid hW3
                      have Hone := Lib.hid hone
                      have Hsv := Lib.hid (And.intro hbxP3 (And.intro hbxr3 (And.intro hbnr3 (And.intro hrd3 (And.intro hgr3 (And.intro hrows3 (And.intro hkp3 hpt3)))))))
                      have ⟨⟨x0, x1, x2, x3, x4, x5, x6⟩, xf⟩ := hbxP2
                      have ⟨y0, y1, y2, y3, y4, y5, y6⟩ := hbxK
                      obtain ⟨i0, hi0, hz0, hz1, hz2⟩ := info_parts catInfoPart
                      have hsz2' : w1.heap.size + 1 ≤ W2.heap.size := by omega
                      have hsz3' : W2.heap.size + 1 ≤ W3.heap.size := by omega
                      have Hsz3 := Lib.hid hsz3
                      have dq0 : (((0 : Nat) : Int) != 0) = false := by decide
                      have hhg := hrd2.2.2.2.1
                      have hhlt := hrd2.2.2.2.2.2.lt
                      have hhk := hrdr.2.2.2.2.2.lt
                      clear hsz2 hsz3 hEv hqe hbxP hown hrows hbxr hbnr hgrr hkp hrdr hbxP1 hbxr1 hbnr1 hgr1' hown1 hrows1 hkp1 hb2 hbxK hbxP2 hbxr2 hbnr2 hrd2 hgr2' hpt hrd1 hg1 hcn1 hW2 hW3 hb3 hb13 hbxP3 hbxr3 hbnr3 hrd3 hgr3 hrows3 hkp3 hpt3 hone k0 hfn hqS hqC
                      go_upto_region 28 with fail
                      rw [← HW2.out]
                      go_upto_region 30 with fail
                      have hown3' := hown3
                      have hrow3' := hrow3
                      rw [HW3.out] at hown3' hrow3'
                      have hsS3' : wS.heap.size ≤ (W2.alloc (.cells #[str s0, str s1, str s2, str s3, .int .i64 hx4, .slice Aq nq1 cq, .slice Aq2 nq2 cq2] 25)).heap.size := by rw [← HW3.out]; exact hsS3
                      clear hown3 hrow3
                      go_wp2_with (at_builtin; refine wpListM_app2 rfl _ _ 23 rfl wS.heap.size 25 i0 (Value.agg #[.string ⟨#[]⟩, .string ⟨#[]⟩, .string ⟨#[]⟩, .string ⟨#[]⟩, .int .i64 0, .slice none 0 0, .slice none 0 0]) 7 120 Tryz.underlying23 hi0 hz0 hz1 hz2 rfl (by decide) S6 m cs6 rows.flatten rfl hown3' _ _ 1 1 [str s0, str s1, str s2, str s3, .int .i64 hx4, .slice Aq nq1 cq, .slice Aq2 nq2 cq2] rfl hrow3' Hone.out (by unfold maxLen; omega) (by omega) hsS3' ?_)
                      intro S' c' w4 hown4 hb4 hgr4 hat4
                      rw [← HW3.out] at hb4 hgr4
                      obtain ⟨hbxP3, hbxr3, hbnr3, hrd3, hgr3, hrows3, hkp3, hpt3⟩ := Hsv.out
                      have hbxP4 := hbxP3.below hb4 hltg
                      have hbxr4 := hbxr3.below hb4 (by omega)
                      have hbnr4 := hbnr3.below hb4 (by omega)
                      have hrd4 : BrAt wB w4 g h cn1 := hrd3.grown2 hgr4 (fun e => by have := (hown3'.lt _ e).1; omega) (fun e => by have := (hown3'.lt _ e).1; omega) (fun z e => by have := (hown3'.lt _ e).1; omega)
                      have hnew : ∀ z, NewB wS.heap.size (.slice S6 m cs6) W3 z → NewB wS.heap.size (.slice S' (m + 1) c') w4 z := by
                       intro z hz
                       refine ⟨hz.1, Nat.lt_of_lt_of_le hz.2.1 hb4.size, ?_⟩
                       rcases hat4 with e | e
                       · rw [e]; exact hz.2.2
                       · rw [e]; intro e2; injection e2 with e2; have := hz.2.1; have := Hsz3.out; omega
                      have hcell : ∀ p : Addr, NewB wS.heap.size (.slice S6 m cs6) W3 p.block → w4.cell? p = W3.cell? p := fun p hp => World.cell?_of_block (hgr4.block _ hp.2.1 (fun e => hp.2.2 e.symm))
                      have hrows4 := PartsAt.app _ _ [q] [[str s0, str s1, str s2, str s3, .int .i64 hx4, .slice Aq nq1 cq, .slice Aq2 nq2 cq2]] (PartsAt.change hnew hcell _ _ hrows3) ⟨_, _, rfl, PartAt.change hnew hcell _ _ hpt3, rfl⟩
                      have hown4' : w4.ownsRow wS.heap.size 25 7 (.slice S' (m + 1) c') (m + 1) (rows ++ [[str s0, str s1, str s2, str s3, .int .i64 hx4, .slice Aq nq1 cq, .slice Aq2 nq2 cq2]]).flatten := by rw [List.flatten_append]; simpa using hown4
                      have hgrw4 : w.grownBy w4 (some g) := gM_new hgr3 hgr4 (fun z hz => by have := (hown3'.lt z hz).1; omega)
                      have hkp4 : KeptB g wg.heap.size wS w4 := ⟨Nat.le_trans hkp3.1 hb4.size, fun j hj h1 h2 => (hb4.block j hj).trans (hkp3.2 j hj h1 h2)⟩
                      obtain ⟨w5, hw5⟩ : ∃ w5, w5 = w4.setCell ⟨wg.heap.size, 6, none⟩ (.slice S' (m + 1) c') := ⟨_, rfl⟩
                      have hsb5 := SameBut.set w4 wg.heap.size 6 (.slice S' (m + 1) c')
                      have hbxP5 := hbxP4.m6 (.slice S' (m + 1) c')
                      rw [← hw5] at hsb5 hbxP5
                      have hle5 := own_cap hown4'
                      have hcm5 := own_capmax hown4'
                      have hown5 : w5.ownsRow wS.heap.size 25 7 (.slice S' (m + 1) c') (m + 1) (rows ++ [[str s0, str s1, str s2, str s3, .int .i64 hx4, .slice Aq nq1 cq, .slice Aq2 nq2 cq2]]).flatten := by
                       rw [hw5]
                       exact own_setFar hown4' (by intro e; have := (hown4'.lt _ e).1; simp only at this; omega) _
                      have hlenw : w4.heap.size ≤ w5.heap.size := Nat.le_of_eq hsb5.size.symm
                      have hrows5 : PartsAt (NewB wS.heap.size (.slice S' (m + 1) c') w5) w5 (out ++ [q]) (rows ++ [[str s0, str s1, str s2, str s3, .int .i64 hx4, .slice Aq nq1 cq, .slice Aq2 nq2 cq2]]) := PartsAt.change (fun z hz => ⟨hz.1, Nat.lt_of_lt_of_le hz.2.1 hlenw, hz.2.2⟩) (fun z hz => World.cell?_of_block (hsb5.block _ (by have := hz.1; omega))) _ _ hrows4
                      have hbxr5 := hbxr4.same_ (hsb5.block _ (by omega))
                      have hbnr5 := hbnr4.same_ (hsb5.block _ (by omega))
                      have hrd5 : BrAt wB w5 g h cn1 := hrd4.same hsb5 (by omega) (by omega) (by omega)
                      have hgr5 : w.grownBy w5 (some g) := ⟨hsb5.os.trans hgrw4.os, hsb5.tape.trans hgrw4.tape, hsb5.output.trans hgrw4.output, Nat.le_trans hgrw4.size hlenw, fun j hj hne => (hsb5.block j (by omega)).trans (hgrw4.block j hj hne)⟩
                      have hkp5 : KeptB g wg.heap.size wS w5 := ⟨Nat.le_trans hkp4.1 hlenw, fun j hj h1 h2 => (hsb5.block j h2).trans (hkp4.2 j hj h1 h2)⟩
                      have Hend := Lib.hid (And.intro hbxP5 (And.intro hown5 (And.intro hrows5 (And.intro hrd5 (And.intro hbxr5 (And.intro hbnr5 (And.intro hgr5 hkp5)))))))
                      clear x0 x1 x2 x3 x4 x5 x6 xf y0 y1 y2 y3 y4 y5 y6
                      have ⟨⟨x0, x1, x2, x3, x4, x5, x6⟩, xf⟩ := hbxP4
                      have Hw5 := Lib.hid hw5
                      clear hown4 hb4 hgr4 hat4 hbxP3 hbxr3 hbnr3 hrd3 hgr3 hrows3 hkp3 hpt3 hbxP4 hbxr4 hbnr4 hrd4 hnew hcell hrows4 hown4' hgrw4 hkp4 hw5 hsb5 hbxP5 hown5 hrows5 hbxr5 hbnr5 hrd5 hgr5 hkp5 hown3' hrow3'
                      go_wp2_with fail
                      rw [← Hw5.out]
                      obtain ⟨b1, b2, b3, b4, b5, b6, b7, b8⟩ := Hend.out
                      first
                       | exact ⟨⟨i + 1, m + 1, c', S', _, out ++ [q], cn1, rfl, by go_num, by omega, by omega, hle5, hcm5, b1, b2, b3, b4, hcn2, b5, b6, b7, b8, hEv'.out⟩, by simp [intOf]; omega⟩
                       | (refine ⟨?_, ?_⟩
                          · repeat (refine ⟨_, ?_⟩)
                            refine ⟨?_, rfl⟩
                            exact ⟨i + 1, m + 1, c', S', _, out ++ [q], cn1, rfl, by go_num, by omega, by omega, hle5, hcm5, b1, b2, b3, b4, hcn2, b5, b6, b7, b8, hEv'.out⟩
                          · simp [intOf]; omega)
                  · obtain rfl : i = L.length := by omega
                    have hEv := hEE.out
                    rw [List.drop_of_length_le (Nat.le_refl _), eachM] at hEv
                    have hmy3 := Hmy3.out
                    rw [← hEv] at hmy3
                    rw [if_neg (by simp)] at hmy3
                    have hR := HR2.out.trans hmy3
                    rw [← Hgi.out, ← Hiv.out, ← Hlv.out] at hR
                    have HR := Lib.hid hR
                    have hsl6 := own_sls hown
                    have Hfin := Lib.hid (And.intro hsl6 hrows)
                    have hszr := hkp.1
                    have hbxR := hbxr
                    have hbxE := hbxP
                    have hrdR := hrdr
                    have hgrR := hgrr
                    clear hEE hEv hmy3 hR hbxr hbnr hbxP hrdr hgrr hkp hown hrows hsl6
                    have hbx9 := BoxF.set7 (w := wr) (b := w.heap.size) hbxR (str main) (.string ⟨#[]⟩) (str iv) (str lv) (.int .i64 0) (.slice none 0 0) (.slice S6 m cs6)
                    have hen9 := brbox_end hrdR.2.2.2.2.1 hgl hgrR (str main) (.string ⟨#[]⟩) (str iv) (str lv) (.int .i64 0) (.slice none 0 0) (.slice S6 m cs6)
                    have hsb9 := set7_block wr w.heap.size (str main) (.string ⟨#[]⟩) (str iv) (str lv) (.int .i64 0) (.slice none 0 0) (.slice S6 m cs6)
                    have ⟨⟨z0, z1, z2, z3, z4, z5, z6⟩, zf⟩ := hbxR
                    have ⟨⟨y0, y1, y2, y3, y4, y5, y6⟩, yf⟩ := hbxE
                    have Hb9 := Lib.hid (And.intro hbx9 (And.intro hen9 hsb9))
                    clear hbx9 hen9 hsb9 hbxR hbxE hrdR hgrR
                    go_wp2_with fail
                    obtain ⟨hbx9, hen9, hsb9⟩ := Hb9.out
                    generalize hw9 : (((((((wr.setCell ⟨w.heap.size, 0, none⟩ (str main)).setCell ⟨w.heap.size, 1, none⟩ (.string ⟨#[]⟩)).setCell ⟨w.heap.size, 2, none⟩ (str iv)).setCell ⟨w.heap.size, 3, none⟩ (str lv)).setCell ⟨w.heap.size, 4, none⟩ (.int .i64 0)).setCell ⟨w.heap.size, 5, none⟩ (.slice none 0 0)).setCell ⟨w.heap.size, 6, none⟩ (.slice S6 m cs6)) = w9 at hbx9 hen9 hsb9 ⊢
                    clear hw9
                    obtain ⟨k0, k1, k2, k3, k4, k5, k6⟩ := hbx9
                    refine bodyPost_ret (v := .tuple #[.agg #[str main, .string ⟨#[]⟩, str iv, str lv, .int .i64 0, .slice none 0 0, .slice S6 m cs6], .int .i64 (0 : Nat)]) (by simp [results, Tryz.results37, go_sem, k0, k1, k2, k3, k4, k5, k6]) rfl ?_
                    rw [HR.out]
                    refine ⟨main, [], iv, lv, 0, none, 0, 0, S6, m, cs6, _, rfl, fun _ => ⟨?_, rfl⟩, hen9.1, hen9.2⟩
                    refine ⟨none, 0, 0, S6, m, cs6, rows, rfl, ⟨by unfold maxLen; omega, by decide, by unfold maxLen; omega, by unfold maxLen; omega, by decide, by decide⟩, ⟨rfl, fun h => absurd h (by omega)⟩, Nat.le_refl _, Nat.zero_le _, ?_, hmc, hcm6, ?_⟩
                    · exact SlS.change Hfin.out.1 (fun q hq => ⟨by have := hq.1; omega, by rw [hsb9.size]; exact hq.2⟩) (fun q hq => World.cell?_of_block (hsb9.block _ (by have := hq.1; omega)))
                    · exact PartsAt.change (fun q hq => ⟨by have := hq.1; omega, by rw [hsb9.size]; exact hq.2.1⟩) (fun q hq => World.cell?_of_block (hsb9.block _ (by have := hq.1; omega))) _ _ Hfin.out.2
           · skip
             have hmn : manyB main = false := by simpa using hmn
             rw [hmn] at hma hR1
             rw [if_neg (by simp)] at hR1
             have HR2 := Lib.hid hR1
             have Hma := Lib.hid hma
             have hgc := RGot_ascii ps charsetN charsetN S2 ps.length cs2 V3.heap.size V3 rfl ((Hsl2.out.below hbs2C).more hbs2C.size) (Nat.le_refl _) (Nat.le_trans hlc2 hcm2) Hpn.out Hacl.out.2.2.2.2.2
             have hcvl := get_max charsetN ps hsm2
             obtain ⟨cv, hcv⟩ : ∃ x, x = getF ps charsetN := ⟨_, rfl⟩
             rw [← hcv] at hgc hcvl
             have Hgc := Lib.hid hgc
             have Hcv := Lib.hid hcv
             have hlb := HB1.out.len
             have hgt := fun X (hX : Sl X wa.heap.size 2 S l.length (fieldC l)) (hB : wa.heap.size ≤ X.heap.size) => Hget.out cteL cteN low_names.2.2.2 Hacl.out.2.2.2.1 S cs wa.heap.size X hX hB
             have hval4 := Hval.out cteN
             obtain ⟨tv, htv⟩ : ∃ x, x = getF l cteN := ⟨_, rfl⟩
             rw [← htv] at hgt hval4
             have Htv := Lib.hid htv
             have Hgt := Lib.hid hgt
             have htl := fun X => ToLower_any tv X (by omega) hval4.2
             have hbm : bodyM tv (b.drop at_) = if lowL tv = [] ∨ lowL tv = [55, 98, 105, 116] ∨ lowL tv = [56, 98, 105, 116] ∨ lowL tv = [98, 105, 110, 97, 114, 121] then (if 4000 < (b.drop at_).length then (0, [], 2) else (0, b.drop at_, 0))
              else if lowL tv = [98, 97, 115, 101, 54, 52] then (1, readB (b.drop at_)) else if lowL tv = [113, 117, 111, 116, 101, 100, 45, 112, 114, 105, 110, 116, 97, 98, 108, 101] then (2, readQ (b.drop at_)) else (0, [], 4) := rfl
             obtain ⟨lw, hlw⟩ : ∃ x, x = lowL tv := ⟨_, rfl⟩
             rw [← hlw] at htl hbm
             have Htl := Lib.hid htl
             have Hbm := Lib.hid hbm
             have hrl : (b.drop at_).length = n - at_ := by rw [List.length_drop]; omega
             have hbyr : ∀ X, Below W1.heap.size W1 X → By X X.heap.size (cutA A c at_ 1) (n - at_) (b.drop at_) := fun X hX => ((HB1.out.below hX).more hX.size).cut (k := at_) (c := c) hat2 hn
             have Hbyr := Lib.hid hbyr
             have Hrl := Lib.hid hrl
             clear hR1 hma hgc hcv hmn hgt htl hbm hlw htv hval4 hbyr hrl
             go_wp2_with fail
             refine Hma.out.mono ?_
             rintro e wh ⟨rfl, rfl⟩
             go_wp2_with fail
             refine Hgc.out.mono ?_
             rintro e wi ⟨rfl, hbi⟩
             have hbxi := HbxC.out.below hbi (by omega)
             have hbai := hbaC.trans (hbi.mono hbaC.size)
             have hbsi := hbsC.trans (hbi.mono hbsC.size)
             have hgi : wg.heap.size < wi.heap.size := by have := hbi.size; omega
             obtain ⟨V2, hV2⟩ : ∃ V2, V2 = wi.setCell ⟨wg.heap.size, 1, none⟩ (str cv) := ⟨_, rfl⟩
             have hbx2 := hbxi.m1 (str cv)
             rw [← hV2] at hbx2
             have hba2 : Below W1.heap.size W1 V2 := by rw [hV2]; exact hbai.setCell (by show W1.heap.size ≤ wg.heap.size; exact hw1g) _
             have hbs2 : Below wa.heap.size wa V2 := by rw [hV2]; exact hbsi.setCell (by show wa.heap.size ≤ wg.heap.size; exact hwag) _
             have ⟨⟨x0, x1, x2, x3, x4, x5, x6⟩, xf⟩ := hbxi
             have HV2 := Lib.hid hV2
             have Hbx2 := Lib.hid hbx2
             have hsz2 : V2.heap.size = wi.heap.size := by rw [hV2]; simp [World.setCell]
             clear hbxi hbi hbai hbsi hV2 hbx2
             go_upto_region 34 with fail
             rw [← HV2.out]
             clear x0 x1 x2 x3 x4 x5 x6 xf
             have hgV2 : wg.heap.size < V2.heap.size := by omega
             clear hsz2 hgi
             have hgg := Hgt.out V2 (Hsl.out.below hbs2) hbs2.size
             have Hgg := Lib.hid hgg
             clear hgg
             go_wp2_with fail
             refine Hgg.out.mono ?_
             rintro e wk ⟨rfl, hbk⟩
             go_wp2_with fail
             refine (Htl.out _).mono ?_
             rintro e wl ⟨rfl, hbl⟩
             have hbl2 := hbk.trans (hbl.mono hbk.size)
             have hbal := hba2.trans (hbl2.mono hba2.size)
             have hbxl := Hbx2.out.below hbl2 hgV2
             have hgl2 : wg.heap.size < wl.heap.size := hbxl.lt_
             have Hbal := Lib.hid hbal
             have Hbxl := Lib.hid hbxl
             clear hbk hbl hbl2 hbal hbxl
             have hwgl : W1.heap.size ≤ wl.heap.size := Hbal.out.size
             by_cases k0 : lw = []
             · have d0 : (lw == []) = true := by rw [k0]; rfl
               have dz : lw.isEmpty = true := by rw [k0]; rfl
               have Hk := Lib.hid k0
               clear k0
               obtain ⟨i0, hi0, hz0, hz1, hz2⟩ := info_parts infoByte
               have hby := Hbyr.out wl Hbal.out
               have Hby := Lib.hid hby
               have hone0 : ∀ u ∈ Lib.byteCells (b.drop at_), u.oneCell' = true := by intro u hu; unfold Lib.byteCells at hu; obtain ⟨y, _, rfl⟩ := List.mem_map.1 hu; rfl
               have Hone0 := Lib.hid hone0
               obtain ⟨V5, hV5⟩ : ∃ x, x = wl.alloc (.cells #[] 5) := ⟨_, rfl⟩
               have hb5 : Below wl.heap.size wl V5 := by rw [hV5]; exact (Below.refl _ wl).alloc (Nat.le_refl _) _
               have hown5 : V5.ownsRow wl.heap.size 5 1 (.slice (some ⟨wl.heap.size, 0, none⟩) 0 0) 0 [] := by
                rw [hV5]
                exact ⟨rfl, .inr ⟨wl.heap.size, 0, #[], rfl, Nat.le_refl _, heap_alloc_new wl _, Nat.le_refl _, Nat.zero_le _, rfl, rfl⟩⟩
               have hby5 : Sl V5 wl.heap.size 1 (cutA A c at_ 1) (n - at_) (Lib.byteCells (b.drop at_)) := Sl.below Hby.out hb5
               have hba5 := Hbal.out.trans (hb5.mono Hbal.out.size)
               have hbx5 := Hbxl.out.below hb5 hgl2
               have hsz5 : wl.heap.size ≤ V5.heap.size := hb5.size
               have HS5 := Lib.hid (And.intro hba5 (And.intro hbx5 hb5))
               have hlen4 : n - at_ ≤ 40000 := by omega
               clear hby hone0 hb5 hba5 hbx5
               have hown5' := hown5
               have hby5' := hby5
               rw [hV5] at hown5' hby5'
               have HV5 := Lib.hid hV5
               have hsz5' : wl.heap.size ≤ (wl.alloc (.cells #[] 5)).heap.size := by rw [← HV5.out]; exact hsz5
               clear hV5 hown5 hby5
               go_upto_region 40 with fail
               go_wp2_with (at_builtin; refine wpListM_app2 rfl _ _ 22 rfl wl.heap.size 5 i0 (.int .u8 0) 1 1 Tryz.underlying22 hi0 hz0 hz1 hz2 rfl (by decide) (some ⟨wl.heap.size, 0, none⟩) 0 0 [] rfl hown5' wl.heap.size (cutA A c at_ 1) (n - at_) (c - at_) (Lib.byteCells (b.drop at_)) rfl hby5' Hone0.out (by unfold maxLen; omega) (by omega) hsz5' ?_)
               intro S' c' w6 hown6 hb6 hgr6 _
               rw [← HV5.out] at hb6
               clear hown5' hby5' hgr6
               obtain ⟨hba5, hbx5, hb5⟩ := HS5.out
               have hb56 := hb5.trans (hb6.mono (Nat.le_refl _))
               have hba6 := Hbal.out.trans (hb56.mono Hbal.out.size)
               have hbx6 := Hbxl.out.below hb56 hgl2
               have hle6 := own_cap hown6
               have hcm6 := own_capF hown6
               have hsl6 := own_slsM hown6
               try rw [List.nil_append] at hsl6
               try rw [Nat.zero_add] at hle6
               try rw [Nat.zero_add] at hsl6
               try rw [Nat.zero_add]
               obtain ⟨X, hX⟩ : ∃ X, X = w6.setCell ⟨wg.heap.size, 5, none⟩ (.slice S' (n - at_) c') := ⟨_, rfl⟩
               have hbxX := hbx6.m5 (.slice S' (n - at_) c')
               rw [← hX] at hbxX
               have hbaX : Below W1.heap.size W1 X := by rw [hX]; exact hba6.setCell (by show W1.heap.size ≤ wg.heap.size; exact hw1g) _
               have hslX : SlS (fun q => w.heap.size + 1 ≤ q ∧ q < X.heap.size) X 1 S' (n - at_) (Lib.byteCells (b.drop at_)) := by
                have hsb := SameBut.set w6 wg.heap.size 5 (.slice S' (n - at_) c')
                rw [← hX] at hsb
                exact SlS.change hsl6 (fun q hq => ⟨by have := hq.1; omega, by rw [hsb.size]; exact hq.2⟩) (fun q hq => World.cell?_of_block (hsb.block _ (by have := hq.1; omega)))
               have ⟨⟨x0, x1, x2, x3, x4, x5, x6⟩, xf⟩ := hbx6
               have HX := Lib.hid hX
               have HbX := Lib.hid (And.intro hbxX (And.intro hbaX hslX))
               clear hX hbxX hbaX hslX hown6 hb6 hb56 hba6 hbx6 hsl6 hba5 hbx5 hb5
               go_upto_region 41 with fail
               rw [← HX.out]
               clear x0 x1 x2 x3 x4 x5 x6 xf
               have hbm := Hbm.out
               rw [if_pos (.inl Hk.out)] at hbm
               obtain ⟨hbxE, hbaX, hslX⟩ := HbX.out
               obtain ⟨hbxR, hbnR, hrdR, hgrR⟩ := HK.out _ hbaX
               clear hbnR
               by_cases h4 : 4000 < n - at_
               · have d9 : decide ((4000 : Int) < ((n - at_ : Nat) : Int)) = true := by simp; omega
                 rw [if_pos (by rw [Hrl.out]; exact h4)] at hbm
                 have Hbm2 := Lib.hid hbm
                 clear hbm hslX hbaX
                 have hbx9 := BoxF.set7 (w := X) (b := w.heap.size) hbxR (str main) (str cv) (str iv) (str lv) (.int .i64 0) (.slice S' (n - at_) c') (.slice none 0 0)
                 have hen9 := brbox_end hrdR.2.2.2.2.1 hgl hgrR (str main) (str cv) (str iv) (str lv) (.int .i64 0) (.slice S' (n - at_) c') (.slice none 0 0)
                 have hsb9 := set7_block X w.heap.size (str main) (str cv) (str iv) (str lv) (.int .i64 0) (.slice S' (n - at_) c') (.slice none 0 0)
                 have ⟨⟨z0, z1, z2, z3, z4, z5, z6⟩, zf⟩ := hbxR
                 have ⟨⟨y0, y1, y2, y3, y4, y5, y6⟩, yf⟩ := hbxE
                 have Hb9 := Lib.hid (And.intro hbx9 (And.intro hen9 hsb9))
                 clear hbx9 hen9 hsb9 hbxR hbxE hrdR hgrR
                 go_wp2_with fail
                 obtain ⟨hbx9, hen9, hsb9⟩ := Hb9.out
                 generalize hw9 : (((((((X.setCell ⟨w.heap.size, 0, none⟩ (str main)).setCell ⟨w.heap.size, 1, none⟩ (str cv)).setCell ⟨w.heap.size, 2, none⟩ (str iv)).setCell ⟨w.heap.size, 3, none⟩ (str lv)).setCell ⟨w.heap.size, 4, none⟩ (.int .i64 0)).setCell ⟨w.heap.size, 5, none⟩ (.slice S' (n - at_) c')).setCell ⟨w.heap.size, 6, none⟩ (.slice none 0 0)) = w9 at hbx9 hen9 hsb9 ⊢
                 clear hw9
                 obtain ⟨k0, k1, k2, k3, k4, k5, k6⟩ := hbx9
                 refine bodyPost_ret (v := .tuple #[.agg #[str main, str cv, str iv, str lv, .int .i64 0, .slice S' (n - at_) c', .slice none 0 0], .int .i64 (2 : Nat)]) (by simp [results, Tryz.results37, go_sem, k0, k1, k2, k3, k4, k5, k6]) rfl ?_
                 rw [HR2.out]
                 exact brleaf_fin Hbm2.out Hcv.out (by rw [Hiv.out, Hgi.out]) Hlv.out Htv.out (by unfold maxLen; omega) hcvl (by unfold maxLen; omega) (by unfold maxLen; omega) (by decide) (fun h0 => absurd h0 (by decide)) hsb9 hen9.1 hen9.2
               · have d9 : decide ((4000 : Int) < ((n - at_ : Nat) : Int)) = false := by simp; omega
                 rw [if_neg (by rw [Hrl.out]; exact h4)] at hbm
                 have Hbm2 := Lib.hid hbm
                 have HslX := Lib.hid hslX
                 clear hbm hslX hbaX
                 have hbx9 := BoxF.set7 (w := X) (b := w.heap.size) hbxR (str main) (str cv) (str iv) (str lv) (.int .i64 0) (.slice S' (n - at_) c') (.slice none 0 0)
                 have hen9 := brbox_end hrdR.2.2.2.2.1 hgl hgrR (str main) (str cv) (str iv) (str lv) (.int .i64 0) (.slice S' (n - at_) c') (.slice none 0 0)
                 have hsb9 := set7_block X w.heap.size (str main) (str cv) (str iv) (str lv) (.int .i64 0) (.slice S' (n - at_) c') (.slice none 0 0)
                 have ⟨⟨z0, z1, z2, z3, z4, z5, z6⟩, zf⟩ := hbxR
                 have ⟨⟨y0, y1, y2, y3, y4, y5, y6⟩, yf⟩ := hbxE
                 have Hb9 := Lib.hid (And.intro hbx9 (And.intro hen9 hsb9))
                 clear hbx9 hen9 hsb9 hbxR hbxE hrdR hgrR
                 go_wp2_with fail
                 obtain ⟨hbx9, hen9, hsb9⟩ := Hb9.out
                 generalize hw9 : (((((((X.setCell ⟨w.heap.size, 0, none⟩ (str main)).setCell ⟨w.heap.size, 1, none⟩ (str cv)).setCell ⟨w.heap.size, 2, none⟩ (str iv)).setCell ⟨w.heap.size, 3, none⟩ (str lv)).setCell ⟨w.heap.size, 4, none⟩ (.int .i64 0)).setCell ⟨w.heap.size, 5, none⟩ (.slice S' (n - at_) c')).setCell ⟨w.heap.size, 6, none⟩ (.slice none 0 0)) = w9 at hbx9 hen9 hsb9 ⊢
                 clear hw9
                 obtain ⟨k0, k1, k2, k3, k4, k5, k6⟩ := hbx9
                 refine bodyPost_ret (v := .tuple #[.agg #[str main, str cv, str iv, str lv, .int .i64 0, .slice S' (n - at_) c', .slice none 0 0], .int .i64 (0 : Nat)]) (by simp [results, Tryz.results37, go_sem, k0, k1, k2, k3, k4, k5, k6]) rfl ?_
                 rw [HR2.out]
                 exact brleaf_fin Hbm2.out Hcv.out (by rw [Hiv.out, Hgi.out]) Hlv.out Htv.out (by unfold maxLen; omega) hcvl (by unfold maxLen; omega) (by unfold maxLen; omega) (by decide) (fun _ => ⟨Hrl.out.symm, HslX.out, hle6, hcm6⟩) hsb9 hen9.1 hen9.2
             · have d0 : (lw == []) = false := beq_eq_false_iff_ne.2 k0
               have dz : lw.isEmpty = false := by cases lw with | nil => exact absurd rfl k0 | cons _ _ => rfl
               by_cases k1 : lw = [55, 98, 105, 116]
               · have d1 : (lw == [55, 98, 105, 116]) = true := by rw [k1]; rfl
                 have Hk := Lib.hid k1
                 clear k0 k1
                 obtain ⟨i0, hi0, hz0, hz1, hz2⟩ := info_parts infoByte
                 have hby := Hbyr.out wl Hbal.out
                 have Hby := Lib.hid hby
                 have hone0 : ∀ u ∈ Lib.byteCells (b.drop at_), u.oneCell' = true := by intro u hu; unfold Lib.byteCells at hu; obtain ⟨y, _, rfl⟩ := List.mem_map.1 hu; rfl
                 have Hone0 := Lib.hid hone0
                 obtain ⟨V5, hV5⟩ : ∃ x, x = wl.alloc (.cells #[] 5) := ⟨_, rfl⟩
                 have hb5 : Below wl.heap.size wl V5 := by rw [hV5]; exact (Below.refl _ wl).alloc (Nat.le_refl _) _
                 have hown5 : V5.ownsRow wl.heap.size 5 1 (.slice (some ⟨wl.heap.size, 0, none⟩) 0 0) 0 [] := by
                  rw [hV5]
                  exact ⟨rfl, .inr ⟨wl.heap.size, 0, #[], rfl, Nat.le_refl _, heap_alloc_new wl _, Nat.le_refl _, Nat.zero_le _, rfl, rfl⟩⟩
                 have hby5 : Sl V5 wl.heap.size 1 (cutA A c at_ 1) (n - at_) (Lib.byteCells (b.drop at_)) := Sl.below Hby.out hb5
                 have hba5 := Hbal.out.trans (hb5.mono Hbal.out.size)
                 have hbx5 := Hbxl.out.below hb5 hgl2
                 have hsz5 : wl.heap.size ≤ V5.heap.size := hb5.size
                 have HS5 := Lib.hid (And.intro hba5 (And.intro hbx5 hb5))
                 have hlen4 : n - at_ ≤ 40000 := by omega
                 clear hby hone0 hb5 hba5 hbx5
                 have hown5' := hown5
                 have hby5' := hby5
                 rw [hV5] at hown5' hby5'
                 have HV5 := Lib.hid hV5
                 have hsz5' : wl.heap.size ≤ (wl.alloc (.cells #[] 5)).heap.size := by rw [← HV5.out]; exact hsz5
                 clear hV5 hown5 hby5
                 go_upto_region 40 with fail
                 go_wp2_with (at_builtin; refine wpListM_app2 rfl _ _ 22 rfl wl.heap.size 5 i0 (.int .u8 0) 1 1 Tryz.underlying22 hi0 hz0 hz1 hz2 rfl (by decide) (some ⟨wl.heap.size, 0, none⟩) 0 0 [] rfl hown5' wl.heap.size (cutA A c at_ 1) (n - at_) (c - at_) (Lib.byteCells (b.drop at_)) rfl hby5' Hone0.out (by unfold maxLen; omega) (by omega) hsz5' ?_)
                 intro S' c' w6 hown6 hb6 hgr6 _
                 rw [← HV5.out] at hb6
                 clear hown5' hby5' hgr6
                 obtain ⟨hba5, hbx5, hb5⟩ := HS5.out
                 have hb56 := hb5.trans (hb6.mono (Nat.le_refl _))
                 have hba6 := Hbal.out.trans (hb56.mono Hbal.out.size)
                 have hbx6 := Hbxl.out.below hb56 hgl2
                 have hle6 := own_cap hown6
                 have hcm6 := own_capF hown6
                 have hsl6 := own_slsM hown6
                 try rw [List.nil_append] at hsl6
                 try rw [Nat.zero_add] at hle6
                 try rw [Nat.zero_add] at hsl6
                 try rw [Nat.zero_add]
                 obtain ⟨X, hX⟩ : ∃ X, X = w6.setCell ⟨wg.heap.size, 5, none⟩ (.slice S' (n - at_) c') := ⟨_, rfl⟩
                 have hbxX := hbx6.m5 (.slice S' (n - at_) c')
                 rw [← hX] at hbxX
                 have hbaX : Below W1.heap.size W1 X := by rw [hX]; exact hba6.setCell (by show W1.heap.size ≤ wg.heap.size; exact hw1g) _
                 have hslX : SlS (fun q => w.heap.size + 1 ≤ q ∧ q < X.heap.size) X 1 S' (n - at_) (Lib.byteCells (b.drop at_)) := by
                  have hsb := SameBut.set w6 wg.heap.size 5 (.slice S' (n - at_) c')
                  rw [← hX] at hsb
                  exact SlS.change hsl6 (fun q hq => ⟨by have := hq.1; omega, by rw [hsb.size]; exact hq.2⟩) (fun q hq => World.cell?_of_block (hsb.block _ (by have := hq.1; omega)))
                 have ⟨⟨x0, x1, x2, x3, x4, x5, x6⟩, xf⟩ := hbx6
                 have HX := Lib.hid hX
                 have HbX := Lib.hid (And.intro hbxX (And.intro hbaX hslX))
                 clear hX hbxX hbaX hslX hown6 hb6 hb56 hba6 hbx6 hsl6 hba5 hbx5 hb5
                 go_upto_region 41 with fail
                 rw [← HX.out]
                 clear x0 x1 x2 x3 x4 x5 x6 xf
                 have hbm := Hbm.out
                 rw [if_pos (.inr (.inl Hk.out))] at hbm
                 obtain ⟨hbxE, hbaX, hslX⟩ := HbX.out
                 obtain ⟨hbxR, hbnR, hrdR, hgrR⟩ := HK.out _ hbaX
                 clear hbnR
                 by_cases h4 : 4000 < n - at_
                 · have d9 : decide ((4000 : Int) < ((n - at_ : Nat) : Int)) = true := by simp; omega
                   rw [if_pos (by rw [Hrl.out]; exact h4)] at hbm
                   have Hbm2 := Lib.hid hbm
                   clear hbm hslX hbaX
                   have hbx9 := BoxF.set7 (w := X) (b := w.heap.size) hbxR (str main) (str cv) (str iv) (str lv) (.int .i64 0) (.slice S' (n - at_) c') (.slice none 0 0)
                   have hen9 := brbox_end hrdR.2.2.2.2.1 hgl hgrR (str main) (str cv) (str iv) (str lv) (.int .i64 0) (.slice S' (n - at_) c') (.slice none 0 0)
                   have hsb9 := set7_block X w.heap.size (str main) (str cv) (str iv) (str lv) (.int .i64 0) (.slice S' (n - at_) c') (.slice none 0 0)
                   have ⟨⟨z0, z1, z2, z3, z4, z5, z6⟩, zf⟩ := hbxR
                   have ⟨⟨y0, y1, y2, y3, y4, y5, y6⟩, yf⟩ := hbxE
                   have Hb9 := Lib.hid (And.intro hbx9 (And.intro hen9 hsb9))
                   clear hbx9 hen9 hsb9 hbxR hbxE hrdR hgrR
                   go_wp2_with fail
                   obtain ⟨hbx9, hen9, hsb9⟩ := Hb9.out
                   generalize hw9 : (((((((X.setCell ⟨w.heap.size, 0, none⟩ (str main)).setCell ⟨w.heap.size, 1, none⟩ (str cv)).setCell ⟨w.heap.size, 2, none⟩ (str iv)).setCell ⟨w.heap.size, 3, none⟩ (str lv)).setCell ⟨w.heap.size, 4, none⟩ (.int .i64 0)).setCell ⟨w.heap.size, 5, none⟩ (.slice S' (n - at_) c')).setCell ⟨w.heap.size, 6, none⟩ (.slice none 0 0)) = w9 at hbx9 hen9 hsb9 ⊢
                   clear hw9
                   obtain ⟨k0, k1, k2, k3, k4, k5, k6⟩ := hbx9
                   refine bodyPost_ret (v := .tuple #[.agg #[str main, str cv, str iv, str lv, .int .i64 0, .slice S' (n - at_) c', .slice none 0 0], .int .i64 (2 : Nat)]) (by simp [results, Tryz.results37, go_sem, k0, k1, k2, k3, k4, k5, k6]) rfl ?_
                   rw [HR2.out]
                   exact brleaf_fin Hbm2.out Hcv.out (by rw [Hiv.out, Hgi.out]) Hlv.out Htv.out (by unfold maxLen; omega) hcvl (by unfold maxLen; omega) (by unfold maxLen; omega) (by decide) (fun h0 => absurd h0 (by decide)) hsb9 hen9.1 hen9.2
                 · have d9 : decide ((4000 : Int) < ((n - at_ : Nat) : Int)) = false := by simp; omega
                   rw [if_neg (by rw [Hrl.out]; exact h4)] at hbm
                   have Hbm2 := Lib.hid hbm
                   have HslX := Lib.hid hslX
                   clear hbm hslX hbaX
                   have hbx9 := BoxF.set7 (w := X) (b := w.heap.size) hbxR (str main) (str cv) (str iv) (str lv) (.int .i64 0) (.slice S' (n - at_) c') (.slice none 0 0)
                   have hen9 := brbox_end hrdR.2.2.2.2.1 hgl hgrR (str main) (str cv) (str iv) (str lv) (.int .i64 0) (.slice S' (n - at_) c') (.slice none 0 0)
                   have hsb9 := set7_block X w.heap.size (str main) (str cv) (str iv) (str lv) (.int .i64 0) (.slice S' (n - at_) c') (.slice none 0 0)
                   have ⟨⟨z0, z1, z2, z3, z4, z5, z6⟩, zf⟩ := hbxR
                   have ⟨⟨y0, y1, y2, y3, y4, y5, y6⟩, yf⟩ := hbxE
                   have Hb9 := Lib.hid (And.intro hbx9 (And.intro hen9 hsb9))
                   clear hbx9 hen9 hsb9 hbxR hbxE hrdR hgrR
                   go_wp2_with fail
                   obtain ⟨hbx9, hen9, hsb9⟩ := Hb9.out
                   generalize hw9 : (((((((X.setCell ⟨w.heap.size, 0, none⟩ (str main)).setCell ⟨w.heap.size, 1, none⟩ (str cv)).setCell ⟨w.heap.size, 2, none⟩ (str iv)).setCell ⟨w.heap.size, 3, none⟩ (str lv)).setCell ⟨w.heap.size, 4, none⟩ (.int .i64 0)).setCell ⟨w.heap.size, 5, none⟩ (.slice S' (n - at_) c')).setCell ⟨w.heap.size, 6, none⟩ (.slice none 0 0)) = w9 at hbx9 hen9 hsb9 ⊢
                   clear hw9
                   obtain ⟨k0, k1, k2, k3, k4, k5, k6⟩ := hbx9
                   refine bodyPost_ret (v := .tuple #[.agg #[str main, str cv, str iv, str lv, .int .i64 0, .slice S' (n - at_) c', .slice none 0 0], .int .i64 (0 : Nat)]) (by simp [results, Tryz.results37, go_sem, k0, k1, k2, k3, k4, k5, k6]) rfl ?_
                   rw [HR2.out]
                   exact brleaf_fin Hbm2.out Hcv.out (by rw [Hiv.out, Hgi.out]) Hlv.out Htv.out (by unfold maxLen; omega) hcvl (by unfold maxLen; omega) (by unfold maxLen; omega) (by decide) (fun _ => ⟨Hrl.out.symm, HslX.out, hle6, hcm6⟩) hsb9 hen9.1 hen9.2
               · have d1 : (lw == [55, 98, 105, 116]) = false := beq_eq_false_iff_ne.2 k1
                 by_cases k2 : lw = [56, 98, 105, 116]
                 · have d2 : (lw == [56, 98, 105, 116]) = true := by rw [k2]; rfl
                   have Hk := Lib.hid k2
                   clear k0 k1 k2
                   obtain ⟨i0, hi0, hz0, hz1, hz2⟩ := info_parts infoByte
                   have hby := Hbyr.out wl Hbal.out
                   have Hby := Lib.hid hby
                   have hone0 : ∀ u ∈ Lib.byteCells (b.drop at_), u.oneCell' = true := by intro u hu; unfold Lib.byteCells at hu; obtain ⟨y, _, rfl⟩ := List.mem_map.1 hu; rfl
                   have Hone0 := Lib.hid hone0
                   obtain ⟨V5, hV5⟩ : ∃ x, x = wl.alloc (.cells #[] 5) := ⟨_, rfl⟩
                   have hb5 : Below wl.heap.size wl V5 := by rw [hV5]; exact (Below.refl _ wl).alloc (Nat.le_refl _) _
                   have hown5 : V5.ownsRow wl.heap.size 5 1 (.slice (some ⟨wl.heap.size, 0, none⟩) 0 0) 0 [] := by
                    rw [hV5]
                    exact ⟨rfl, .inr ⟨wl.heap.size, 0, #[], rfl, Nat.le_refl _, heap_alloc_new wl _, Nat.le_refl _, Nat.zero_le _, rfl, rfl⟩⟩
                   have hby5 : Sl V5 wl.heap.size 1 (cutA A c at_ 1) (n - at_) (Lib.byteCells (b.drop at_)) := Sl.below Hby.out hb5
                   have hba5 := Hbal.out.trans (hb5.mono Hbal.out.size)
                   have hbx5 := Hbxl.out.below hb5 hgl2
                   have hsz5 : wl.heap.size ≤ V5.heap.size := hb5.size
                   have HS5 := Lib.hid (And.intro hba5 (And.intro hbx5 hb5))
                   have hlen4 : n - at_ ≤ 40000 := by omega
                   clear hby hone0 hb5 hba5 hbx5
                   have hown5' := hown5
                   have hby5' := hby5
                   rw [hV5] at hown5' hby5'
                   have HV5 := Lib.hid hV5
                   have hsz5' : wl.heap.size ≤ (wl.alloc (.cells #[] 5)).heap.size := by rw [← HV5.out]; exact hsz5
                   clear hV5 hown5 hby5
                   go_upto_region 40 with fail
                   go_wp2_with (at_builtin; refine wpListM_app2 rfl _ _ 22 rfl wl.heap.size 5 i0 (.int .u8 0) 1 1 Tryz.underlying22 hi0 hz0 hz1 hz2 rfl (by decide) (some ⟨wl.heap.size, 0, none⟩) 0 0 [] rfl hown5' wl.heap.size (cutA A c at_ 1) (n - at_) (c - at_) (Lib.byteCells (b.drop at_)) rfl hby5' Hone0.out (by unfold maxLen; omega) (by omega) hsz5' ?_)
                   intro S' c' w6 hown6 hb6 hgr6 _
                   rw [← HV5.out] at hb6
                   clear hown5' hby5' hgr6
                   obtain ⟨hba5, hbx5, hb5⟩ := HS5.out
                   have hb56 := hb5.trans (hb6.mono (Nat.le_refl _))
                   have hba6 := Hbal.out.trans (hb56.mono Hbal.out.size)
                   have hbx6 := Hbxl.out.below hb56 hgl2
                   have hle6 := own_cap hown6
                   have hcm6 := own_capF hown6
                   have hsl6 := own_slsM hown6
                   try rw [List.nil_append] at hsl6
                   try rw [Nat.zero_add] at hle6
                   try rw [Nat.zero_add] at hsl6
                   try rw [Nat.zero_add]
                   obtain ⟨X, hX⟩ : ∃ X, X = w6.setCell ⟨wg.heap.size, 5, none⟩ (.slice S' (n - at_) c') := ⟨_, rfl⟩
                   have hbxX := hbx6.m5 (.slice S' (n - at_) c')
                   rw [← hX] at hbxX
                   have hbaX : Below W1.heap.size W1 X := by rw [hX]; exact hba6.setCell (by show W1.heap.size ≤ wg.heap.size; exact hw1g) _
                   have hslX : SlS (fun q => w.heap.size + 1 ≤ q ∧ q < X.heap.size) X 1 S' (n - at_) (Lib.byteCells (b.drop at_)) := by
                    have hsb := SameBut.set w6 wg.heap.size 5 (.slice S' (n - at_) c')
                    rw [← hX] at hsb
                    exact SlS.change hsl6 (fun q hq => ⟨by have := hq.1; omega, by rw [hsb.size]; exact hq.2⟩) (fun q hq => World.cell?_of_block (hsb.block _ (by have := hq.1; omega)))
                   have ⟨⟨x0, x1, x2, x3, x4, x5, x6⟩, xf⟩ := hbx6
                   have HX := Lib.hid hX
                   have HbX := Lib.hid (And.intro hbxX (And.intro hbaX hslX))
                   clear hX hbxX hbaX hslX hown6 hb6 hb56 hba6 hbx6 hsl6 hba5 hbx5 hb5
                   go_upto_region 41 with fail
                   rw [← HX.out]
                   clear x0 x1 x2 x3 x4 x5 x6 xf
                   have hbm := Hbm.out
                   rw [if_pos (.inr (.inr (.inl Hk.out)))] at hbm
                   obtain ⟨hbxE, hbaX, hslX⟩ := HbX.out
                   obtain ⟨hbxR, hbnR, hrdR, hgrR⟩ := HK.out _ hbaX
                   clear hbnR
                   by_cases h4 : 4000 < n - at_
                   · have d9 : decide ((4000 : Int) < ((n - at_ : Nat) : Int)) = true := by simp; omega
                     rw [if_pos (by rw [Hrl.out]; exact h4)] at hbm
                     have Hbm2 := Lib.hid hbm
                     clear hbm hslX hbaX
                     have hbx9 := BoxF.set7 (w := X) (b := w.heap.size) hbxR (str main) (str cv) (str iv) (str lv) (.int .i64 0) (.slice S' (n - at_) c') (.slice none 0 0)
                     have hen9 := brbox_end hrdR.2.2.2.2.1 hgl hgrR (str main) (str cv) (str iv) (str lv) (.int .i64 0) (.slice S' (n - at_) c') (.slice none 0 0)
                     have hsb9 := set7_block X w.heap.size (str main) (str cv) (str iv) (str lv) (.int .i64 0) (.slice S' (n - at_) c') (.slice none 0 0)
                     have ⟨⟨z0, z1, z2, z3, z4, z5, z6⟩, zf⟩ := hbxR
                     have ⟨⟨y0, y1, y2, y3, y4, y5, y6⟩, yf⟩ := hbxE
                     have Hb9 := Lib.hid (And.intro hbx9 (And.intro hen9 hsb9))
                     clear hbx9 hen9 hsb9 hbxR hbxE hrdR hgrR
                     go_wp2_with fail
                     obtain ⟨hbx9, hen9, hsb9⟩ := Hb9.out
                     generalize hw9 : (((((((X.setCell ⟨w.heap.size, 0, none⟩ (str main)).setCell ⟨w.heap.size, 1, none⟩ (str cv)).setCell ⟨w.heap.size, 2, none⟩ (str iv)).setCell ⟨w.heap.size, 3, none⟩ (str lv)).setCell ⟨w.heap.size, 4, none⟩ (.int .i64 0)).setCell ⟨w.heap.size, 5, none⟩ (.slice S' (n - at_) c')).setCell ⟨w.heap.size, 6, none⟩ (.slice none 0 0)) = w9 at hbx9 hen9 hsb9 ⊢
                     clear hw9
                     obtain ⟨k0, k1, k2, k3, k4, k5, k6⟩ := hbx9
                     refine bodyPost_ret (v := .tuple #[.agg #[str main, str cv, str iv, str lv, .int .i64 0, .slice S' (n - at_) c', .slice none 0 0], .int .i64 (2 : Nat)]) (by simp [results, Tryz.results37, go_sem, k0, k1, k2, k3, k4, k5, k6]) rfl ?_
                     rw [HR2.out]
                     exact brleaf_fin Hbm2.out Hcv.out (by rw [Hiv.out, Hgi.out]) Hlv.out Htv.out (by unfold maxLen; omega) hcvl (by unfold maxLen; omega) (by unfold maxLen; omega) (by decide) (fun h0 => absurd h0 (by decide)) hsb9 hen9.1 hen9.2
                   · have d9 : decide ((4000 : Int) < ((n - at_ : Nat) : Int)) = false := by simp; omega
                     rw [if_neg (by rw [Hrl.out]; exact h4)] at hbm
                     have Hbm2 := Lib.hid hbm
                     have HslX := Lib.hid hslX
                     clear hbm hslX hbaX
                     have hbx9 := BoxF.set7 (w := X) (b := w.heap.size) hbxR (str main) (str cv) (str iv) (str lv) (.int .i64 0) (.slice S' (n - at_) c') (.slice none 0 0)
                     have hen9 := brbox_end hrdR.2.2.2.2.1 hgl hgrR (str main) (str cv) (str iv) (str lv) (.int .i64 0) (.slice S' (n - at_) c') (.slice none 0 0)
                     have hsb9 := set7_block X w.heap.size (str main) (str cv) (str iv) (str lv) (.int .i64 0) (.slice S' (n - at_) c') (.slice none 0 0)
                     have ⟨⟨z0, z1, z2, z3, z4, z5, z6⟩, zf⟩ := hbxR
                     have ⟨⟨y0, y1, y2, y3, y4, y5, y6⟩, yf⟩ := hbxE
                     have Hb9 := Lib.hid (And.intro hbx9 (And.intro hen9 hsb9))
                     clear hbx9 hen9 hsb9 hbxR hbxE hrdR hgrR
                     go_wp2_with fail
                     obtain ⟨hbx9, hen9, hsb9⟩ := Hb9.out
                     generalize hw9 : (((((((X.setCell ⟨w.heap.size, 0, none⟩ (str main)).setCell ⟨w.heap.size, 1, none⟩ (str cv)).setCell ⟨w.heap.size, 2, none⟩ (str iv)).setCell ⟨w.heap.size, 3, none⟩ (str lv)).setCell ⟨w.heap.size, 4, none⟩ (.int .i64 0)).setCell ⟨w.heap.size, 5, none⟩ (.slice S' (n - at_) c')).setCell ⟨w.heap.size, 6, none⟩ (.slice none 0 0)) = w9 at hbx9 hen9 hsb9 ⊢
                     clear hw9
                     obtain ⟨k0, k1, k2, k3, k4, k5, k6⟩ := hbx9
                     refine bodyPost_ret (v := .tuple #[.agg #[str main, str cv, str iv, str lv, .int .i64 0, .slice S' (n - at_) c', .slice none 0 0], .int .i64 (0 : Nat)]) (by simp [results, Tryz.results37, go_sem, k0, k1, k2, k3, k4, k5, k6]) rfl ?_
                     rw [HR2.out]
                     exact brleaf_fin Hbm2.out Hcv.out (by rw [Hiv.out, Hgi.out]) Hlv.out Htv.out (by unfold maxLen; omega) hcvl (by unfold maxLen; omega) (by unfold maxLen; omega) (by decide) (fun _ => ⟨Hrl.out.symm, HslX.out, hle6, hcm6⟩) hsb9 hen9.1 hen9.2
                 · have d2 : (lw == [56, 98, 105, 116]) = false := beq_eq_false_iff_ne.2 k2
                   by_cases k3 : lw = [98, 105, 110, 97, 114, 121]
                   · have d3 : (lw == [98, 105, 110, 97, 114, 121]) = true := by rw [k3]; rfl
                     have Hk := Lib.hid k3
                     clear k0 k1 k2 k3
                     obtain ⟨i0, hi0, hz0, hz1, hz2⟩ := info_parts infoByte
                     have hby := Hbyr.out wl Hbal.out
                     have Hby := Lib.hid hby
                     have hone0 : ∀ u ∈ Lib.byteCells (b.drop at_), u.oneCell' = true := by intro u hu; unfold Lib.byteCells at hu; obtain ⟨y, _, rfl⟩ := List.mem_map.1 hu; rfl
                     have Hone0 := Lib.hid hone0
                     obtain ⟨V5, hV5⟩ : ∃ x, x = wl.alloc (.cells #[] 5) := ⟨_, rfl⟩
                     have hb5 : Below wl.heap.size wl V5 := by rw [hV5]; exact (Below.refl _ wl).alloc (Nat.le_refl _) _
                     have hown5 : V5.ownsRow wl.heap.size 5 1 (.slice (some ⟨wl.heap.size, 0, none⟩) 0 0) 0 [] := by
                      rw [hV5]
                      exact ⟨rfl, .inr ⟨wl.heap.size, 0, #[], rfl, Nat.le_refl _, heap_alloc_new wl _, Nat.le_refl _, Nat.zero_le _, rfl, rfl⟩⟩
                     have hby5 : Sl V5 wl.heap.size 1 (cutA A c at_ 1) (n - at_) (Lib.byteCells (b.drop at_)) := Sl.below Hby.out hb5
                     have hba5 := Hbal.out.trans (hb5.mono Hbal.out.size)
                     have hbx5 := Hbxl.out.below hb5 hgl2
                     have hsz5 : wl.heap.size ≤ V5.heap.size := hb5.size
                     have HS5 := Lib.hid (And.intro hba5 (And.intro hbx5 hb5))
                     have hlen4 : n - at_ ≤ 40000 := by omega
                     clear hby hone0 hb5 hba5 hbx5
                     have hown5' := hown5
                     have hby5' := hby5
                     rw [hV5] at hown5' hby5'
                     have HV5 := Lib.hid hV5
                     have hsz5' : wl.heap.size ≤ (wl.alloc (.cells #[] 5)).heap.size := by rw [← HV5.out]; exact hsz5
                     clear hV5 hown5 hby5
                     go_upto_region 40 with fail
                     go_wp2_with (at_builtin; refine wpListM_app2 rfl _ _ 22 rfl wl.heap.size 5 i0 (.int .u8 0) 1 1 Tryz.underlying22 hi0 hz0 hz1 hz2 rfl (by decide) (some ⟨wl.heap.size, 0, none⟩) 0 0 [] rfl hown5' wl.heap.size (cutA A c at_ 1) (n - at_) (c - at_) (Lib.byteCells (b.drop at_)) rfl hby5' Hone0.out (by unfold maxLen; omega) (by omega) hsz5' ?_)
                     intro S' c' w6 hown6 hb6 hgr6 _
                     rw [← HV5.out] at hb6
                     clear hown5' hby5' hgr6
                     obtain ⟨hba5, hbx5, hb5⟩ := HS5.out
                     have hb56 := hb5.trans (hb6.mono (Nat.le_refl _))
                     have hba6 := Hbal.out.trans (hb56.mono Hbal.out.size)
                     have hbx6 := Hbxl.out.below hb56 hgl2
                     have hle6 := own_cap hown6
                     have hcm6 := own_capF hown6
                     have hsl6 := own_slsM hown6
                     try rw [List.nil_append] at hsl6
                     try rw [Nat.zero_add] at hle6
                     try rw [Nat.zero_add] at hsl6
                     try rw [Nat.zero_add]
                     obtain ⟨X, hX⟩ : ∃ X, X = w6.setCell ⟨wg.heap.size, 5, none⟩ (.slice S' (n - at_) c') := ⟨_, rfl⟩
                     have hbxX := hbx6.m5 (.slice S' (n - at_) c')
                     rw [← hX] at hbxX
                     have hbaX : Below W1.heap.size W1 X := by rw [hX]; exact hba6.setCell (by show W1.heap.size ≤ wg.heap.size; exact hw1g) _
                     have hslX : SlS (fun q => w.heap.size + 1 ≤ q ∧ q < X.heap.size) X 1 S' (n - at_) (Lib.byteCells (b.drop at_)) := by
                      have hsb := SameBut.set w6 wg.heap.size 5 (.slice S' (n - at_) c')
                      rw [← hX] at hsb
                      exact SlS.change hsl6 (fun q hq => ⟨by have := hq.1; omega, by rw [hsb.size]; exact hq.2⟩) (fun q hq => World.cell?_of_block (hsb.block _ (by have := hq.1; omega)))
                     have ⟨⟨x0, x1, x2, x3, x4, x5, x6⟩, xf⟩ := hbx6
                     have HX := Lib.hid hX
                     have HbX := Lib.hid (And.intro hbxX (And.intro hbaX hslX))
                     clear hX hbxX hbaX hslX hown6 hb6 hb56 hba6 hbx6 hsl6 hba5 hbx5 hb5
                     go_upto_region 41 with fail
                     rw [← HX.out]
                     clear x0 x1 x2 x3 x4 x5 x6 xf
                     have hbm := Hbm.out
                     rw [if_pos (.inr (.inr (.inr Hk.out)))] at hbm
                     obtain ⟨hbxE, hbaX, hslX⟩ := HbX.out
                     obtain ⟨hbxR, hbnR, hrdR, hgrR⟩ := HK.out _ hbaX
                     clear hbnR
                     by_cases h4 : 4000 < n - at_
                     · have d9 : decide ((4000 : Int) < ((n - at_ : Nat) : Int)) = true := by simp; omega
                       rw [if_pos (by rw [Hrl.out]; exact h4)] at hbm
                       have Hbm2 := Lib.hid hbm
                       clear hbm hslX hbaX
                       have hbx9 := BoxF.set7 (w := X) (b := w.heap.size) hbxR (str main) (str cv) (str iv) (str lv) (.int .i64 0) (.slice S' (n - at_) c') (.slice none 0 0)
                       have hen9 := brbox_end hrdR.2.2.2.2.1 hgl hgrR (str main) (str cv) (str iv) (str lv) (.int .i64 0) (.slice S' (n - at_) c') (.slice none 0 0)
                       have hsb9 := set7_block X w.heap.size (str main) (str cv) (str iv) (str lv) (.int .i64 0) (.slice S' (n - at_) c') (.slice none 0 0)
                       have ⟨⟨z0, z1, z2, z3, z4, z5, z6⟩, zf⟩ := hbxR
                       have ⟨⟨y0, y1, y2, y3, y4, y5, y6⟩, yf⟩ := hbxE
                       have Hb9 := Lib.hid (And.intro hbx9 (And.intro hen9 hsb9))
                       clear hbx9 hen9 hsb9 hbxR hbxE hrdR hgrR
                       go_wp2_with fail
                       obtain ⟨hbx9, hen9, hsb9⟩ := Hb9.out
                       generalize hw9 : (((((((X.setCell ⟨w.heap.size, 0, none⟩ (str main)).setCell ⟨w.heap.size, 1, none⟩ (str cv)).setCell ⟨w.heap.size, 2, none⟩ (str iv)).setCell ⟨w.heap.size, 3, none⟩ (str lv)).setCell ⟨w.heap.size, 4, none⟩ (.int .i64 0)).setCell ⟨w.heap.size, 5, none⟩ (.slice S' (n - at_) c')).setCell ⟨w.heap.size, 6, none⟩ (.slice none 0 0)) = w9 at hbx9 hen9 hsb9 ⊢
                       clear hw9
                       obtain ⟨k0, k1, k2, k3, k4, k5, k6⟩ := hbx9
                       refine bodyPost_ret (v := .tuple #[.agg #[str main, str cv, str iv, str lv, .int .i64 0, .slice S' (n - at_) c', .slice none 0 0], .int .i64 (2 : Nat)]) (by simp [results, Tryz.results37, go_sem, k0, k1, k2, k3, k4, k5, k6]) rfl ?_
                       rw [HR2.out]
                       exact brleaf_fin Hbm2.out Hcv.out (by rw [Hiv.out, Hgi.out]) Hlv.out Htv.out (by unfold maxLen; omega) hcvl (by unfold maxLen; omega) (by unfold maxLen; omega) (by decide) (fun h0 => absurd h0 (by decide)) hsb9 hen9.1 hen9.2
                     · have d9 : decide ((4000 : Int) < ((n - at_ : Nat) : Int)) = false := by simp; omega
                       rw [if_neg (by rw [Hrl.out]; exact h4)] at hbm
                       have Hbm2 := Lib.hid hbm
                       have HslX := Lib.hid hslX
                       clear hbm hslX hbaX
                       have hbx9 := BoxF.set7 (w := X) (b := w.heap.size) hbxR (str main) (str cv) (str iv) (str lv) (.int .i64 0) (.slice S' (n - at_) c') (.slice none 0 0)
                       have hen9 := brbox_end hrdR.2.2.2.2.1 hgl hgrR (str main) (str cv) (str iv) (str lv) (.int .i64 0) (.slice S' (n - at_) c') (.slice none 0 0)
                       have hsb9 := set7_block X w.heap.size (str main) (str cv) (str iv) (str lv) (.int .i64 0) (.slice S' (n - at_) c') (.slice none 0 0)
                       have ⟨⟨z0, z1, z2, z3, z4, z5, z6⟩, zf⟩ := hbxR
                       have ⟨⟨y0, y1, y2, y3, y4, y5, y6⟩, yf⟩ := hbxE
                       have Hb9 := Lib.hid (And.intro hbx9 (And.intro hen9 hsb9))
                       clear hbx9 hen9 hsb9 hbxR hbxE hrdR hgrR
                       go_wp2_with fail
                       obtain ⟨hbx9, hen9, hsb9⟩ := Hb9.out
                       generalize hw9 : (((((((X.setCell ⟨w.heap.size, 0, none⟩ (str main)).setCell ⟨w.heap.size, 1, none⟩ (str cv)).setCell ⟨w.heap.size, 2, none⟩ (str iv)).setCell ⟨w.heap.size, 3, none⟩ (str lv)).setCell ⟨w.heap.size, 4, none⟩ (.int .i64 0)).setCell ⟨w.heap.size, 5, none⟩ (.slice S' (n - at_) c')).setCell ⟨w.heap.size, 6, none⟩ (.slice none 0 0)) = w9 at hbx9 hen9 hsb9 ⊢
                       clear hw9
                       obtain ⟨k0, k1, k2, k3, k4, k5, k6⟩ := hbx9
                       refine bodyPost_ret (v := .tuple #[.agg #[str main, str cv, str iv, str lv, .int .i64 0, .slice S' (n - at_) c', .slice none 0 0], .int .i64 (0 : Nat)]) (by simp [results, Tryz.results37, go_sem, k0, k1, k2, k3, k4, k5, k6]) rfl ?_
                       rw [HR2.out]
                       exact brleaf_fin Hbm2.out Hcv.out (by rw [Hiv.out, Hgi.out]) Hlv.out Htv.out (by unfold maxLen; omega) hcvl (by unfold maxLen; omega) (by unfold maxLen; omega) (by decide) (fun _ => ⟨Hrl.out.symm, HslX.out, hle6, hcm6⟩) hsb9 hen9.1 hen9.2
                   · have d3 : (lw == [98, 105, 110, 97, 114, 121]) = false := beq_eq_false_iff_ne.2 k3
                     by_cases k4 : lw = [98, 97, 115, 101, 54, 52]
                     · have d4 : (lw == [98, 97, 115, 101, 54, 52]) = true := by rw [k4]; rfl
                       have hbm := Hbm.out
                       rw [if_neg (by rintro (h | h | h | h); exact k0 h; exact k1 h; exact k2 h; exact k3 h), if_pos k4] at hbm
                       have Hbm2 := Lib.hid hbm
                       have Hk := Lib.hid k4
                       clear k0 k1 k2 k3 k4
                       obtain ⟨X4, hX4⟩ : ∃ X, X = wl.setCell ⟨wg.heap.size, 4, none⟩ (.int .i64 1) := ⟨_, rfl⟩
                       have hbx4 := Hbxl.out.m4 (.int .i64 1)
                       rw [← hX4] at hbx4
                       have hba4 : Below W1.heap.size W1 X4 := by rw [hX4]; exact Hbal.out.setCell (by show W1.heap.size ≤ wg.heap.size; exact hw1g) _
                       have hts := run_toStr (P := Tryz.prog) X4 22 9 5 _ (cutA A c at_ 1) (n - at_) (c - at_) (b.drop at_) (Hbyr.out X4 hba4) Tryz.underlying22 Tryz.underlying5 Tryz.underlying9
                       have hrd := RBaseReadF_any (b.drop at_) X4 (by rw [Hrl.out]; omega)
                       have hsz4 : X4.heap.size = wl.heap.size := by rw [hX4]; simp [World.setCell]
                       have ⟨⟨x0, x1, x2, x3, x4, x5, x6⟩, xf⟩ := Hbxl.out
                       have HX4 := Lib.hid hX4
                       have Hrd := Lib.hid hrd
                       have Hb4 := Lib.hid (And.intro hbx4 hba4)
                       have hgX4 : wg.heap.size < X4.heap.size := by omega
                       clear hbm hX4 hbx4 hba4 hrd
                       go_upto_region 45 with fail
                       rw [← HX4.out]
                       clear x0 x1 x2 x3 x4 x5 x6 xf
                       go_wp2_with fail
                       refine Hrd.out.mono ?_
                       rintro e wm ⟨A5, c5, rfl, hs5, hc5, hm5, hbm⟩
                       obtain ⟨hbx4, hba4⟩ := Hb4.out
                       have hbam := hba4.trans (hbm.mono hba4.size)
                       have hbxm := hbx4.below hbm hgX4
                       obtain ⟨bb, be, hbb⟩ : ∃ bb be, readB (b.drop at_) = (bb, be) := ⟨_, _, rfl⟩
                       have hbm2 := Hbm2.out
                       rw [hbb] at hbm2 hs5 hc5 ⊢
                       have Hbm3 := Lib.hid hbm2
                       obtain ⟨nb, hnb⟩ : ∃ x, x = bb.length := ⟨_, rfl⟩
                       rw [← hnb] at hs5 hc5 ⊢
                       obtain ⟨X, hX⟩ : ∃ X, X = wm.setCell ⟨wg.heap.size, 5, none⟩ (.slice A5 nb c5) := ⟨_, rfl⟩
                       have hbxX := hbxm.m5 (.slice A5 nb c5)
                       rw [← hX] at hbxX
                       have hbaX : Below W1.heap.size W1 X := by rw [hX]; exact hbam.setCell (by show W1.heap.size ≤ wg.heap.size; exact hw1g) _
                       have hslX : SlS (fun q => w.heap.size + 1 ≤ q ∧ q < X.heap.size) X 1 A5 nb (Lib.byteCells bb) := by
                        have hsb := SameBut.set wm wg.heap.size 5 (.slice A5 nb c5)
                        rw [← hX] at hsb
                        exact SlS.change hs5 (fun q hq => ⟨by have := hq.1; omega, by rw [hsb.size]; exact hq.2⟩) (fun q hq => World.cell?_of_block (hsb.block _ (by have := hq.1; omega)))
                       have ⟨⟨x0, x1, x2, x3, x4, x5, x6⟩, xf⟩ := hbxm
                       have HX := Lib.hid hX
                       have Hnb := Lib.hid hnb
                       have HslX := Lib.hid hslX
                       have HbX := Lib.hid (And.intro hbxX hbaX)
                       clear hbb hbm2 hbm hX hbxX hbaX hslX hbam hbxm hs5 hnb hbx4 hba4
                       go_upto_region 49 with fail
                       rw [← HX.out]
                       clear x0 x1 x2 x3 x4 x5 x6 xf
                       obtain ⟨hbxE, hbaX⟩ := HbX.out
                       obtain ⟨hbxR, hbnR, hrdR, hgrR⟩ := HK.out _ hbaX
                       clear hbnR hbaX
                       have hbx9 := BoxF.set7 (w := X) (b := w.heap.size) hbxR (str main) (str cv) (str iv) (str lv) (.int .i64 1) (.slice A5 nb c5) (.slice none 0 0)
                       have hen9 := brbox_end hrdR.2.2.2.2.1 hgl hgrR (str main) (str cv) (str iv) (str lv) (.int .i64 1) (.slice A5 nb c5) (.slice none 0 0)
                       have hsb9 := set7_block X w.heap.size (str main) (str cv) (str iv) (str lv) (.int .i64 1) (.slice A5 nb c5) (.slice none 0 0)
                       have ⟨⟨z0, z1, z2, z3, z4, z5, z6⟩, zf⟩ := hbxR
                       have ⟨⟨y0, y1, y2, y3, y4, y5, y6⟩, yf⟩ := hbxE
                       have Hb9 := Lib.hid (And.intro hbx9 (And.intro hen9 hsb9))
                       clear hbx9 hen9 hsb9 hbxR hbxE hrdR hgrR
                       go_wp2_with fail
                       obtain ⟨hbx9, hen9, hsb9⟩ := Hb9.out
                       generalize hw9 : (((((((X.setCell ⟨w.heap.size, 0, none⟩ (str main)).setCell ⟨w.heap.size, 1, none⟩ (str cv)).setCell ⟨w.heap.size, 2, none⟩ (str iv)).setCell ⟨w.heap.size, 3, none⟩ (str lv)).setCell ⟨w.heap.size, 4, none⟩ (.int .i64 1)).setCell ⟨w.heap.size, 5, none⟩ (.slice A5 nb c5)).setCell ⟨w.heap.size, 6, none⟩ (.slice none 0 0)) = w9 at hbx9 hen9 hsb9 ⊢
                       clear hw9
                       obtain ⟨k0, k1, k2, k3, k4, k5, k6⟩ := hbx9
                       refine bodyPost_ret (v := .tuple #[.agg #[str main, str cv, str iv, str lv, .int .i64 1, .slice A5 nb c5, .slice none 0 0], .int .i64 (be : Nat)]) (by simp [results, Tryz.results37, go_sem, k0, k1, k2, k3, k4, k5, k6]) rfl ?_
                       rw [HR2.out]
                       exact brleaf_fin Hbm3.out Hcv.out (by rw [Hiv.out, Hgi.out]) Hlv.out Htv.out (by unfold maxLen; omega) hcvl (by unfold maxLen; omega) (by unfold maxLen; omega) (by decide) (fun _ => ⟨Hnb.out, HslX.out, hc5, hm5⟩) hsb9 hen9.1 hen9.2
                     · have d4 : (lw == [98, 97, 115, 101, 54, 52]) = false := beq_eq_false_iff_ne.2 k4
                       by_cases k5 : lw = [113, 117, 111, 116, 101, 100, 45, 112, 114, 105, 110, 116, 97, 98, 108, 101]
                       · have d5 : (lw == [113, 117, 111, 116, 101, 100, 45, 112, 114, 105, 110, 116, 97, 98, 108, 101]) = true := by rw [k5]; rfl
                         have hbm := Hbm.out
                         rw [if_neg (by rintro (h | h | h | h); exact k0 h; exact k1 h; exact k2 h; exact k3 h), if_neg k4, if_pos k5] at hbm
                         have Hbm2 := Lib.hid hbm
                         have Hk := Lib.hid k5
                         clear k0 k1 k2 k3 k4 k5
                         obtain ⟨X4, hX4⟩ : ∃ X, X = wl.setCell ⟨wg.heap.size, 4, none⟩ (.int .i64 2) := ⟨_, rfl⟩
                         have hbx4 := Hbxl.out.m4 (.int .i64 2)
                         rw [← hX4] at hbx4
                         have hba4 : Below W1.heap.size W1 X4 := by rw [hX4]; exact Hbal.out.setCell (by show W1.heap.size ≤ wg.heap.size; exact hw1g) _
                         have hts := run_toStr (P := Tryz.prog) X4 22 9 5 _ (cutA A c at_ 1) (n - at_) (c - at_) (b.drop at_) (Hbyr.out X4 hba4) Tryz.underlying22 Tryz.underlying5 Tryz.underlying9
                         have hrd := RQReadF_any (b.drop at_) X4 (HMB.below ((HK.out X4 hba4).2.2.1.1))
                         have hsz4 : X4.heap.size = wl.heap.size := by rw [hX4]; simp [World.setCell]
                         have ⟨⟨x0, x1, x2, x3, x4, x5, x6⟩, xf⟩ := Hbxl.out
                         have HX4 := Lib.hid hX4
                         have Hrd := Lib.hid hrd
                         have Hb4 := Lib.hid (And.intro hbx4 hba4)
                         have hgX4 : wg.heap.size < X4.heap.size := by omega
                         clear hbm hX4 hbx4 hba4 hrd
                         go_upto_region 48 with fail
                         rw [← HX4.out]
                         clear x0 x1 x2 x3 x4 x5 x6 xf
                         go_wp2_with fail
                         refine Hrd.out.mono ?_
                         rintro e wm ⟨A5, c5, rfl, hs5, hc5, hm5, hbm⟩
                         obtain ⟨hbx4, hba4⟩ := Hb4.out
                         have hbam := hba4.trans (hbm.mono hba4.size)
                         have hbxm := hbx4.below hbm hgX4
                         obtain ⟨bb, be, hbb⟩ : ∃ bb be, readQ (b.drop at_) = (bb, be) := ⟨_, _, rfl⟩
                         have hbm2 := Hbm2.out
                         rw [hbb] at hbm2 hs5 hc5 ⊢
                         have Hbm3 := Lib.hid hbm2
                         obtain ⟨nb, hnb⟩ : ∃ x, x = bb.length := ⟨_, rfl⟩
                         rw [← hnb] at hs5 hc5 ⊢
                         obtain ⟨X, hX⟩ : ∃ X, X = wm.setCell ⟨wg.heap.size, 5, none⟩ (.slice A5 nb c5) := ⟨_, rfl⟩
                         have hbxX := hbxm.m5 (.slice A5 nb c5)
                         rw [← hX] at hbxX
                         have hbaX : Below W1.heap.size W1 X := by rw [hX]; exact hbam.setCell (by show W1.heap.size ≤ wg.heap.size; exact hw1g) _
                         have hslX : SlS (fun q => w.heap.size + 1 ≤ q ∧ q < X.heap.size) X 1 A5 nb (Lib.byteCells bb) := by
                          have hsb := SameBut.set wm wg.heap.size 5 (.slice A5 nb c5)
                          rw [← hX] at hsb
                          exact SlS.change hs5 (fun q hq => ⟨by have := hq.1; omega, by rw [hsb.size]; exact hq.2⟩) (fun q hq => World.cell?_of_block (hsb.block _ (by have := hq.1; omega)))
                         have ⟨⟨x0, x1, x2, x3, x4, x5, x6⟩, xf⟩ := hbxm
                         have HX := Lib.hid hX
                         have Hnb := Lib.hid hnb
                         have HslX := Lib.hid hslX
                         have HbX := Lib.hid (And.intro hbxX hbaX)
                         clear hbb hbm2 hbm hX hbxX hbaX hslX hbam hbxm hs5 hnb hbx4 hba4
                         go_upto_region 49 with fail
                         rw [← HX.out]
                         clear x0 x1 x2 x3 x4 x5 x6 xf
                         obtain ⟨hbxE, hbaX⟩ := HbX.out
                         obtain ⟨hbxR, hbnR, hrdR, hgrR⟩ := HK.out _ hbaX
                         clear hbnR hbaX
                         have hbx9 := BoxF.set7 (w := X) (b := w.heap.size) hbxR (str main) (str cv) (str iv) (str lv) (.int .i64 2) (.slice A5 nb c5) (.slice none 0 0)
                         have hen9 := brbox_end hrdR.2.2.2.2.1 hgl hgrR (str main) (str cv) (str iv) (str lv) (.int .i64 2) (.slice A5 nb c5) (.slice none 0 0)
                         have hsb9 := set7_block X w.heap.size (str main) (str cv) (str iv) (str lv) (.int .i64 2) (.slice A5 nb c5) (.slice none 0 0)
                         have ⟨⟨z0, z1, z2, z3, z4, z5, z6⟩, zf⟩ := hbxR
                         have ⟨⟨y0, y1, y2, y3, y4, y5, y6⟩, yf⟩ := hbxE
                         have Hb9 := Lib.hid (And.intro hbx9 (And.intro hen9 hsb9))
                         clear hbx9 hen9 hsb9 hbxR hbxE hrdR hgrR
                         go_wp2_with fail
                         obtain ⟨hbx9, hen9, hsb9⟩ := Hb9.out
                         generalize hw9 : (((((((X.setCell ⟨w.heap.size, 0, none⟩ (str main)).setCell ⟨w.heap.size, 1, none⟩ (str cv)).setCell ⟨w.heap.size, 2, none⟩ (str iv)).setCell ⟨w.heap.size, 3, none⟩ (str lv)).setCell ⟨w.heap.size, 4, none⟩ (.int .i64 2)).setCell ⟨w.heap.size, 5, none⟩ (.slice A5 nb c5)).setCell ⟨w.heap.size, 6, none⟩ (.slice none 0 0)) = w9 at hbx9 hen9 hsb9 ⊢
                         clear hw9
                         obtain ⟨k0, k1, k2, k3, k4, k5, k6⟩ := hbx9
                         refine bodyPost_ret (v := .tuple #[.agg #[str main, str cv, str iv, str lv, .int .i64 2, .slice A5 nb c5, .slice none 0 0], .int .i64 (be : Nat)]) (by simp [results, Tryz.results37, go_sem, k0, k1, k2, k3, k4, k5, k6]) rfl ?_
                         rw [HR2.out]
                         exact brleaf_fin Hbm3.out Hcv.out (by rw [Hiv.out, Hgi.out]) Hlv.out Htv.out (by unfold maxLen; omega) hcvl (by unfold maxLen; omega) (by unfold maxLen; omega) (by decide) (fun _ => ⟨Hnb.out, HslX.out, hc5, hm5⟩) hsb9 hen9.1 hen9.2
                       · have d5 : (lw == [113, 117, 111, 116, 101, 100, 45, 112, 114, 105, 110, 116, 97, 98, 108, 101]) = false := beq_eq_false_iff_ne.2 k5
                         have hbm := Hbm.out
                         rw [if_neg (by rintro (h | h | h | h); exact k0 h; exact k1 h; exact k2 h; exact k3 h), if_neg k4, if_neg k5] at hbm
                         have Hbm2 := Lib.hid hbm
                         have hbxE := Hbxl.out
                         obtain ⟨hbxR, hbnR, hrdR, hgrR⟩ := HK.out _ Hbal.out
                         clear hbm hbnR k0 k1 k2 k3 k4 k5
                         have hbx9 := BoxF.set7 (w := wl) (b := w.heap.size) hbxR (str main) (str cv) (str iv) (str lv) (.int .i64 0) (.slice none 0 0) (.slice none 0 0)
                         have hen9 := brbox_end hrdR.2.2.2.2.1 hgl hgrR (str main) (str cv) (str iv) (str lv) (.int .i64 0) (.slice none 0 0) (.slice none 0 0)
                         have hsb9 := set7_block wl w.heap.size (str main) (str cv) (str iv) (str lv) (.int .i64 0) (.slice none 0 0) (.slice none 0 0)
                         have ⟨⟨z0, z1, z2, z3, z4, z5, z6⟩, zf⟩ := hbxR
                         have ⟨⟨y0, y1, y2, y3, y4, y5, y6⟩, yf⟩ := hbxE
                         have Hb9 := Lib.hid (And.intro hbx9 (And.intro hen9 hsb9))
                         clear hbx9 hen9 hsb9 hbxR hbxE hrdR hgrR
                         go_wp2_with fail
                         obtain ⟨hbx9, hen9, hsb9⟩ := Hb9.out
                         generalize hw9 : (((((((wl.setCell ⟨w.heap.size, 0, none⟩ (str main)).setCell ⟨w.heap.size, 1, none⟩ (str cv)).setCell ⟨w.heap.size, 2, none⟩ (str iv)).setCell ⟨w.heap.size, 3, none⟩ (str lv)).setCell ⟨w.heap.size, 4, none⟩ (.int .i64 0)).setCell ⟨w.heap.size, 5, none⟩ (.slice none 0 0)).setCell ⟨w.heap.size, 6, none⟩ (.slice none 0 0)) = w9 at hbx9 hen9 hsb9 ⊢
                         clear hw9
                         obtain ⟨k0, k1, k2, k3, k4, k5, k6⟩ := hbx9
                         refine bodyPost_ret (v := .tuple #[.agg #[str main, str cv, str iv, str lv, .int .i64 0, .slice none 0 0, .slice none 0 0], .int .i64 (4 : Nat)]) (by simp [results, Tryz.results37, go_sem, k0, k1, k2, k3, k4, k5, k6]) rfl ?_
                         rw [HR2.out]
                         exact brleaf_fin Hbm2.out Hcv.out (by rw [Hiv.out, Hgi.out]) Hlv.out Htv.out (by unfold maxLen; omega) hcvl (by unfold maxLen; omega) (by unfold maxLen; omega) (by decide) (fun h0 => absurd h0 (by decide)) hsb9 hen9.1 hen9.2
end Go.Proofs.YtinfjdfhkfhgjaaGreatDoor
