import Derived.Test.YtdhmmepcnladcaaDoorQsP
import Derived.Test.YtdhmmepcnladcaaDoorStr
namespace Go.Proofs.YtdhmmepcnladcaaDoor
open Go.RowKit

/-- The table that math/bits reads. -/
def DeOk (w : World) : Prop := w.cell? ⟨10, 15, none⟩ = some (.int .u8 4)
theorem DeOk.lt {w : World} (h : DeOk w) : 10 < w.heap.size := World.block_lt_of_cell? _ _ h
theorem DeOk.below {w w' : World} (h : DeOk w) (hb : Below w.heap.size w w') : DeOk w' := (hb.cell (p := ⟨10, 15, none⟩) h.lt).trans h
set_option maxRecDepth 100000 in
set_option maxHeartbeats 1000000 in
theorem Zeros64_16 (w : World) (h : DeOk w) : Calls Tryd.prog 253 #[.int .u64 16] w fun e w' => e = .returned (.int .i64 4) ∧ w = w' := by
  unfold DeOk at h
  have b1 : bits .and .u64 16 (IntKind.u64.wrap (-16)) = 16 := by decide +kernel
  have b2 : IntKind.u64.wrap (16 * 285870213051353865) = 4573923408821661840 := by decide +kernel
  go_enter Tryd.func253, Tryd.ntmps253
  go_wp2_with fail
  go_ret
  exact ⟨rfl, rfl⟩
set_option maxRecDepth 100000 in
set_option maxHeartbeats 1000000 in
theorem Zeros_16 (w : World) (h : DeOk w) : Calls Tryd.prog 250 #[.int .u64 16] w fun e w' => e = .returned (.int .i64 4) ∧ w = w' := by
  have HD := Lib.hid h
  clear h
  go_enter Tryd.func250, Tryd.ntmps250
  go_wp2_with fail
  refine (Zeros64_16 _ HD.out).mono ?_
  rintro e w1 ⟨rfl, rfl⟩
  go_wp2_with fail
  go_ret
  exact ⟨rfl, rfl⟩
set_option maxRecDepth 100000 in
set_option maxHeartbeats 1000000 in
theorem isPow_16 (w : World) : Calls Tryd.prog 249 #[.int .i64 16] w fun e w' => e = .returned (.bool true) ∧ w = w' := by
  go_enter Tryd.func249, Tryd.ntmps249
  go_wp2_with fail
  go_ret
  exact ⟨rfl, rfl⟩
theorem and15u : ∀ x : Fin 256, bits .and .u64 ((x.val : Nat) : Int) 15 = ((x.val % 16 : Nat) : Int) := by decide +kernel
def hexL : List UInt8 := [48, 49, 50, 51, 52, 53, 54, 55, 56, 57, 97, 98, 99, 100, 101, 102, 103, 104, 105, 106, 107, 108, 109, 110, 111, 112, 113, 114, 115, 116, 117, 118, 119, 120, 121, 122]
/-- The array of formatBits. -/
def ArrAt (W : World) (b : Nat) (C : Array Value) : Prop := W.heap[b]? = some (.cells C 231 (0, 0))
theorem ArrAt.cell {W : World} {b : Nat} {C : Array Value} (h : ArrAt W b C) (i : Nat) (v : Value) (hv : C[i]? = some v) : W.cell? ⟨b, i, none⟩ = some v := by
  unfold ArrAt at h
  unfold World.cell?
  rw [h]
  exact hv
theorem ArrAt.fz {W : World} {b : Nat} {C : Array Value} (h : ArrAt W b C) : ∀ i, W.frozen? ⟨b, i, none⟩ = false := by
  intro i
  unfold ArrAt at h
  unfold World.frozen?
  rw [h]
  simp
theorem ArrAt.put {W : World} {b : Nat} {C : Array Value} (h : ArrAt W b C) (k : Nat) (v : Value) : ArrAt (W.setCell ⟨b, k, none⟩ v) b (C.setIfInBounds k v) := by
  unfold ArrAt at h ⊢
  simp only [World.setCell, Array.getElem?_modify, if_pos, h, Option.map_some]
  rfl
theorem hex_low : ∀ k : Fin 16, hexL.getD k.val 0 = lowDs.getD k.val 0 := by decide +kernel
set_option maxRecDepth 100000 in
theorem idx_hex (k : Nat) (hk : k < 16) (X : World) : (Instr.index 9 (.string ⟨hexL.toArray⟩) (.int .u64 (k : Int))).run Tryd.prog X = .ok (.int .u8 ((nth lowDs k : Nat) : Int)) X := by
  have h : k = 0 ∨ k = 1 ∨ k = 2 ∨ k = 3 ∨ k = 4 ∨ k = 5 ∨ k = 6 ∨ k = 7 ∨ k = 8 ∨ k = 9 ∨ k = 10 ∨ k = 11 ∨ k = 12 ∨ k = 13 ∨ k = 14 ∨ k = 15 := by omega
  rcases h with rfl | rfl | rfl | rfl | rfl | rfl | rfl | rfl | rfl | rfl | rfl | rfl | rfl | rfl | rfl | rfl <;> rfl
/-- The state of the loop. -/
def FmtRel (c b : Nat) (W0 : World) (uv iv : Value) (wr : World) : Prop :=
  (uv = .int .u64 (c : Nat) ∧ iv = .int .i64 65 ∧ wr = W0) ∨ (16 ≤ c ∧ uv = .int .u64 ((c / 16 : Nat) : Int) ∧ iv = .int .i64 64 ∧ wr = W0.setCell ⟨b, 64, none⟩ (.int .u8 ((nth hexL (c % 16) : Nat) : Int)))
set_option maxRecDepth 100000 in
set_option maxHeartbeats 1000000 in
theorem formatBits_16 (c : Nat) (hc : c < 256) (w : World) (h : DeOk w) : Calls Tryd.prog 237 #[.slice none 0 0, .int .u64 (c : Nat), .int .i64 16, .bool false, .bool false] w fun e w' => e = .returned (.tuple #[.slice none 0 0, str (fmtQ c)]) ∧ Below w.heap.size w w' := by
  have HD := Lib.hid h
  clear h
  go_enter Tryd.func237, Tryd.ntmps237
  go_wp2_with fail
  refine (isPow_16 _).mono ?_
  rintro e w1 ⟨rfl, rfl⟩
  go_wp2_with fail
  refine (Zeros_16 _ (HD.out.below ((Below.refl _ w).alloc (Nat.le_refl _) _))).mono ?_
  rintro e w1 ⟨rfl, rfl⟩
  go_wp2_with fail
  generalize hW : World.alloc w _ = W
  have hb0 : Below w.heap.size w W := by rw [← hW]; exact (Below.refl _ w).alloc (Nat.le_refl _) _
  have hA : ArrAt W w.heap.size Tryd.zeroCells231 := by rw [← hW]; exact heap_alloc_new w _
  clear hW
  have hZ63 : Tryd.zeroCells231[63]? = some (.int .u8 0) := by kernel_rfl
  have hZ64 : Tryd.zeroCells231[64]? = some (.int .u8 0) := by kernel_rfl
  have hZs : Tryd.zeroCells231.size = 65 := by kernel_rfl
  generalize Tryd.zeroCells231 = Z at *
  have hsz : w.heap.size < W.heap.size := by
    rcases Nat.lt_or_ge w.heap.size W.heap.size with h' | h'
    · exact h'
    · unfold ArrAt at hA; rw [Array.getElem?_eq_none h'] at hA; cases hA
  go_loopw [1, 13] (fun uv iv wr => FmtRel c w.heap.size W uv iv wr) (fun _ iv _ => (intOf iv).toNat)
  case atStart => exact .inl ⟨rfl, rfl, rfl⟩
  case round =>
    rcases hrel with ⟨rfl, rfl, rfl⟩ | ⟨h16, rfl, rfl, rfl⟩
    · have c64 := hA.cell 64 _ hZ64
      have f64 := hA.fz 64
      by_cases h16 : c < 16
      · have d1 : decide ((16 : Int) ≤ (c : Int)) = false := decide_eq_false (by omega)
        have d2 : (c : Int) < 16 := by omega
        have ix := fun X => idx_hex c h16 X
        simp only [hexL] at ix
        have hP := hA.put 64 (.int .u8 ((nth lowDs c : Nat) : Int))
        have hby : By (wr.setCell ⟨w.heap.size, 64, none⟩ (.int .u8 ((nth lowDs c : Nat) : Int))) wr.heap.size (some ⟨w.heap.size, 64, none⟩) 1 [lowDs.getD c 0] := by
          refine ⟨rfl, fun _ => ⟨_, _, rfl, hsz, fun j u hu => ?_⟩⟩
          cases j with
          | zero =>
            refine hP.cell 64 u ?_
            simp [Lib.byteCells] at hu
            rw [← hu]
            simp [hZs, nth]
          | succ j => simp [Lib.byteCells] at hu
        have hcv := fun X B (h : By X B (some ⟨w.heap.size, 64, none⟩) 1 [lowDs.getD c 0]) => run_toStr (P := Tryd.prog) X 22 9 5 B (some ⟨w.heap.size, 64, none⟩) 1 1 [lowDs.getD c 0] h Tryd.underlying22 Tryd.underlying5 Tryd.underlying9
        have hcv1 := hcv _ _ hby
        have HB := Lib.hid (hb0.setCell (p := ⟨w.heap.size, 64, none⟩) (Nat.le_refl _) (.int .u8 ((nth lowDs c : Nat) : Int)))
        have hq : fmtQ c = [lowDs.getD c 0] := by unfold fmtQ; rw [if_pos h16]
        have HQ := Lib.hid hq
        clear hq hby hP hcv
        go_wp2_with fail
        refine bodyPost_ret (v := .tuple #[.slice none 0 0, str [lowDs.getD c 0]]) (by simp [results, Tryd.results237, go_sem]) rfl ⟨by rw [HQ.out], HB.out⟩
      · have d1 : decide ((16 : Int) ≤ (c : Int)) = true := decide_eq_true (by omega)
        have d2 : (16 : Int) ≤ (c : Int) := by omega
        have b1 := and15u ⟨c, hc⟩
        simp only at b1
        go_wp2_with fail
        exact ⟨.inr ⟨by omega, rfl, rfl, rfl⟩, by simp [intOf]⟩
    · have hA1 := hA.put 64 (.int .u8 ((nth hexL (c % 16) : Nat) : Int))
      have hZ63' : (Z.setIfInBounds 64 (.int .u8 ((nth hexL (c % 16) : Nat) : Int)))[63]? = some (.int .u8 0) := by
        rw [Array.getElem?_setIfInBounds_ne (by omega)]; exact hZ63
      have c63 := hA1.cell 63 _ hZ63'
      have f63 := hA1.fz 63
      have q16 : c / 16 < 16 := by omega
      have hlo := hex_low ⟨c % 16, by omega⟩
      simp only at hlo
      have hq : fmtQ c = [lowDs.getD (c / 16) 0, hexL.getD (c % 16) 0] := by unfold fmtQ; rw [if_neg (by omega), hlo]
      clear hlo
      generalize c / 16 = q at *
      have d1 : decide ((16 : Int) ≤ ((q : Nat) : Int)) = false := decide_eq_false (by omega)
      have d2 : ((q : Nat) : Int) < 16 := by omega
      have ix := fun X => idx_hex q q16 X
      simp only [hexL] at ix
      have hP := hA1.put 63 (.int .u8 ((nth lowDs q : Nat) : Int))
      generalize hX : W.setCell ⟨w.heap.size, 64, none⟩ (.int .u8 ((nth hexL (c % 16) : Nat) : Int)) = X at *
      have hsX : w.heap.size < X.heap.size := by rw [← hX]; simpa [World.setCell] using hsz
      have hbX : Below w.heap.size w X := by rw [← hX]; exact hb0.setCell (p := ⟨w.heap.size, 64, none⟩) (Nat.le_refl _) _
      clear hX hA1
      have hby : By (X.setCell ⟨w.heap.size, 63, none⟩ (.int .u8 ((nth lowDs q : Nat) : Int))) X.heap.size (some ⟨w.heap.size, 63, none⟩) 2 [lowDs.getD q 0, hexL.getD (c % 16) 0] := by
        refine ⟨rfl, fun _ => ⟨_, _, rfl, hsX, fun j u hu => ?_⟩⟩
        match j, hu with
        | 0, hu =>
          refine hP.cell 63 u ?_
          simp [Lib.byteCells] at hu
          rw [← hu]
          simp [hZs, nth]
        | 1, hu =>
          refine hP.cell 64 u ?_
          simp [Lib.byteCells] at hu
          rw [← hu]
          simp [hZs, nth]
        | j + 2, hu => simp [Lib.byteCells] at hu
      have hcv1 := run_toStr (P := Tryd.prog) _ 22 9 5 _ (some ⟨w.heap.size, 63, none⟩) 2 2 _ hby Tryd.underlying22 Tryd.underlying5 Tryd.underlying9
      have HB := Lib.hid (hbX.setCell (p := ⟨w.heap.size, 63, none⟩) (Nat.le_refl _) (.int .u8 ((nth lowDs q : Nat) : Int)))
      have HQ := Lib.hid hq
      clear hq hby hP
      go_wp2_with fail
      refine bodyPost_ret (v := .tuple #[.slice none 0 0, str [lowDs.getD q 0, hexL.getD (c % 16) 0]]) (by simp [results, Tryd.results237, go_sem]) rfl ⟨by rw [HQ.out], HB.out⟩
end Go.Proofs.YtdhmmepcnladcaaDoor
