import Derived.Test.YtdhmmepcnladcaaDoorUrl2
namespace Go.Proofs.YtdhmmepcnladcaaDoor
open Go.RowKit

/-- Eight cells of a block. -/
def Box8 (w : World) (b : Nat) (v0 v1 v2 v3 v4 v5 v6 v7 : Value) : Prop :=
  w.cell? ⟨b, 0, none⟩ = some v0 ∧ w.cell? ⟨b, 1, none⟩ = some v1 ∧ w.cell? ⟨b, 2, none⟩ = some v2 ∧ w.cell? ⟨b, 3, none⟩ = some v3 ∧ w.cell? ⟨b, 4, none⟩ = some v4 ∧ w.cell? ⟨b, 5, none⟩ = some v5 ∧ w.cell? ⟨b, 6, none⟩ = some v6 ∧ w.cell? ⟨b, 7, none⟩ = some v7
theorem Box8.lt {w : World} {b : Nat} {v0 v1 v2 v3 v4 v5 v6 v7 : Value} (h : Box8 w b v0 v1 v2 v3 v4 v5 v6 v7) : b < w.heap.size := by
  rcases Nat.lt_or_ge b w.heap.size with h' | h'
  · exact h'
  · have := h.1; simp [World.cell?, Array.getElem?_eq_none h'] at this
theorem Box8.below {w w' : World} {b : Nat} {v0 v1 v2 v3 v4 v5 v6 v7 : Value} (h : Box8 w b v0 v1 v2 v3 v4 v5 v6 v7) (hb : Below w.heap.size w w') : Box8 w' b v0 v1 v2 v3 v4 v5 v6 v7 := by
  have hlt := h.lt
  obtain ⟨h0, h1, h2, h3, h4, h5, h6, h7⟩ := h
  exact ⟨(hb.cell (p := ⟨b, 0, none⟩) hlt).trans h0, (hb.cell (p := ⟨b, 1, none⟩) hlt).trans h1, (hb.cell (p := ⟨b, 2, none⟩) hlt).trans h2, (hb.cell (p := ⟨b, 3, none⟩) hlt).trans h3, (hb.cell (p := ⟨b, 4, none⟩) hlt).trans h4, (hb.cell (p := ⟨b, 5, none⟩) hlt).trans h5, (hb.cell (p := ⟨b, 6, none⟩) hlt).trans h6, (hb.cell (p := ⟨b, 7, none⟩) hlt).trans h7⟩
theorem Box8.new (w : World) (t : TypeId) (v0 v1 v2 v3 v4 v5 v6 v7 : Value) : Box8 (w.alloc (.cells #[v0, v1, v2, v3, v4, v5, v6, v7] t)) w.heap.size v0 v1 v2 v3 v4 v5 v6 v7 := by
  have h := heap_alloc_new w (.cells #[v0, v1, v2, v3, v4, v5, v6, v7] t)
  refine ⟨?_, ?_, ?_, ?_, ?_, ?_, ?_, ?_⟩ <;> (unfold World.cell?; rw [h]; rfl)
set_option maxRecDepth 100000 in
set_option maxHeartbeats 1000000 in
theorem textU_any (sc ho pa qu fr : List UInt8) (hh hq hf : Bool) (w : World) (l0 : sc.length ≤ 1000) (l1 : ho.length ≤ 1000) (l2 : pa.length ≤ 1000) (l3 : qu.length ≤ 1000) (l4 : fr.length ≤ 1000) :
    Calls Tryd.prog 106 #[.agg #[str sc, .bool hh, str ho, str pa, .bool hq, str qu, .bool hf, str fr]] w fun e w' => e = .returned (str (textU ⟨sc, hh, ho, pa, hq, qu, hf, fr⟩)) ∧ Below w.heap.size w w' := by
  obtain ⟨W, hW⟩ : ∃ W, W = w.alloc (.cells #[str sc, .bool hh, str ho, str pa, .bool hq, str qu, .bool hf, str fr] 59) := ⟨_, rfl⟩
  have hbW : Below w.heap.size w W := by rw [hW]; exact (Below.refl _ w).alloc (Nat.le_refl _) _
  have hbx : Box8 W w.heap.size (str sc) (.bool hh) (str ho) (str pa) (.bool hq) (str qu) (.bool hf) (str fr) := by rw [hW]; exact Box8.new w _ _ _ _ _ _ _ _ _
  have HbW := Lib.hid hbW
  clear hbW
  obtain ⟨c0, c1, c2, c3, c4, c5, c6, c7⟩ := hbx
  by_cases h0 : sc = []
  · have hs : (sc == []) = true := by rw [h0]; rfl
    have H0 := Lib.hid h0
    clear h0
    cases hh <;> cases hq <;> cases hf
    all_goals
      go_enter Tryd.func106, Tryd.ntmps106
      go_wp2_with fail
      go_ret
      rw [← hW]
      exact ⟨by have h0 := H0.out; simp [textU, h0], HbW.out⟩
  · have hs : (sc == []) = false := by simpa using h0
    have H0 := Lib.hid h0
    clear h0
    cases hh <;> cases hq <;> cases hf
    all_goals
      go_enter Tryd.func106, Tryd.ntmps106
      go_wp2_with fail
      go_ret
      rw [← hW]
      exact ⟨by have h0 := H0.out; simp [textU, h0], HbW.out⟩
end Go.Proofs.YtdhmmepcnladcaaDoor
