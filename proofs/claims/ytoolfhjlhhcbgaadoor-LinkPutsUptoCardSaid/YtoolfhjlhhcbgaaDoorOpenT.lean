import Derived.Test.YtoolfhjlhhcbgaaDoorOpen
import Derived.Test.YtoolfhjlhhcbgaaDoorLk11
import Derived.SliceStrings
namespace Go.Proofs.YtoolfhjlhhcbgaaDoor
open Go.ChangeShapes Go.WideShapes Go.ChangeAt Go.RowKit

theorem bulk_strs {H : Type} : ∀ (ss : List ByteArray), sumL (ss.map (·.data.toList)) ≤ Rows.uptoBulkAll (strs ss : List (DataW H))
  | [] => Nat.le_refl _
  | s :: ss => by
    have ih := bulk_strs (H := H) ss
    show (s.data.toList.length :: (ss.map (·.data.toList)).map List.length).sum ≤ (s.data.toList.length + 1) + Rows.uptoBulkAll (strs ss : List (DataW H))
    rw [List.sum_cons]
    unfold sumL at ih
    omega
set_option maxRecDepth 100000 in
/-- A slice of strings that came in, as a list of lists of bytes. -/
theorem open_strl {H : Type} {enc : TypeId × Value → H} {W : World} {base : Nat} {v : Value} {d : DataW H} {pl : List MemPlace}
    (hv : Value.okWide Tryd.prog W .any base 48 v) (h : DataW.Trod enc Tryd.prog W 0 (fun _ => true) true 48 v d pl) :
    ∃ A n c ts, v = .slice A n c ∧ Sl W W.heap.size 1 A n (ts.map str) ∧ n ≤ c ∧ c ≤ maxLen ∧ (∀ x ∈ ts, x.length ≤ maxLen) ∧ sumL ts ≤ Rows.uptoBulk d := by
  obtain ⟨a0, len, cap, rfl⟩ := okWide_slice Tryd.underlying48 hv
  obtain ⟨fuel, hf⟩ := h
  rcases open_strings Tryd.underlying48 Tryd.underlying9 (by kernel_rfl) hf with ⟨hcs, _⟩ | ⟨x, l, c, ss, hcs, _, hl, hm, hz, hx, hcell, hsz⟩
  · simp [Value.cells] at hcs
    obtain ⟨rfl, rfl, rfl⟩ := hcs
    exact ⟨none, 0, 0, [], rfl, Sl.nil_ _ _ _ _, Nat.le_refl _, Nat.zero_le _, (fun x h => by cases h), Nat.zero_le _⟩
  · simp [Value.cells] at hcs
    obtain ⟨rfl, rfl, rfl⟩ := hcs
    have hz : ss.length = cap := by simpa using hz
    refine ⟨some x, len, cap, (ss.take len).map (·.data.toList), rfl, ⟨by simp; omega, fun h0 => ?_⟩, hl, hm, ?_, ?_⟩
    · obtain ⟨b, off, spot⟩ := x
      have hspot : spot = none := by simpa [Addr.add] using World.cell?_spot (hcell 0 (by omega))
      subst hspot
      refine ⟨b, off, rfl, ?_, fun j u hu => ?_⟩
      · exact cell_lt (by have := hcell 0 (by omega); exact this)
      · have hj : j < len := by
          rcases Nat.lt_or_ge j len with h' | h'
          · exact h'
          · rw [List.getElem?_eq_none (by simp; omega)] at hu; cases hu
        have hjz : j < ss.length := by omega
        rw [← Go.WideShapes.add_plain, hcell j hjz, ← hu]
        simp [List.getD, hjz, hj, str]
    · intro y hy
      obtain ⟨s, hs, rfl⟩ := List.mem_map.1 hy
      have := hsz s (List.mem_of_mem_take hs)
      simpa using this
    · simp only [Prod.mk.injEq] at hx
      rw [hx.1]
      have := bulk_strs (H := H) (ss.take len)
      show _ ≤ Rows.uptoBulkAll (strs (ss.take len) : List (DataW H)) + _ + 1
      omega
end Go.Proofs.YtoolfhjlhhcbgaaDoor
