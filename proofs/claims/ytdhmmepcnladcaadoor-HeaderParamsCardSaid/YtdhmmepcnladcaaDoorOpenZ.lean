import Derived.Test.YtdhmmepcnladcaaDoorOpen
import Derived.Test.YtdhmmepcnladcaaDoorMem
import Derived.SliceStrings
namespace Go.Proofs.YtdhmmepcnladcaaDoor
open Go.ChangeShapes Go.WideShapes Go.ChangeAt Go.RowKit

set_option maxRecDepth 100000 in
/-- A slice of strings that came in, as a list of lists of bytes. -/
theorem open_strz {H : Type} {enc : TypeId × Value → H} {W : World} {base : Nat} {v : Value} {d : DataW H} {pl : List MemPlace}
    (hv : Value.okWide Tryd.prog W .any base 41 v) (h : DataW.Trod enc Tryd.prog W 0 (fun _ => true) true 41 v d pl) :
    ∃ A n c, ∃ ts : List (List UInt8), v = .slice A n c ∧ Sl W W.heap.size 1 A n (ts.map str) ∧ n ≤ c ∧ c ≤ maxLen ∧ (∀ x ∈ ts, x.length ≤ maxLen) := by
  obtain ⟨a0, len, cap, rfl⟩ := okWide_slice Tryd.underlying41 hv
  obtain ⟨fuel, hf⟩ := h
  rcases open_strings Tryd.underlying41 Tryd.underlying9 (by kernel_rfl) hf with ⟨hcs, _⟩ | ⟨x, l, c, ss, hcs, _, hl, hm, hz, hx, hcell, hsz⟩
  · simp [Value.cells] at hcs
    obtain ⟨rfl, rfl, rfl⟩ := hcs
    exact ⟨none, 0, 0, [], rfl, Sl.nil_ _ _ _ _, Nat.le_refl _, Nat.zero_le _, (fun x h => by cases h)⟩
  · simp [Value.cells] at hcs
    obtain ⟨rfl, rfl, rfl⟩ := hcs
    have hz : ss.length = cap := by simpa using hz
    refine ⟨some x, len, cap, (ss.take len).map (·.data.toList), rfl, ⟨by simp; omega, fun h0 => ?_⟩, hl, hm, ?_⟩
    · obtain ⟨b, off, spot⟩ := x
      have hspot : spot = none := by simpa [Addr.add] using World.cell?_spot (hcell 0 (by omega))
      subst hspot
      refine ⟨b, off, rfl, ?_, fun j u hu => ?_⟩
      · exact cell_lt (by have := hcell 0 (by omega); exact this)
      · have hj : j < len := by
          rcases Nat.lt_or_ge j len with h' | h'
          · exact h'
          · rw [List.getElem?_eq_none (by simp; omega)] at hu; cases hu
        have hjz : j < ss.length := by omega
        rw [← Go.WideShapes.add_plain, hcell j hjz, ← hu]
        simp [List.getD, hjz, hj, str]
    · intro y hy
      obtain ⟨s, hs, rfl⟩ := List.mem_map.1 hy
      have := hsz s (List.mem_of_mem_take hs)
      simpa using this
end Go.Proofs.YtdhmmepcnladcaaDoor
