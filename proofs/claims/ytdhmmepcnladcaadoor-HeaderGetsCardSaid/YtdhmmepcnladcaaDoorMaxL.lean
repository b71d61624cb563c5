import Derived.Test.YtdhmmepcnladcaaDoorBuild
namespace Go.Proofs.YtdhmmepcnladcaaDoor
open Go.RowKit

/-- What the walks ask of the library's own variable. -/
def MaxLenOk (w : World) : Prop := ∃ m, w.cell? ⟨3, 0, none⟩ = some (.int .i64 m)
theorem MaxLenOk.below {w w' : World} (h : MaxLenOk w) (hb : Below w.heap.size w w') : MaxLenOk w' := by
  obtain ⟨m, hm⟩ := h
  have hlt : 3 < w.heap.size := by
    rcases Nat.lt_or_ge 3 w.heap.size with h' | h'
    · exact h'
    · simp [World.cell?, Array.getElem?_eq_none h'] at hm
  exact ⟨m, (hb.cell (p := ⟨3, 0, none⟩) hlt).trans hm⟩

theorem MaxLenOk.lt {w : World} (h : MaxLenOk w) : 3 < w.heap.size := by
  obtain ⟨m, hm⟩ := h
  rcases Nat.lt_or_ge 3 w.heap.size with h' | h'
  · exact h'
  · simp [World.cell?, Array.getElem?_eq_none h'] at hm
theorem MaxLenOk.drewN {w : World} (h : MaxLenOk w) (n : Nat) : MaxLenOk (w.drewN n) := h
theorem MaxLenOk.grown {w w' : World} {s : Nat} (h : MaxLenOk w) (hg : w.grownBy w' (some s)) {v : Value} (hv : w.cell? ⟨s, 0, none⟩ = some v) (hn : ∀ m, v ≠ .int .i64 m) : MaxLenOk w' := by
  have hlt := h.lt
  obtain ⟨m, hm⟩ := h
  refine ⟨m, (World.cell?_of_block (hg.block 3 hlt ?_)).trans hm⟩
  intro e
  injection e with e
  rw [← e, hm] at hv
  injection hv with hv
  exact hn m hv.symm
theorem Index_any (l t : List UInt8) (w : World) (hM : MaxLenOk w) (hl : l.length ≤ 1000000) :
    Calls Tryd.prog 85 #[str l, .string ⟨t.toArray⟩] w fun e w' => e = .returned (.int .i64 (Lib.index l t)) ∧ w' = w := by
  obtain ⟨m, hm⟩ := hM
  exact Go.Proofs.Tryd.strings_Index ⟨l.toArray⟩ ⟨t.toArray⟩ m w (by simp [ByteArray.size]; omega) hm
end Go.Proofs.YtdhmmepcnladcaaDoor
