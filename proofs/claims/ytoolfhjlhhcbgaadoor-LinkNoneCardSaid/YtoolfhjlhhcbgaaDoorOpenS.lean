import Derived.Test.YtoolfhjlhhcbgaaDoorOpen
import Derived.SliceStrings
import Derived.SizedLaws
namespace Go.Proofs.YtoolfhjlhhcbgaaDoor
open Go.ChangeShapes Go.WideShapes Go.ChangeAt Go.RowKit

theorem bytesU8 : Tryd.prog.bytesOf 5 = 1 := by kernel_rfl
/-- What was read takes at most 2^47 - 4096 bytes. -/
theorem reach_bytes {H : Type} {enc : TypeId × Value → H} {W : World} {ts : List TypeId} {ds : List (DataW H)} {j : Nat} {d : DataW H} {pl : List MemPlace} {A : Option Addr} {n c : Nat}
    (hsz : (DataW.weightsEach Tryd.prog ts ds).all (· ≤ reachBytes) = true) (ht : ts[j]? = some 22) (hd : ds[j]? = some d) (h : DataW.Trod enc Tryd.prog W 0 (fun _ => true) true 22 (.slice A n c) d pl) : c ≤ 140737488351232 := by
  obtain ⟨fuel, hf⟩ := h
  rcases open_ints Tryd.underlying22 Tryd.underlying5 (by kernel_rfl) hf with ⟨hcs, _⟩ | ⟨x, l, cc, zs, hcs, _, hl, hm, hz, hx, hcell, hwz⟩
  · simp [Value.cells] at hcs
    omega
  · simp [Value.cells] at hcs
    obtain ⟨rfl, rfl, rfl⟩ := hcs
    simp only [Prod.mk.injEq] at hx
    rw [hx.1] at hd
    have := sized_slice hsz ht hd Tryd.underlying22
    rw [bytesU8] at this
    simp only [lits, List.length_map, List.length_take, List.length_drop, reachBytes] at this
    simp only [if_true] at hz
    omega
end Go.Proofs.YtoolfhjlhhcbgaaDoor
