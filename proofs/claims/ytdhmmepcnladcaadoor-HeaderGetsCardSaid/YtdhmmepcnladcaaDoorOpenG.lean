import Derived.Test.YtdhmmepcnladcaaDoorOpenF
import Derived.SizedLaws
namespace Go.Proofs.YtdhmmepcnladcaaDoor
open Go.ChangeShapes Go.WideShapes Go.ChangeAt Go.RowKit Go.Deep

theorem bytesField : Tryd.prog.bytesOf 46 = 32 := by kernel_rfl
/-- What was read takes at most 2^47 - 4096 bytes. -/
theorem reach_fields {H : Type} {enc : TypeId × Value → H} {W : World} {ts : List TypeId} {ds : List (DataW H)} {j : Nat} {d : DataW H} {pl : List MemPlace} {A : Option Addr} {n c : Nat}
    (hsz : (DataW.weightsEach Tryd.prog ts ds).all (· ≤ reachBytes) = true) (ht : ts[j]? = some 42) (hd : ds[j]? = some d) (h : DataW.Trod enc Tryd.prog W 0 (fun _ => true) true 42 (.slice A n c) d pl) : c * 32 ≤ 140737488351232 := by
  obtain ⟨fuel, hf⟩ := h
  rcases DataW.trod_slice Tryd.underlying42 hf with ⟨hcs, _⟩ | ⟨a, len, cap, elems, rest, n', hfu', hcs, hx, hb, hl, hm, hlen, hel, hsp, hns⟩
  · simp [Value.cells] at hcs
    omega
  · simp [Value.cells] at hcs
    obtain ⟨rfl, rfl, rfl⟩ := hcs
    simp only [Prod.mk.injEq] at hx
    rw [hx.1] at hd
    have := sized_slice hsz ht hd Tryd.underlying42
    rw [bytesField] at this
    simp only [List.length_map, reachBytes] at this
    have h2 := (hsp rfl).1
    omega
section
variable {H : Type} {enc : TypeId × Value → H} {w : World} {base : Nat} {held : Bool}
set_option maxRecDepth 100000 in
/-- A field that came in. -/
theorem open_field {r : Reach} {b0 : Nat} {v : Value} {d : DataW H} {pl : List MemPlace} (hv : Value.okWide Tryd.prog w r b0 46 v) (h : DataW.Trod enc Tryd.prog w base (fun _ => true) held 46 v d pl) :
    ∃ f : FieldD, v = .agg #[str f.name, str f.value] ∧ f.name.length ≤ maxLen ∧ f.value.length ≤ maxLen := by
  obtain ⟨cs, rfl, hsz⟩ := okWide_struct Tryd.underlying46 hv
  obtain ⟨l⟩ := cs
  obtain ⟨fuel, hf⟩ := h
  obtain ⟨f, h1, h2⟩ := field_of_trod fuel l _ hf
  exact ⟨f, by rw [h1]; rfl, h2⟩
end
end Go.Proofs.YtdhmmepcnladcaaDoor
