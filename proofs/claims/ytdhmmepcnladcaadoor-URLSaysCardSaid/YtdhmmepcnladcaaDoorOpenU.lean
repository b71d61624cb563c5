import Derived.Test.YtdhmmepcnladcaaDoorOpen
import Derived.Test.YtdhmmepcnladcaaDoorUrlM
import Derived.Deep.Fields
import Derived.SizedLaws
namespace Go.Proofs.YtdhmmepcnladcaaDoor
open Go.ChangeShapes Go.WideShapes Go.ChangeAt Go.RowKit Go.Deep

theorem urlStruct : Tryd.prog.cellsOf 59 = 8 := by kernel_rfl
section
variable {H : Type} {enc : TypeId × Value → H} {w : World} {base : Nat} {held : Bool}
set_option maxRecDepth 100000 in
/-- An address that came in. -/
theorem open_url {r : Reach} {b0 : Nat} {v : Value} {d : DataW H} {pl : List MemPlace} (hv : Value.okWide Tryd.prog w r b0 59 v) (h : DataW.Trod enc Tryd.prog w base (fun _ => true) held 59 v d pl) : ∃ u : UrlD, v = u.val := by
  obtain ⟨cs, rfl, hsz⟩ := okWide_struct Tryd.underlying59 hv
  obtain ⟨l⟩ := cs
  obtain ⟨fuel, hf⟩ := h
  have hf : DataW.trod enc Tryd.prog w base (fun _ => true) held fuel 59 l = some (d, pl) := hf
  obtain ⟨xs, n, hfu, _, hl, hxl, hf⟩ := DataW.trod_struct Tryd.underlying59 hf
  rw [urlStruct] at hl
  match l, hl with
  | [c0, c1, c2, c3, c4, c5, c6, c7], _ =>
    match xs, hxl with
    | [x0, x1, x2, x3, x4, x5, x6, x7], _ =>
      have h0 : DataW.trod enc Tryd.prog w base (fun _ => true) held n 9 [c0] = some x0 := hf 0 _ rfl
      have h1 : DataW.trod enc Tryd.prog w base (fun _ => true) held n 4 [c1] = some x1 := hf 1 _ rfl
      have h2 : DataW.trod enc Tryd.prog w base (fun _ => true) held n 9 [c2] = some x2 := hf 2 _ rfl
      have h3 : DataW.trod enc Tryd.prog w base (fun _ => true) held n 9 [c3] = some x3 := hf 3 _ rfl
      have h4 : DataW.trod enc Tryd.prog w base (fun _ => true) held n 4 [c4] = some x4 := hf 4 _ rfl
      have h5 : DataW.trod enc Tryd.prog w base (fun _ => true) held n 9 [c5] = some x5 := hf 5 _ rfl
      have h6 : DataW.trod enc Tryd.prog w base (fun _ => true) held n 4 [c6] = some x6 := hf 6 _ rfl
      have h7 : DataW.trod enc Tryd.prog w base (fun _ => true) held n 9 [c7] = some x7 := hf 7 _ rfl
      obtain ⟨s0, e0, _⟩ := DataW.trod_string Tryd.underlying9 h0
      obtain ⟨b1, e1, _⟩ := DataW.trod_bool Tryd.underlying4 h1
      obtain ⟨s2, e2, _⟩ := DataW.trod_string Tryd.underlying9 h2
      obtain ⟨s3, e3, _⟩ := DataW.trod_string Tryd.underlying9 h3
      obtain ⟨b4, e4, _⟩ := DataW.trod_bool Tryd.underlying4 h4
      obtain ⟨s5, e5, _⟩ := DataW.trod_string Tryd.underlying9 h5
      obtain ⟨b6, e6, _⟩ := DataW.trod_bool Tryd.underlying4 h6
      obtain ⟨s7, e7, _⟩ := DataW.trod_string Tryd.underlying9 h7
      simp only [List.cons.injEq, and_true] at e0 e1 e2 e3 e4 e5 e6 e7
      subst e0 e1 e2 e3 e4 e5 e6 e7
      exact ⟨⟨s0.data.toList, b1, s2.data.toList, s3.data.toList, b4, s5.data.toList, b6, s7.data.toList⟩, rfl⟩
end
end Go.Proofs.YtdhmmepcnladcaaDoor
