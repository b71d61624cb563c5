import Derived.Test.YtdhmmepcnladcaaDoorOpen
import Derived.Test.YtdhmmepcnladcaaDoorHd1
import Derived.Deep.Slices
import Derived.Deep.Fields
import Derived.Lib.SmallJoins
namespace Go.Proofs.YtdhmmepcnladcaaDoor
open Go.ChangeShapes Go.WideShapes Go.ChangeAt Go.RowKit Go.Deep

theorem fieldStruct : Tryd.prog.cellsOf 46 = 2 := by kernel_rfl
theorem plain_atF {w : World} {a : Addr} {v : Value} (h : w.cell? (a.add 0) = some v) : ∃ b off, a = ⟨b, off, none⟩ := by
  obtain ⟨b, off, spot⟩ := a
  have hspot : spot = none := by
    simpa [Addr.add] using World.cell?_spot h
  subst hspot
  exact ⟨b, off, rfl⟩
section
variable {H : Type} {enc : TypeId × Value → H} {w : World} {base : Nat} {held : Bool}
set_option maxRecDepth 100000 in
theorem field_of_trod (fuel : Nat) (cs : List Value) (x : DataW H × List MemPlace) (h : DataW.trod enc Tryd.prog w base (fun _ => true) held fuel 46 cs = some x) :
    ∃ f : FieldD, cs = f.cells ∧ f.name.length ≤ maxLen ∧ f.value.length ≤ maxLen := by
  obtain ⟨xs, n, hfu, _, hl, hxl, hf⟩ := DataW.trod_struct Tryd.underlying46 h
  rw [fieldStruct] at hl
  match cs, hl with
  | [c0, c1], _ =>
    match xs, hxl with
    | [x0, x1], _ =>
      have h0 : DataW.trod enc Tryd.prog w base (fun _ => true) held n 9 [c0] = some x0 := hf 0 _ rfl
      have h1 : DataW.trod enc Tryd.prog w base (fun _ => true) held n 9 [c1] = some x1 := hf 1 _ rfl
      obtain ⟨s0, e0, _, b0⟩ := DataW.trod_string Tryd.underlying9 h0
      obtain ⟨s1, e1, _, b1⟩ := DataW.trod_string Tryd.underlying9 h1
      simp only [List.cons.injEq, and_true] at e0 e1
      subst e0 e1
      exact ⟨⟨s0.data.toList, s1.data.toList⟩, rfl, b0, b1⟩
theorem fieldC_of (f : Nat → FieldD) : ∀ n, fieldC ((List.range n).map f) = ((List.range n).map fun i => (f i).cells).flatten := by
  intro n
  rw [fieldC, List.flatMap_map, List.flatMap]
theorem fieldC_at (ls : List FieldD) (i k : Nat) (hi : i < ls.length) (hk : k < 2) : (fieldC ls)[i * 2 + k]? = (ls[i]).cells[k]? := by
  have hsplit : fieldC ls = fieldC (ls.take i) ++ fieldC (ls.drop i) := by rw [← fieldC_app, List.take_append_drop]
  have e : (fieldC (ls.take i)).length = i * 2 := by rw [fieldC_len, List.length_take, Nat.min_eq_left (by omega)]
  rw [hsplit, List.getElem?_append_right (by omega), e, Nat.add_sub_cancel_left, List.drop_eq_getElem_cons hi]
  show ((ls[i]).cells ++ fieldC (ls.drop (i + 1)))[k]? = _
  rw [List.getElem?_append_left (by show k < 2; exact hk)]
set_option maxRecDepth 100000 in
/-- Fields that came in. -/
theorem open_fields {r : Reach} {b0 : Nat} {v : Value} {d : DataW H} {pl : List MemPlace} (hv : Value.okWide Tryd.prog w r b0 42 v) (h : DataW.Trod enc Tryd.prog w base (fun _ => true) held 42 v d pl) :
    ∃ A n c ls, v = .slice A n c ∧ Sl w w.heap.size 2 A n (fieldC ls) ∧ n ≤ c ∧ c ≤ maxLen ∧ smallF ls := by
  obtain ⟨a0, len0, cap0, rfl⟩ := okWide_slice Tryd.underlying42 hv
  obtain ⟨fuel, hf⟩ := h
  rcases DataW.trod_slice Tryd.underlying42 hf with ⟨hcs, _⟩ | ⟨a, len, cap, elems, rest, n', hfu', hcs, _, hb, hl, hm, hlen, hel, hsp, hns⟩
  · simp only [Value.cells, List.cons.injEq, and_true] at hcs
    refine ⟨_, _, _, [], rfl, ?_⟩
    simp at hcs
    obtain ⟨rfl, rfl, rfl⟩ := hcs
    exact ⟨Sl.nil_ _ _ _ _, Nat.le_refl _, Nat.zero_le _, fun f h => by cases h⟩
  · simp [Value.cells] at hcs
    obtain ⟨rfl, rfl, rfl⟩ := hcs
    have hone : ∀ i, i < len0 → ∃ f : FieldD, w.cells? base (a.add (i * 2)) 2 = some f.cells ∧ f.name.length ≤ maxLen ∧ f.value.length ≤ maxLen := by
      intro i hi
      have h1 := hel i hi
      rw [fieldStruct, List.getElem?_eq_getElem (by omega)] at h1
      obtain ⟨cs', hc', ht'⟩ := Option.bind_eq_some_iff.1 h1
      obtain ⟨f, rfl, g1, g2⟩ := field_of_trod n' cs' _ ht'
      exact ⟨f, hc', g1, g2⟩
    haveI : Inhabited FieldD := ⟨⟨[], []⟩⟩
    obtain ⟨f, hfp⟩ := choose_lt hone
    refine ⟨some a, len0, cap0, (List.range len0).map f, rfl, ⟨by rw [fieldC_len]; simp, fun h0 => ?_⟩, hl, hm, ?_⟩
    · obtain ⟨_, hl0, hat0⟩ := World.cells?_some (hfp 0 h0).1
      have hx0 := hat0 0 (by omega)
      rw [List.getElem?_eq_getElem (by show 0 < 2; omega)] at hx0
      obtain ⟨b, off, hab⟩ : ∃ b off, a = ⟨b, off, none⟩ := by
        have e : (a.add (0 * 2)).add 0 = a.add 0 := by rw [Go.Deep.add_add]
        rw [e] at hx0
        exact plain_atF hx0
      subst hab
      refine ⟨b, off, rfl, ?_, fun j u hu => ?_⟩
      · have e : ((⟨b, off, none⟩ : Addr).add (0 * 2)).add 0 = ⟨b, off, none⟩ := by rw [Go.Deep.add_add]; simp [Addr.add]
        rw [e] at hx0
        exact cell_lt hx0
      · have hj : j < len0 * 2 := by
          rcases Nat.lt_or_ge j (len0 * 2) with h | h
          · exact h
          · rw [List.getElem?_eq_none (by rw [fieldC_len]; simp; omega)] at hu; cases hu
        have hi : j / 2 < len0 := by omega
        have hjj : j = j / 2 * 2 + j % 2 := by omega
        obtain ⟨_, hli, hati⟩ := World.cells?_some (hfp (j / 2) hi).1
        have hx := hati (j % 2) (by omega)
        rw [Go.Deep.add_add, ← hjj] at hx
        rw [hjj, fieldC_at _ (j / 2) (j % 2) (by simpa using hi) (by omega)] at hu
        simp only [List.getElem_map, List.getElem_range] at hu
        rw [hu] at hx
        have e : (⟨b, off, none⟩ : Addr).add j = ⟨b, off + j, none⟩ := Go.WideShapes.add_plain ..
        rw [e] at hx
        exact hx
    · intro x hx
      obtain ⟨i, hi, rfl⟩ := List.mem_map.1 hx
      exact (hfp i (List.mem_range.1 hi)).2
end
end Go.Proofs.YtdhmmepcnladcaaDoor
