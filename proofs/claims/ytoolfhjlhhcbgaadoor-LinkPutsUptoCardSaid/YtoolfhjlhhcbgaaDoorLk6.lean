import Derived.Test.YtoolfhjlhhcbgaaDoorLk5
import Derived.Maps.Own
import Derived.Maps.Views
import Derived.StringKeys
namespace Go.Proofs.YtoolfhjlhhcbgaaDoor
open Go.RowKit Go.Maps Go.WideMaps

theorem lawStr : Keyed Tryd.prog 9 := string_keyed Tryd.underlying9
theorem zeroBool (w : World) : (zeroValue 4).run Tryd.prog w = .ok (.bool false) w := by kernel_rfl
theorem plainElem_bool_inv {H : Type} {P : Program} {e : TypeId} (he : P.underlying e = some .bool) {v : Value} {z : DataW H × List MemPlace} (h : plainElem P e v = some z) : ∃ x, v = .bool x ∧ z = (.lit (.bool x), []) := by
  unfold plainElem at h
  rw [he] at h
  cases v <;> simp at h
  exact ⟨_, rfl, h.symm⟩
/-- A map of the call's own, in block b: which names have been there. -/
def SeenIs (w : World) (b : Nat) (seen : List (List UInt8)) : Prop :=
  ∃ (n : Nat) (D : DataW Unit), n ≤ seen.length ∧ w.ownsMap Tryd.prog 9 (plainElem Tryd.prog 4) b n D ∧ IsMap D ∧ ∀ k, D.atKey (.string k) (.lit (.bool false)) = .lit (.bool (seen.contains k))
theorem SeenIs.made (w : World) : SeenIs (w.alloc (.map #[] 0)) w.heap.size [] :=
  ⟨0, .map [], Nat.le_refl _, World.ownsMap_made w _ _ _, isMap_empty, fun k => rfl⟩
section
variable {w w' : World} {b : Nat} {seen : List (List UInt8)}
theorem SeenIs.lt (h : SeenIs w b seen) : b < w.heap.size := by obtain ⟨n, D, _, h, _⟩ := h; exact h.lt
theorem SeenIs.kept {row : Option Nat} (h : SeenIs w b seen) (hg : w.grownBy w' row) (hne : some b ≠ row) : SeenIs w' b seen := by
  obtain ⟨n, D, h1, h2, h3⟩ := h
  exact ⟨n, D, h1, h2.kept hg hne, h3⟩
theorem SeenIs.below (h : SeenIs w b seen) (hb : Below w.heap.size w w') : SeenIs w' b seen :=
  h.kept (row := none) ⟨hb.os, hb.tape, hb.output, hb.size, fun k hk _ => hb.block k hk⟩ (by simp)
theorem SeenIs.drewN (h : SeenIs w b seen) (n : Nat) : SeenIs (w.drewN n) b seen := h
theorem SeenIs.look (h : SeenIs w b seen) (k : List UInt8) (hk : k.length ≤ maxLen) : (Instr.lookup 118 (.map (some b)) (str k) false).run Tryd.prog w = .ok (.bool (seen.contains k)) w := by
  obtain ⟨n, D, h1, h2, h3, h4⟩ := h
  obtain ⟨v, ps, hrun, hv⟩ := h2.lookup lawStr Tryd.underlying118 (zeroBool w) (plainElem_bool Tryd.underlying4 false) (keyOf_string_mk Tryd.underlying9 (s := ⟨k.toArray⟩) (by simpa [ByteArray.size] using hk))
  obtain ⟨x, rfl, hx⟩ := plainElem_bool_inv Tryd.underlying4 hv
  simp only [Prod.mk.injEq] at hx
  have := h4 k
  rw [this] at hx
  have e : seen.contains k = x := Lit.bool.inj (DataW.lit.inj hx.1)
  rw [e]
  exact hrun
theorem SeenIs.put (h : SeenIs w b seen) (k : List UInt8) (hk : k.length ≤ maxLen) (hs : seen.length < maxLen) :
    ∃ w', (Instr.mapUpdate 118 (.map (some b)) (str k) (.bool true)).run Tryd.prog w = .ok () w' ∧ SeenIs w' b (k :: seen) ∧ w.grownBy w' (some b) := by
  obtain ⟨n, D, h1, h2, h3, h4⟩ := h
  obtain ⟨w', hrun, hown, hg⟩ := h2.update lawStr Tryd.underlying118 (by omega) (keyOf_string_mk Tryd.underlying9 (s := ⟨k.toArray⟩) (by simpa [ByteArray.size] using hk)) (plainElem_bool Tryd.underlying4 true)
  refine ⟨w', hrun, ⟨n + 1, _, by simpa using h1, hown, h3.put _ _, fun k' => ?_⟩, hg⟩
  by_cases e : k' = k
  · subst e
    rw [show (⟨k'.toArray⟩ : ByteArray).data.toList = k' from rfl, atKey_put_same h3 (by trivial), List.contains_cons, beq_self_eq_true, Bool.true_or]
  · rw [show (⟨k.toArray⟩ : ByteArray).data.toList = k from rfl, atKey_put_other (by intro e2; injection e2 with e2; exact e e2), h4]
    have e2 : (k' == k) = false := by simpa using e
    rw [List.contains_cons, e2, Bool.false_or]
end
end Go.Proofs.YtoolfhjlhhcbgaaDoor
