import Derived.Test.YtdhmmepcnladcaaDoorMem
import Derived.Shelf.GgClosure.StringsIndexFunc
import Derived.Laws.RangeString
import Derived.Laws.RangeAny
namespace Go.Proofs.YtdhmmepcnladcaaDoor

/-- A rune of a text for which p says yes: a byte for which it does, where p says yes to all beyond ASCII, or the text has none of these. -/
theorem idxFunc_any (p : Nat → Bool) (l : List UInt8) (h : (∀ r, 128 ≤ r → p r = true) ∨ ∀ b ∈ l, b.toNat < 128) : decide (0 ≤ Lib.idxFunc p true ⟨l.toArray⟩) = l.any (fun b => p b.toNat) := by
  have key : ∀ (f pos : Nat), l.length ≤ f + pos → (0 ≤ Lib.idxFuncFrom p true ⟨l.toArray⟩ f pos ↔ (l.drop pos).any (fun b => p b.toNat) = true) := by
    intro f
    induction f with
    | zero =>
      intro pos hl
      rw [List.drop_of_length_le (by omega)]
      simp [Lib.idxFuncFrom]
    | succ f ih =>
      intro pos hl
      unfold Lib.idxFuncFrom
      have hsz : (⟨l.toArray⟩ : ByteArray).size = l.length := by simp [ByteArray.size]
      by_cases hp : pos < l.length
      · rw [if_pos (by rw [hsz]; exact hp), List.drop_eq_getElem_cons hp, List.any_cons]
        have hb : ((⟨l.toArray⟩ : ByteArray)[pos]'(by rw [hsz]; exact hp)) = l[pos] := by
          show (l.toArray[pos]) = _
          simp
        rcases Nat.lt_or_ge (l[pos]).toNat 128 with h128 | h128
        · have hd := decode_ascii ⟨l.toArray⟩ pos (by rw [hsz]; exact hp) (by rw [hb]; exact h128)
          rw [hb] at hd
          rw [hd]
          by_cases hpb : p (l[pos]).toNat = true
          · rw [if_pos hpb, hpb]
            simp
          · rw [if_neg hpb]
            have := ih (pos + 1) (by omega)
            rw [this]
            simp [hpb]
        · have hd := decode_high ⟨l.toArray⟩ pos (by rw [hsz]; exact hp) (by rw [hb]; exact h128)
          rcases h with h | h
          · rw [if_pos (h _ hd.1), h _ h128]
            simp
          · exact absurd (h _ (List.getElem_mem hp)) (by omega)
      · rw [if_neg (by rw [hsz]; exact hp), List.drop_of_length_le (by omega)]
        simp
  have := key (⟨l.toArray⟩ : ByteArray).size 0 (by simp [ByteArray.size])
  unfold Lib.idxFunc
  rw [Bool.eq_iff_iff, decide_eq_true_eq, this, List.drop_zero]
end Go.Proofs.YtdhmmepcnladcaaDoor
