import Derived.Test.YtdhmmepcnladcaaDoorQuoteR
namespace Go.Proofs.YtdhmmepcnladcaaDoor

/-! ### quote.Read's steps, by places -/
theorem drop_at (b : List UInt8) (i : Nat) (h : i < b.length) : ∃ c, c.toNat = nth b i ∧ b.drop i = c :: b.drop (i + 1) :=
  ⟨b[i], by rw [nth_of b i h], List.drop_eq_getElem_cons h⟩
theorem decQ_plain (b : List UInt8) (i : Nat) (h : i < b.length) (h61 : nth b i ≠ 61) : decQ (b.drop i) = (decQ (b.drop (i + 1))).map (UInt8.ofNat (nth b i) :: ·) := by
  obtain ⟨c, hc, hd⟩ := drop_at b i h
  rw [hd]
  conv => lhs; unfold decQ
  rw [if_neg (by rw [hc]; simpa using h61), ← hc, UInt8.ofNat_toNat]
theorem decQ_short (b : List UInt8) (i : Nat) (h : i < b.length) (h61 : nth b i = 61) (h2 : b.length ≤ i + 2) : decQ (b.drop i) = none := by
  obtain ⟨c, hc, hd⟩ := drop_at b i h
  rw [hd]
  have hl : (b.drop (i + 1)).length ≤ 1 := by simp; omega
  unfold decQ
  rw [if_pos (by rw [hc]; simpa using h61)]
  split
  · rename_i e; have := congrArg List.length e; simp at this; omega
  · rfl
theorem decQ_two (b : List UInt8) (i : Nat) (h61 : nth b i = 61) (h2 : i + 2 < b.length) :
    decQ (b.drop i) = if decide (hexQ (nth b (i + 1)) < 0) || decide (hexQ (nth b (i + 2)) < 0) then none else (decQ (b.drop (i + 3))).map (UInt8.ofNat ((hexQ (nth b (i + 1))).toNat * 16 + (hexQ (nth b (i + 2))).toNat) :: ·) := by
  obtain ⟨c, hc, hd⟩ := drop_at b i (by omega)
  obtain ⟨c1, hc1, hd1⟩ := drop_at b (i + 1) (by omega)
  obtain ⟨c2, hc2, hd2⟩ := drop_at b (i + 1 + 1) (by omega)
  rw [hd, hd1, hd2]
  conv => lhs; unfold decQ
  rw [if_pos (by rw [hc]; simpa using h61)]
  simp only [hc1, hc2]
theorem decQ_bad (b : List UInt8) (i : Nat) (h61 : nth b i = 61) (h2 : i + 2 < b.length) (h : hexQ (nth b (i + 1)) < 0 ∨ hexQ (nth b (i + 2)) < 0) : decQ (b.drop i) = none := by
  rw [decQ_two b i h61 h2, if_pos (by simpa using h)]
theorem decQ_ok (b : List UInt8) (i : Nat) (h61 : nth b i = 61) (h2 : i + 2 < b.length) (h : 0 ≤ hexQ (nth b (i + 1))) (h' : 0 ≤ hexQ (nth b (i + 2))) :
    decQ (b.drop i) = (decQ (b.drop (i + 3))).map (UInt8.ofNat ((hexQ (nth b (i + 1))).toNat * 16 + (hexQ (nth b (i + 2))).toNat) :: ·) := by
  rw [decQ_two b i h61 h2, if_neg (by simp; omega)]
theorem hexQ_bd (x : Nat) : -1 ≤ hexQ x ∧ hexQ x < 16 := by
  unfold hexQ
  exact idxI_bd digits _
/-- What stands behind the line. -/
def behindQ (k : Nat) (s : List UInt8) : Option (List UInt8) → List UInt8 × Nat
  | none => ([], 1)
  | some y => if 4000 < (y ++ endQ s).length then ([], 2) else linesQ k (Lib.cut s [10]).2.1 (y ++ endQ s)
theorem linesQ_step (k : Nat) (s out : List UInt8) (h : s ≠ []) : linesQ (k + 1) s out = behindQ k s ((decQ (bareQ (trimQ (Lib.cut s [10]).1))).map (out ++ ·)) := by
  conv => lhs; unfold linesQ
  rw [if_neg (by simpa using h)]
  cases decQ (bareQ (trimQ (Lib.cut s [10]).1)) <;> rfl
theorem linesQ_end (k : Nat) (out : List UInt8) : linesQ k [] out = (out, 0) := by cases k <;> simp [linesQ]
theorem map_app (o : Option (List UInt8)) (out : List UInt8) (c : UInt8) : (o.map (c :: ·)).map (out ++ ·) = o.map ((out ++ [c]) ++ ·) := by
  cases o <;> simp
theorem cut10_len (s : List UInt8) (h : s ≠ []) : (Lib.cut s [10]).1.length ≤ s.length ∧ (Lib.cut s [10]).2.1.length < s.length := by
  have hp : 0 < s.length := List.length_pos_iff.2 h
  unfold Lib.cut
  split
  · simp; omega
  · simp; omega
theorem dropWhile_le (p : UInt8 → Bool) (l : List UInt8) : (l.dropWhile p).length ≤ l.length := (List.dropWhile_sublist p).length_le
theorem trimQ_len (l : List UInt8) : (trimQ l).length ≤ l.length := by
  unfold trimQ Lib.trimRightS
  rw [List.length_reverse]
  have := dropWhile_le (([32, 9, 13] : List UInt8).contains ·) l.reverse
  simpa using this
theorem soft_pos (l : List UInt8) (h : softQ l = true) : 0 < l.length := by
  cases l with
  | nil => simp [softQ, Lib.hasSuffix] at h
  | cons _ _ => simp
end Go.Proofs.YtdhmmepcnladcaaDoor
