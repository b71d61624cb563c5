import Derived.Test.YtdhmmepcnladcaaDoorQsP
namespace Go.Proofs.YtdhmmepcnladcaaDoor

/-! ### The document's reading: steps -/
theorem trim_allQ (l cs : List UInt8) : (Lib.trimS l cs == []) = l.all (fun b => cs.contains b) := by
  have h1 : ∀ l : List UInt8, (l.dropWhile (cs.contains ·) == []) = l.all (fun b => cs.contains b) := by
    intro l
    induction l with
    | nil => rfl
    | cons a l ih =>
      rw [List.dropWhile_cons, List.all_cons]
      cases h : cs.contains a
      · rfl
      · rw [if_pos rfl, Bool.true_and]; exact ih
  have h2 : (Lib.trimRightS l cs).all (fun b => cs.contains b) = l.all (fun b => cs.contains b) := by
    unfold Lib.trimRightS
    rw [List.all_reverse]
    have h3 : ∀ l : List UInt8, (l.dropWhile (cs.contains ·)).all (fun b => cs.contains b) = l.all (fun b => cs.contains b) := by
      intro l
      induction l with
      | nil => rfl
      | cons a l ih =>
        rw [List.dropWhile_cons, List.all_cons]
        cases h : cs.contains a
        · rw [if_neg (by simp), List.all_cons, h]
        · rw [if_pos rfl, Bool.true_and]; exact ih
    rw [h3, List.all_reverse]
  unfold Lib.trimS Lib.trimLeftS
  rw [h1, h2]
theorem afterC_get (c : UInt8) : ∀ (L : List (List UInt8)) (i : Nat) (h : i < L.length), (afterC c L)[i]? = some (if i + 1 < L.length then L[i] ++ [c] else L[i])
  | [x], 0, _ => rfl
  | [x], i + 1, h => by simp at h
  | x :: y :: r, 0, _ => by rw [afterC]; simp
  | x :: y :: r, i + 1, h => by
    have ih := afterC_get c (y :: r) i (by simpa using h)
    rw [afterC, List.getElem?_cons_succ, ih]
    simp
theorem joinC_mem (c : UInt8) : ∀ (L : List (List UInt8)) (x : List UInt8), x ∈ L → x.length ≤ (joinC c L).length
  | [y], x, h => by simp at h; subst h; exact Nat.le_refl _
  | y :: z :: r, x, h => by
    rw [joinC_cons]
    simp only [List.length_append, List.length_cons]
    rcases List.mem_cons.1 h with rfl | h
    · omega
    · have := joinC_mem c (z :: r) x h; omega
theorem splitC_le (s x : List UInt8) (h : x ∈ splitC 10 s) : x.length ≤ s.length := by
  have := joinC_mem 10 _ x h
  rwa [join_split] at this
theorem suffix_one (x : List UInt8) (c : UInt8) : Lib.hasSuffix (x ++ [c]) [c] = true := by
  unfold Lib.hasSuffix
  rw [List.isSuffixOf_iff_suffix]
  exact List.suffix_append _ _
theorem suffix_not (x : List UInt8) (c : UInt8) (h : c ∉ x) : Lib.hasSuffix x [c] = false := by
  cases hs : Lib.hasSuffix x [c] with
  | false => rfl
  | true =>
    unfold Lib.hasSuffix at hs
    rw [List.isSuffixOf_iff_suffix] at hs
    exact absurd (hs.subset (by simp)) h
theorem trimQ_nil : trimQ [] = [] := rfl
theorem last_split (y : List UInt8) (h : y ≠ []) : ∃ z d, y = z ++ [d] ∧ y.take (y.length - 1) = z ∧ y.drop (y.length - 1) = [d] := by
  refine ⟨y.dropLast, y.getLast h, (List.dropLast_concat_getLast h).symm, ?_, ?_⟩
  · rw [List.dropLast_eq_take]
  · have e := (List.dropLast_concat_getLast h).symm
    have : y.dropLast.length = y.length - 1 := by simp
    conv => lhs; rw [e]
    simp
theorem trimQ_blank (z : List UInt8) (d : UInt8) (h : ([32, 9, 13] : List UInt8).contains d = true) : trimQ (z ++ [d]) = trimQ z := by
  unfold trimQ Lib.trimRightS
  rw [List.reverse_append]
  show (List.dropWhile _ (d :: z.reverse)).reverse = _
  have h' : ([32, 9, 13] : List UInt8).contains d = ([32, 9, 13] : List UInt8).contains d := rfl
  rw [List.dropWhile_cons]
  by_cases e : d = 32 ∨ d = 9 ∨ d = 13
  · rcases e with rfl | rfl | rfl <;> rfl
  · simp at h; exact absurd h e
theorem trimQ_stop (z : List UInt8) (d : UInt8) (h : ([32, 9, 13] : List UInt8).contains d = false) : trimQ (z ++ [d]) = z ++ [d] := by
  have e : ¬ (d = 32 ∨ d = 9 ∨ d = 13) := by simpa using h
  unfold trimQ Lib.trimRightS
  rw [List.reverse_append]
  show (List.dropWhile _ (d :: z.reverse)).reverse = _
  rw [List.dropWhile_cons, if_neg (by simpa using e)]
  simp
theorem decQ_plain0 (b : List UInt8) (h : 0 < b.length) (h61 : nth b 0 ≠ 61) : decQ b = (decQ (b.drop 1)).map (UInt8.ofNat (nth b 0) :: ·) := decQ_plain b 0 h h61
theorem decQ_short0 (b : List UInt8) (h : 0 < b.length) (h61 : nth b 0 = 61) (h2 : b.length < 3) : decQ b = none := decQ_short b 0 h h61 (by omega)
theorem decQ_bad0 (b : List UInt8) (h61 : nth b 0 = 61) (h2 : 3 ≤ b.length) (h : hexQ (nth b 1) < 0 ∨ hexQ (nth b 2) < 0) : decQ b = none := decQ_bad b 0 h61 (by omega) h
theorem decQ_ok0 (b : List UInt8) (h61 : nth b 0 = 61) (h2 : 3 ≤ b.length) (h : 0 ≤ hexQ (nth b 1)) (h' : 0 ≤ hexQ (nth b 2)) :
    decQ b = (decQ (b.drop 3)).map (UInt8.ofNat (valQ (nth b 1) * 16 + valQ (nth b 2)) :: ·) := decQ_ok b 0 h61 (by omega) h h'
theorem two_at (b : List UInt8) (h : 3 ≤ b.length) : ((b.take 3).drop 1).length = 2 ∧ nth ((b.take 3).drop 1) 0 = nth b 1 ∧ nth ((b.take 3).drop 1) 1 = nth b 2 := by
  match b, h with
  | _ :: _ :: _ :: _, _ => exact ⟨rfl, rfl, rfl⟩
theorem two_hex (b : List UInt8) (h : 3 ≤ b.length) : (Lib.trimS ((b.take 3).drop 1) hexSet == []) = (decide (0 ≤ hexQ (nth b 1)) && decide (0 ≤ hexQ (nth b 2))) := by
  rw [trim_allQ]
  match b, h with
  | _ :: x :: y :: _, _ =>
    show ([x, y] : List UInt8).all (fun b => hexSet.contains b) = (decide (0 ≤ hexQ x.toNat) && decide (0 ≤ hexQ y.toNat))
    simp only [List.all_cons, List.all_nil, Bool.and_true, hex_set1]
end Go.Proofs.YtdhmmepcnladcaaDoor
