import Derived.Test.YtdhmmepcnladcaaDoorQuoteS
import Derived.Test.YtdhmmepcnladcaaDoorUrlW
namespace Go.Proofs.YtdhmmepcnladcaaDoor

/-! ### The document's reading of bytes as two digits: line by line -/
/-- strings.SplitAfter's pieces. -/
def afterC (c : UInt8) : List (List UInt8) → List (List UInt8)
  | [] => []
  | [x] => [x]
  | x :: y :: r => (x ++ [c]) :: afterC c (y :: r)
theorem afterC_len (c : UInt8) : ∀ L, (afterC c L).length = L.length
  | [] => rfl
  | [_] => rfl
  | _ :: y :: r => by rw [afterC, List.length_cons, afterC_len c (y :: r)]; rfl
theorem splitK_after1 (c : UInt8) : ∀ (L : List (List UInt8)), L ≠ [] → (∀ x ∈ L, c ∉ x) → Lib.splitK [c] 1 (L.length - 1) (joinC c L) = afterC c L := by
  intro L
  induction L with
  | nil => intro h; exact absurd rfl h
  | cons x L ih =>
    intro _ hx
    match L, ih, hx with
    | [], _, _ => rfl
    | y :: r, ih, hx =>
      have h1 := ih (by simp) (fun z hz => hx z (by simp at hz ⊢; exact .inr hz))
      show Lib.splitK [c] 1 ((y :: r).length - 1 + 1) (joinC c (x :: y :: r)) = _
      rw [joinC_cons, Lib.splitK, index_seg x _ c (hx x (by simp)), drop_seg, h1]
      have : ((x.length : Int) == -1) = false := by simp
      rw [this]
      have e : (x ++ c :: joinC c (y :: r)).take (((x.length : Nat) : Int).toNat + 1) = x ++ [c] := by
        rw [Int.toNat_natCast, List.take_append, List.take_of_length_le (by omega), Nat.add_sub_cancel_left]
        rfl
      rw [e]
      rfl
theorem splitK_after (c : UInt8) (l : List UInt8) : Lib.splitK [c] 1 (Lib.count l [c]) l = afterC c (splitC c l) := by
  have h := splitK_after1 c (splitC c l) (splitC_ne c l) (splitC_free c l)
  rw [join_split, ← count_split] at h
  exact h
theorem splitB_after (c : UInt8) (l : List UInt8) : (Lib.splitB ⟨#[c]⟩ 1 (Lib.countB ⟨l.toArray⟩ ⟨#[c]⟩) ⟨l.toArray⟩).map Value.string = (afterC c (splitC c l)).map str ∧ Lib.countB ⟨l.toArray⟩ ⟨#[c]⟩ + 1 = (splitC c l).length := by
  refine ⟨?_, (splitB_split c l).2⟩
  have hc : Lib.countB ⟨l.toArray⟩ ⟨#[c]⟩ = Lib.count l [c] := rfl
  have hd := Lib.splitB_data ⟨#[c]⟩ 1 (Lib.count l [c]) ⟨l.toArray⟩
  rw [hc]
  have h2 := splitK_after c l
  have e : ∀ L : List ByteArray, L.map Value.string = (L.map (fun s => s.data.toList)).map str := by
    intro L
    rw [List.map_map]
    exact List.map_congr_left fun x _ => str_of x
  rw [e]
  congr 1
  exact hd.trans h2
/-- What the end of a line gives. -/
def lineE (r : List (List UInt8)) (x : List UInt8) : List UInt8 := if (!r.isEmpty && !softQ (trimQ x)) = true then [13, 10] else []
/-- The loop over the lines. -/
def lpQ : List (List UInt8) → List UInt8 → List UInt8 × Nat
  | [], out => (out, 0)
  | x :: r, out =>
    match decQ (bareQ (trimQ x)) with
    | none => ([], 1)
    | some y => if 4000 < (out ++ y ++ lineE r x).length then ([], 2) else lpQ r (out ++ y ++ lineE r x)
theorem lpQ_nil (out : List UInt8) (h : out.length ≤ 4000) : lpQ [[]] out = (out, 0) := by
  have e : decQ (bareQ (trimQ [])) = some [] := by decide +kernel
  unfold lpQ
  rw [e]
  have e2 : lineE [] [] = [] := rfl
  simp only [e2, List.append_nil]
  rw [if_neg (by omega)]
  rfl
theorem lpQ_lines : ∀ (k : Nat) (s out : List UInt8), s.length ≤ k → out.length ≤ 4000 → linesQ k s out = lpQ (splitC 10 s) out := by
  intro k
  induction k with
  | zero =>
    intro s out hs ho
    have : s = [] := List.eq_nil_of_length_eq_zero (by omega)
    subst this
    rw [linesQ_end]
    exact (lpQ_nil out ho).symm
  | succ k ih =>
    intro s out hs ho
    by_cases h0 : s = []
    · subst h0
      rw [linesQ_end]
      exact (lpQ_nil out ho).symm
    · have he : s.isEmpty = false := by simpa using h0
      rw [linesQ, he]
      by_cases hm : (10 : UInt8) ∈ s
      · obtain ⟨x, y, rfl, hx⟩ := first_of s 10 hm
        have hc := cut_app x y 10 hx
        have hn : (10 : UInt8) ∉ x := fun h => hx _ h rfl
        rw [splitC_app 10 x y hn, lpQ]
        have hE : endQ (x ++ 10 :: y) = lineE (splitC 10 y) x := by
          unfold endQ lineE
          rw [hc]
          have : (splitC 10 y).isEmpty = false := by simpa using splitC_ne 10 y
          rw [this]
          rfl
        rw [hE, hc]
        simp only [Bool.false_eq_true, if_false]
        cases hd : decQ (bareQ (trimQ x)) with
        | none => rfl
        | some z =>
          simp only
          split
          · rfl
          · refine ih _ _ ?_ (by omega)
            simp only [List.length_append, List.length_cons] at hs
            omega
      · have hc := cut_not s 10 (fun b hb e => hm (e ▸ hb))
        rw [splitC_one 10 s hm, lpQ]
        have hE : endQ s = lineE [] s := by
          unfold endQ lineE
          rw [hc]
          rfl
        rw [hE, hc]
        simp only [Bool.false_eq_true, if_false]
        cases hd : decQ (bareQ (trimQ s)) with
        | none => rfl
        | some z =>
          simp only
          split
          · rfl
          · rw [linesQ_end, lpQ]
theorem lpQ_read (s : List UInt8) : readQ s = if 16000 < s.length then ([], 2) else lpQ (splitC 10 s) [] := by
  unfold readQ
  split
  · rfl
  · exact lpQ_lines _ _ _ (Nat.le_refl _) (by simp)
end Go.Proofs.YtdhmmepcnladcaaDoor
