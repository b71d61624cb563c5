import Derived.Test.YtoolfhjlhhcbgaaDoorQuoteR
import Derived.Test.YtoolfhjlhhcbgaaDoorLines
namespace Go.Proofs.YtoolfhjlhhcbgaaDoor

theorem joinL_pre (a x : List UInt8) (L : List (List UInt8)) : a ++ joinL (x :: L) = joinL ((a ++ x) :: L) := by
  cases L with
  | nil => rfl
  | cons y r => simp [joinL]
/-- The lines of what quote.Text writes. -/
theorem encQ_lines : ∀ (l : List UInt8) (wide : Nat), wide ≤ 75 → ∃ x L, encQ wide l = joinL (x :: L) ∧ wide + x.length ≤ 76 ∧ (∀ y ∈ L, y.length ≤ 76) ∧ ∀ y ∈ x :: L, ∀ c ∈ y, 32 < c.toNat ∧ c.toNat ≤ 126 := by
  intro l
  induction l with
  | nil => intro wide h; exact ⟨[], [], rfl, by simp; omega, by simp, by simp⟩
  | cons c r ih =>
    intro wide h
    have h1 := oneQ_len c
    unfold encQ
    split
    · rename_i h75
      obtain ⟨x, L, e, hx, hL, hp⟩ := ih (oneQ c).length (by omega)
      refine ⟨[61], (oneQ c ++ x) :: L, ?_, by simp; omega, ?_, ?_⟩
      · rw [e, List.append_assoc, joinL_pre]
        rfl
      · intro y hy
        simp only [List.mem_cons] at hy
        rcases hy with rfl | hy
        · simp only [List.length_append]; omega
        · exact hL y hy
      · intro y hy d hd
        simp only [List.mem_cons] at hy
        rcases hy with rfl | rfl | hy
        · simp at hd; subst hd; decide
        · rw [List.mem_append] at hd
          rcases hd with hd | hd
          · exact oneQ_print c d hd
          · exact hp x (by simp) d hd
        · exact hp y (by simp [hy]) d hd
    · obtain ⟨x, L, e, hx, hL, hp⟩ := ih (wide + (oneQ c).length) (by omega)
      refine ⟨oneQ c ++ x, L, ?_, by simp only [List.length_append]; omega, hL, ?_⟩
      · rw [e, joinL_pre]
      · intro y hy d hd
        simp only [List.mem_cons] at hy
        rcases hy with rfl | hy
        · rw [List.mem_append] at hd
          rcases hd with hd | hd
          · exact oneQ_print c d hd
          · exact hp x (by simp) d hd
        · exact hp y (by simp [hy]) d hd
theorem encQ_lines_of (l : List UInt8) : ∃ L, L ≠ [] ∧ encQ 0 l = joinL L ∧ (∀ x ∈ L, x.length ≤ 76 ∧ ∀ c ∈ x, c ≠ 13 ∧ c ≠ 10) ∧ ∀ c ∈ L.flatten, 32 < c.toNat ∧ c.toNat ≤ 126 := by
  obtain ⟨x, L, e, hx, hL, hp⟩ := encQ_lines l 0 (by omega)
  refine ⟨x :: L, by simp, e, fun y hy => ⟨?_, fun c hc => ?_⟩, fun c hc => ?_⟩
  · simp only [List.mem_cons] at hy
    rcases hy with rfl | hy
    · omega
    · exact hL y hy
  · have := (hp y hy c hc).1
    exact ⟨by rintro rfl; exact absurd this (by decide), by rintro rfl; exact absurd this (by decide)⟩
  · obtain ⟨y, hy, hc⟩ := List.mem_flatten.1 hc
    exact hp y hy c hc

/-! ### Lines that go on, struck -/
/-- Lines, = CR LF between them. -/
def joinE : List (List UInt8) → List UInt8
  | [] => []
  | [x] => x
  | x :: y :: r => x ++ 61 :: 13 :: 10 :: joinE (y :: r)
theorem joinE_cons (x y : List UInt8) (r : List (List UInt8)) : joinE (x :: y :: r) = x ++ 61 :: 13 :: 10 :: joinE (y :: r) := rfl
theorem joinE_pre (a x : List UInt8) (L : List (List UInt8)) : a ++ joinE (x :: L) = joinE ((a ++ x) :: L) := by
  cases L with
  | nil => rfl
  | cons y r => simp [joinE]
theorem indexE_none : ∀ (x : List UInt8), (∀ c ∈ x, c ≠ 61) → Lib.index x [61, 13, 10] = -1 := by
  intro x
  induction x with
  | nil => intro _; rfl
  | cons b x ih =>
    intro h
    have hb : (([61, 13, 10] : List UInt8).isPrefixOf (b :: x)) = false := by
      have : (61 : UInt8) ≠ b := fun e => h b (by simp) e.symm
      simp [List.isPrefixOf, this]
    rw [Lib.index, hb, ih (fun c hc => h c (by simp [hc]))]
    rfl
theorem indexE_line : ∀ (x r : List UInt8), (∀ c ∈ x, c ≠ 61) → Lib.index (x ++ 61 :: 13 :: 10 :: r) [61, 13, 10] = x.length := by
  intro x
  induction x with
  | nil => intro r _; simp [Lib.index, List.isPrefixOf]
  | cons b x ih =>
    intro r h
    have hb : (([61, 13, 10] : List UInt8).isPrefixOf (b :: (x ++ 61 :: 13 :: 10 :: r))) = false := by
      have : (61 : UInt8) ≠ b := fun e => h b (by simp) e.symm
      simp [List.isPrefixOf, this]
    have h1 := ih r (fun c hc => h c (by simp [hc]))
    show Lib.index (b :: (x ++ 61 :: 13 :: 10 :: r)) [61, 13, 10] = _
    rw [Lib.index, hb, h1]
    have : ((x.length : Int) == -1) = false := by simp
    rw [this]
    simp
theorem dropE_line (x r : List UInt8) : (x ++ 61 :: 13 :: 10 :: r).drop (((x.length : Nat) : Int).toNat + ([61, 13, 10] : List UInt8).length) = r := by
  rw [Int.toNat_natCast]
  show List.drop (x.length + 3) _ = r
  rw [← List.drop_drop, List.drop_left]
  rfl
theorem countE_from : ∀ (fuel : Nat) (L : List (List UInt8)), L.length ≤ fuel → (∀ x ∈ L, ∀ c ∈ x, c ≠ 61) → Lib.countFrom [61, 13, 10] fuel (joinE L) = L.length - 1 := by
  intro fuel
  induction fuel with
  | zero => intro L h _; have : L = [] := List.eq_nil_of_length_eq_zero (by omega); subst this; rfl
  | succ f ih =>
    intro L h hx
    match L, h, hx with
    | [], _, _ => rfl
    | [x], _, hx =>
      show (if Lib.index x [61, 13, 10] == -1 then 0 else _) = 0
      rw [indexE_none x (hx x (by simp))]
      rfl
    | x :: y :: r, h, hx =>
      rw [joinE_cons, Lib.countFrom, indexE_line x _ (hx x (by simp)), dropE_line, ih (y :: r) (by simp at h ⊢; omega) (fun z hz => hx z (by simp at hz ⊢; exact .inr hz))]
      have : ((x.length : Int) == -1) = false := by simp
      rw [this]
      simp
      omega
theorem joinE_len : ∀ (L : List (List UInt8)), L.length ≤ (joinE L).length + 1 := by
  intro L
  induction L with
  | nil => simp
  | cons x L ih =>
    match L, ih with
    | [], _ => simp
    | y :: r, ih =>
      rw [joinE_cons]
      simp only [List.length_cons, List.length_append] at ih ⊢
      omega
theorem countE_join (L : List (List UInt8)) (hx : ∀ x ∈ L, ∀ c ∈ x, c ≠ 61) : Lib.count (joinE L) [61, 13, 10] = L.length - 1 :=
  countE_from _ L (joinE_len L) hx
theorem replaceE_join : ∀ (L : List (List UInt8)), (∀ x ∈ L, ∀ c ∈ x, c ≠ 61) → Lib.replaceK [61, 13, 10] [] (L.length - 1) (joinE L) = L.flatten := by
  intro L
  induction L with
  | nil => intro _; rfl
  | cons x L ih =>
    intro hx
    match L, ih, hx with
    | [], _, _ => simp [joinE, Lib.replaceK]
    | y :: r, ih, hx =>
      have h1 := ih (fun z hz => hx z (by simp at hz ⊢; exact .inr hz))
      show Lib.replaceK [61, 13, 10] [] ((y :: r).length - 1 + 1) (joinE (x :: y :: r)) = _
      rw [joinE_cons, Lib.replaceK, indexE_line x _ (hx x (by simp)), dropE_line, h1]
      have : ((x.length : Int) == -1) = false := by simp
      rw [this]
      simp
theorem replaceE_all (L : List (List UInt8)) (hx : ∀ x ∈ L, ∀ c ∈ x, c ≠ 61) : Lib.replaceAll (joinE L) [61, 13, 10] [] = L.flatten := by
  unfold Lib.replaceAll Lib.replace Lib.replaceNum
  rw [if_neg (by decide), if_pos (.inl (by omega)), countE_join L hx, replaceE_join L hx]
/-- Bytes that stand as they are: struck of the lines' ends, the bytes themselves. -/
theorem encQ_plain : ∀ (l : List UInt8) (wide : Nat), (∀ c ∈ l, plainQ c.toNat = true) → ∃ x L, encQ wide l = joinE (x :: L) ∧ (x :: L).flatten = l ∧ ∀ y ∈ x :: L, ∀ c ∈ y, c ≠ 61 := by
  intro l
  induction l with
  | nil => intro wide _; exact ⟨[], [], rfl, rfl, by simp⟩
  | cons c r ih =>
    intro wide hp
    have hc := hp c (by simp)
    have h1 : oneQ c = [c] := by unfold oneQ; rw [if_pos hc]
    have h61 : c ≠ 61 := by rintro rfl; exact absurd hc (by decide)
    unfold encQ
    rw [h1]
    split
    · obtain ⟨x, L, e, hx, hL⟩ := ih 1 (fun d hd => hp d (by simp [hd]))
      refine ⟨[], (c :: x) :: L, ?_, ?_, ?_⟩
      · show [61, 13, 10] ++ [c] ++ encQ 1 r = _
        rw [e, List.append_assoc, joinE_pre]
        rfl
      · simp at hx ⊢; exact hx
      · intro y hy d hd
        simp only [List.mem_cons] at hy
        rcases hy with rfl | rfl | hy
        · cases hd
        · simp only [List.mem_cons] at hd
          rcases hd with rfl | hd
          · exact h61
          · exact hL x (by simp) d hd
        · exact hL y (by simp [hy]) d hd
    · obtain ⟨x, L, e, hx, hL⟩ := ih (wide + [c].length) (fun d hd => hp d (by simp [hd]))
      refine ⟨c :: x, L, ?_, ?_, ?_⟩
      · rw [e, joinE_pre]; rfl
      · simp at hx ⊢; exact hx
      · intro y hy d hd
        simp only [List.mem_cons] at hy
        rcases hy with rfl | hy
        · simp only [List.mem_cons] at hd
          rcases hd with rfl | hd
          · exact h61
          · exact hL x (by simp) d hd
        · exact hL y (by simp [hy]) d hd
theorem replaceQ_plain (l : List UInt8) (hp : ∀ c ∈ l, plainQ c.toNat = true) : Lib.replaceAll (encQ 0 l) [61, 13, 10] [] = l := by
  obtain ⟨x, L, e, hx, hL⟩ := encQ_plain l 0 hp
  rw [e, replaceE_all _ hL, hx]
end Go.Proofs.YtoolfhjlhhcbgaaDoor
