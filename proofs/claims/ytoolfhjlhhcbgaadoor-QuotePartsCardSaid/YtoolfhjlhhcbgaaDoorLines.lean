import Derived.Test.YtoolfhjlhhcbgaaDoorBackM
import Derived.Lib.Replace
import Derived.Lib.Split
import Derived.Lib.IndexLaws
namespace Go.Proofs.YtoolfhjlhhcbgaaDoor

/-- Lines, CR LF between them. -/
def joinL : List (List UInt8) → List UInt8
  | [] => []
  | [x] => x
  | x :: y :: r => x ++ 13 :: 10 :: joinL (y :: r)
theorem index_none13 : ∀ (x : List UInt8), (∀ c ∈ x, c ≠ 13) → Lib.index x [13, 10] = -1 := by
  intro x
  induction x with
  | nil => intro _; rfl
  | cons b x ih =>
    intro h
    have hb : (([13, 10] : List UInt8).isPrefixOf (b :: x)) = false := by
      have : (13 : UInt8) ≠ b := fun e => h b (by simp) e.symm
      simp [List.isPrefixOf, this]
    rw [Lib.index, hb, ih (fun c hc => h c (by simp [hc]))]
    rfl
theorem index_line : ∀ (x r : List UInt8), (∀ c ∈ x, c ≠ 13) → Lib.index (x ++ 13 :: 10 :: r) [13, 10] = x.length := by
  intro x
  induction x with
  | nil => intro r _; simp [Lib.index, List.isPrefixOf]
  | cons b x ih =>
    intro r h
    have hb : (([13, 10] : List UInt8).isPrefixOf (b :: (x ++ 13 :: 10 :: r))) = false := by
      have : (13 : UInt8) ≠ b := fun e => h b (by simp) e.symm
      simp [List.isPrefixOf, this]
    have h1 := ih r (fun c hc => h c (by simp [hc]))
    show Lib.index (b :: (x ++ 13 :: 10 :: r)) [13, 10] = _
    rw [Lib.index, hb, h1]
    have : ((x.length : Int) == -1) = false := by simp
    rw [this]
    simp
/-- The lines of what base.Text writes. -/
theorem enc_lines_of (k : Nat) : ∀ (l : List UInt8), l.length ≤ k → ∃ L, L ≠ [] ∧ enc 0 l = joinL L ∧ (∀ x ∈ L, x.length ≤ 76 ∧ ∀ c ∈ x, c ≠ 13 ∧ c ≠ 10) ∧ L.flatten.length = 4 * ((l.length + 2) / 3) := by
  have hletters : ∀ c ∈ letters, c ≠ 13 ∧ c ≠ 10 := by decide
  have hq : ∀ (l : List UInt8) (c : UInt8), c ∈ quad l → c ≠ 13 ∧ c ≠ 10 := by
    intro l c hc
    simp only [quad, List.mem_map] at hc
    obtain ⟨i, _, rfl⟩ := hc
    unfold quadL
    split
    · decide
    · have h64 : val3 l / 2 ^ (18 - 6 * i) % 64 < letters.length := by rw [letters_len]; exact Nat.mod_lt _ (by omega)
      rw [List.getD_eq_getElem?_getD, List.getElem?_eq_getElem h64]
      exact hletters _ (List.getElem_mem h64)
  have hone : ∀ (j i : Nat) (l : List UInt8), l.length ≤ j → (l.length + 2) / 3 + i ≤ 19 → (enc (4 * i) l).length = 4 * ((l.length + 2) / 3) ∧ ∀ c ∈ enc (4 * i) l, c ≠ 13 ∧ c ≠ 10 := by
    intro j
    induction j with
    | zero => intro i l h _; have : l = [] := List.eq_nil_of_length_eq_zero (by omega); subst this; simp [enc_nil]
    | succ j ih =>
      intro i l h hi
      rcases Nat.eq_zero_or_pos l.length with h0 | h0
      · have : l = [] := List.eq_nil_of_length_eq_zero h0; subst this; simp [enc_nil]
      · have hd : (l.drop (min 3 l.length)).length = l.length - min 3 l.length := by simp
        have h1 := ih (i + 1) (l.drop (min 3 l.length)) (by omega) (by omega)
        rw [hd] at h1
        have ha : after (4 * i) = 4 * (i + 1) := by unfold after; rw [if_neg (by omega)]; omega
        have hb : brk (4 * i) = [] := by unfold brk; rw [if_neg (by omega)]
        rw [enc_step _ l h0, ha, hb]
        refine ⟨by simp only [List.nil_append, List.length_append, quad_len]; omega, fun c hc => ?_⟩
        simp only [List.nil_append, List.mem_append] at hc
        rcases hc with hc | hc
        · exact hq l c hc
        · exact h1.2 c hc
  induction k with
  | zero =>
    intro l h
    have : l = [] := List.eq_nil_of_length_eq_zero (by omega)
    subst this
    exact ⟨[[]], by simp, by simp [enc_nil, joinL], by simp, by simp⟩
  | succ k ih =>
    intro l h
    rcases (by omega : l.length ≤ 57 ∨ 57 < l.length) with h57 | h57
    · have h1 := hone l.length 0 l (Nat.le_refl _) (by omega)
      rw [Nat.mul_zero] at h1
      refine ⟨[enc 0 l], by simp, rfl, ?_, by simpa using h1.1⟩
      intro x hx
      simp at hx
      subst hx
      exact ⟨by omega, h1.2⟩
    · have hp := enc_parts l 1 (by omega)
      rw [if_pos (by omega)] at hp
      obtain ⟨L, hL0, hL1, hL2, hL3⟩ := ih (l.drop 57) (by simp; omega)
      have ht : (l.take 57).length = 57 := by simp; omega
      have h1 := hone 57 0 (l.take 57) (by omega) (by omega)
      rw [Nat.mul_zero, ht] at h1
      refine ⟨enc 0 (l.take 57) :: L, by simp, ?_, ?_, ?_⟩
      · rw [show l = l from rfl, hp]
        show enc 0 (l.take 57) ++ [13, 10] ++ enc 0 (l.drop 57) = _
        rw [hL1]
        match L, hL0 with
        | y :: r, _ => simp [joinL]
      · intro x hx
        simp only [List.mem_cons] at hx
        rcases hx with rfl | hx
        · exact ⟨by omega, h1.2⟩
        · exact hL2 x hx
      · have hdl : (l.drop 57).length = l.length - 57 := by simp
        rw [List.flatten_cons, List.length_append, hL3, h1.1, hdl]
        omega

theorem joinL_cons (x y : List UInt8) (r : List (List UInt8)) : joinL (x :: y :: r) = x ++ 13 :: 10 :: joinL (y :: r) := rfl
theorem drop_line (x r : List UInt8) : (x ++ 13 :: 10 :: r).drop (((x.length : Nat) : Int).toNat + ([13, 10] : List UInt8).length) = r := by
  rw [Int.toNat_natCast]
  show List.drop (x.length + 2) _ = r
  rw [← List.drop_drop, List.drop_left]
  rfl
theorem count_from_join : ∀ (fuel : Nat) (L : List (List UInt8)), L.length ≤ fuel → (∀ x ∈ L, ∀ c ∈ x, c ≠ 13) → Lib.countFrom [13, 10] fuel (joinL L) = L.length - 1 := by
  intro fuel
  induction fuel with
  | zero => intro L h _; have : L = [] := List.eq_nil_of_length_eq_zero (by omega); subst this; rfl
  | succ f ih =>
    intro L h hx
    match L, h, hx with
    | [], _, _ => rfl
    | [x], _, hx =>
      show (if Lib.index x [13, 10] == -1 then 0 else _) = 0
      rw [index_none13 x (hx x (by simp))]
      rfl
    | x :: y :: r, h, hx =>
      rw [joinL_cons, Lib.countFrom, index_line x _ (hx x (by simp)), drop_line, ih (y :: r) (by simp at h ⊢; omega) (fun z hz => hx z (by simp at hz ⊢; exact .inr hz))]
      have : ((x.length : Int) == -1) = false := by simp
      rw [this]
      simp
      omega
theorem joinL_len : ∀ (L : List (List UInt8)), L.length ≤ (joinL L).length + 1 := by
  intro L
  induction L with
  | nil => simp
  | cons x L ih =>
    match L, ih with
    | [], _ => simp
    | y :: r, ih =>
      rw [joinL_cons]
      simp only [List.length_cons, List.length_append] at ih ⊢
      omega
theorem count_join (L : List (List UInt8)) (hx : ∀ x ∈ L, ∀ c ∈ x, c ≠ 13) : Lib.count (joinL L) [13, 10] = L.length - 1 :=
  count_from_join _ L (joinL_len L) hx
/-- strings.Split's parts, on lists. -/
def splitK (sep : List UInt8) : Nat → List UInt8 → List (List UInt8)
  | 0, s => [s]
  | k + 1, s => if Lib.index s sep == -1 then [s] else s.take (Lib.index s sep).toNat :: splitK sep k (s.drop ((Lib.index s sep).toNat + sep.length))
theorem splitB_data (sep : List UInt8) (k : Nat) : ∀ s : ByteArray, (Lib.splitB ⟨sep.toArray⟩ 0 k s).map Value.string = (splitK sep k s.data.toList).map str := by
  induction k with
  | zero => intro s; rfl
  | succ k ih =>
    intro s
    unfold Lib.splitB splitK
    show (if (Lib.index s.data.toList sep == -1) = true then [s] else _).map Value.string = (if (Lib.index s.data.toList sep == -1) = true then [s.data.toList] else _).map str
    by_cases h : (Lib.index s.data.toList sep == -1) = true
    · rw [if_pos h, if_pos h]; rfl
    · rw [if_neg h, if_neg h]
      simp only [List.map_cons]
      rw [ih]
      congr 1
      · rw [str_of, Lib.extract_data]
        simp [Lib.indexB]
      · congr 1
        congr 1
        rw [Lib.extract_data]
        simp only [Lib.indexB]
        rw [List.take_of_length_le (by rw [List.length_drop]; exact Nat.le_refl _)]
        rfl
theorem split_join : ∀ (L : List (List UInt8)), L ≠ [] → (∀ x ∈ L, ∀ c ∈ x, c ≠ 13) → splitK [13, 10] (L.length - 1) (joinL L) = L := by
  intro L
  induction L with
  | nil => intro h; exact absurd rfl h
  | cons x L ih =>
    intro _ hx
    match L, ih, hx with
    | [], _, _ => rfl
    | y :: r, ih, hx =>
      have h1 := ih (by simp) (fun z hz => hx z (by simp at hz ⊢; exact .inr hz))
      show splitK [13, 10] ((y :: r).length - 1 + 1) (joinL (x :: y :: r)) = _
      rw [joinL_cons, splitK, index_line x _ (hx x (by simp)), drop_line, h1]
      have : ((x.length : Int) == -1) = false := by simp
      rw [this]
      simp
theorem replace_join : ∀ (L : List (List UInt8)), (∀ x ∈ L, ∀ c ∈ x, c ≠ 13) → Lib.replaceK [13, 10] [] (L.length - 1) (joinL L) = L.flatten := by
  intro L
  induction L with
  | nil => intro _; rfl
  | cons x L ih =>
    intro hx
    match L, ih, hx with
    | [], _, _ => simp [joinL, Lib.replaceK]
    | y :: r, ih, hx =>
      have h1 := ih (fun z hz => hx z (by simp at hz ⊢; exact .inr hz))
      show Lib.replaceK [13, 10] [] ((y :: r).length - 1 + 1) (joinL (x :: y :: r)) = _
      rw [joinL_cons, Lib.replaceK, index_line x _ (hx x (by simp)), drop_line, h1]
      have : ((x.length : Int) == -1) = false := by simp
      rw [this]
      simp
theorem replaceAll_join (L : List (List UInt8)) (hx : ∀ x ∈ L, ∀ c ∈ x, c ≠ 13) : Lib.replaceAll (joinL L) [13, 10] [] = L.flatten := by
  unfold Lib.replaceAll Lib.replace Lib.replaceNum
  rw [if_neg (by decide), if_pos (.inl (by omega)), count_join L hx, replace_join L hx]
end Go.Proofs.YtoolfhjlhhcbgaaDoor
