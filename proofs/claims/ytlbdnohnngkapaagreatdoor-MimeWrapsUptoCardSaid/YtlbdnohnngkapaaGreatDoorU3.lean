import Derived.Test.YtlbdnohnngkapaaGreatDoorU2
import Derived.Lib.SlTrimSet
import Derived.Lib.IndexLaws
import Derived.Lib.IndexMore
import Derived.Lib.Replace
import Derived.Lib.Split
import Derived.Test.YtlbdnohnngkapaaGreatDoorU1
import Derived.Lib.ItoaNum
namespace Go.Proofs.YtlbdnohnngkapaaGreatDoor

/-- quote.hex. -/
def hexQ (c : Nat) : Int := idxI digits (if decide (97 ≤ c) && decide (c ≤ 102) then c - 32 else c)
/-- One line, its end struck: quote.Read's inner loop. -/
def decQ : List UInt8 → Option (List UInt8)
  | [] => some []
  | c :: r =>
    if c.toNat == 61 then
      match r with
      | a :: b :: r' => if decide (hexQ a.toNat < 0) || decide (hexQ b.toNat < 0) then none else (decQ r').map (UInt8.ofNat ((hexQ a.toNat).toNat * 16 + (hexQ b.toNat).toNat) :: ·)
      | _ => none
    else (decQ r).map (c :: ·)
/-- A line behind its blanks' going. -/
def trimQ (line : List UInt8) : List UInt8 := Lib.trimRightS line [32, 9, 13]
def softQ (line : List UInt8) : Bool := Lib.hasSuffix line [61]
def bareQ (line : List UInt8) : List UInt8 := if softQ line then line.take (line.length - 1) else line
/-- What a line's end gives. -/
def endQ (s : List UInt8) : List UInt8 := if (Lib.cut s [10]).2.2 && !softQ (trimQ (Lib.cut s [10]).1) then [13, 10] else []
/-- quote.Read's outer loop. -/
def linesQ : Nat → List UInt8 → List UInt8 → List UInt8 × Nat
  | 0, _, out => (out, 0)
  | k + 1, s, out =>
    if s.isEmpty then (out, 0)
    else match decQ (bareQ (trimQ (Lib.cut s [10]).1)) with
      | none => ([], 1)
      | some x =>
        if 4000 < (out ++ x ++ endQ s).length then ([], 2)
        else linesQ k (Lib.cut s [10]).2.1 (out ++ x ++ endQ s)
/-- quote.Read. -/
def readQ (s : List UInt8) : List UInt8 × Nat := if 16000 < s.length then ([], 2) else linesQ s.length s []

theorem linesQ_len : ∀ (k : Nat) (s out : List UInt8), out.length ≤ 4000 → (linesQ k s out).1.length ≤ 4000 := by
  intro k
  induction k with
  | zero => intro s out h; exact h
  | succ k ih =>
    intro s out h
    unfold linesQ
    split
    · exact h
    · split
      · simp
      · split
        · simp
        · exact ih _ _ (by omega)
theorem readQ_len (s : List UInt8) : (readQ s).1.length ≤ 4000 := by
  unfold readQ
  split
  · simp
  · exact linesQ_len _ _ _ (by simp)

/-! ### What is written is read -/
theorem hex_digit : ∀ k : Fin 16, hexQ (digits.getD k.val 0).toNat = (k.val : Int) := by decide +kernel
theorem digit_print : ∀ k : Fin 16, 32 < (digits.getD k.val 0).toNat ∧ (digits.getD k.val 0).toNat ≤ 126 ∧ (digits.getD k.val 0).toNat ≠ 61 := by decide +kernel
theorem oneQ_print (c x : UInt8) (h : x ∈ oneQ c) : 32 < x.toNat ∧ x.toNat ≤ 126 := by
  have hc := c.toNat_lt
  unfold oneQ at h
  split at h
  · rename_i hp
    simp at h; subst h
    simp [plainQ] at hp
    omega
  · have h1 := digit_print ⟨c.toNat / 16, by omega⟩
    have h2 := digit_print ⟨c.toNat % 16, by omega⟩
    simp only [List.mem_cons, List.not_mem_nil, or_false] at h
    rcases h with rfl | rfl | rfl
    · decide
    · exact ⟨h1.1, h1.2.1⟩
    · exact ⟨h2.1, h2.2.1⟩
theorem decQ_one (c : UInt8) (r : List UInt8) : decQ (oneQ c ++ r) = (decQ r).map (c :: ·) := by
  have hc := c.toNat_lt
  unfold oneQ
  split
  · rename_i hp
    have h61 : (c.toNat == 61) = false := by simp [plainQ] at hp; simp; omega
    show decQ (c :: r) = _
    conv => lhs; unfold decQ
    rw [h61]
    rfl
  · have h1 := hex_digit ⟨c.toNat / 16, by omega⟩
    have h2 := hex_digit ⟨c.toNat % 16, by omega⟩
    simp only at h1 h2
    show decQ (61 :: digits.getD (c.toNat / 16) 0 :: digits.getD (c.toNat % 16) 0 :: r) = _
    conv => lhs; unfold decQ
    rw [if_pos (by decide)]
    simp only [h1, h2]
    have e : UInt8.ofNat (((c.toNat / 16 : Nat) : Int).toNat * 16 + ((c.toNat % 16 : Nat) : Int).toNat) = c := by
      rw [Int.toNat_natCast, Int.toNat_natCast, show c.toNat / 16 * 16 + c.toNat % 16 = c.toNat from by omega, UInt8.ofNat_toNat]
    rw [e, if_neg (by simp; omega)]

/-- Bytes as they are written, without ends of lines. -/
def payQ (l : List UInt8) : List UInt8 := l.flatMap oneQ
theorem decQ_pay (l : List UInt8) : decQ (payQ l) = some l := by
  induction l with
  | nil => rfl
  | cons c l ih => show decQ (oneQ c ++ payQ l) = _; rw [decQ_one, ih]; rfl
theorem payQ_print (l : List UInt8) (x : UInt8) (h : x ∈ payQ l) : 32 < x.toNat ∧ x.toNat ≤ 126 := by
  obtain ⟨c, _, hx⟩ := List.mem_flatMap.1 h
  exact oneQ_print c x hx
theorem payQ_end (l : List UInt8) : Lib.hasSuffix (payQ l) [61] = false := by
  have key : ∀ (l : List UInt8), l ≠ [] → ∃ p x, payQ l = p ++ [x] ∧ x.toNat ≠ 61 := by
    intro l hl
    obtain ⟨q, c, rfl⟩ : ∃ q c, l = q ++ [c] := ⟨l.dropLast, l.getLast hl, (List.dropLast_concat_getLast hl).symm⟩
    have hc := c.toNat_lt
    have e : payQ (q ++ [c]) = payQ q ++ oneQ c := by simp [payQ]
    rw [e]
    unfold oneQ
    split
    · rename_i hp
      exact ⟨payQ q, c, rfl, by simp [plainQ] at hp; omega⟩
    · exact ⟨payQ q ++ [61, digits.getD (c.toNat / 16) 0], _, by simp, (digit_print ⟨c.toNat % 16, by omega⟩).2.2⟩
  by_cases hl : l = []
  · subst hl; rfl
  · obtain ⟨p, x, h1, h2⟩ := key l hl
    rw [h1]
    have : ¬ ([61] : List UInt8) <:+ (p ++ [x]) := by
      rintro ⟨t, ht⟩
      have := (List.append_inj' ht rfl).2
      simp at this
      exact h2 (by rw [← this]; rfl)
    simp only [Lib.hasSuffix, Bool.eq_false_iff, ne_eq, List.isSuffixOf_iff_suffix]
    exact this

/-- A text in which bytes are written so, and lines go on. -/
inductive StrQ : List UInt8 → List UInt8 → Prop
  | nil : StrQ [] []
  | one (c : UInt8) {T l : List UInt8} : StrQ T l → StrQ (oneQ c ++ T) (c :: l)
  | brk {T l : List UInt8} : StrQ T l → StrQ (61 :: 13 :: 10 :: T) l
theorem encQ_str : ∀ (l : List UInt8) (wide : Nat), StrQ (encQ wide l) l := by
  intro l
  induction l with
  | nil => intro _; exact .nil
  | cons c r ih =>
    intro wide
    unfold encQ
    split
    · show StrQ (61 :: 13 :: 10 :: (oneQ c ++ _)) _
      exact .brk (.one c (ih _))
    · exact .one c (ih _)
theorem StrQ.app {T l T' l' : List UInt8} (h : StrQ T l) (h' : StrQ T' l') : StrQ (T ++ T') (l ++ l') := by
  induction h with
  | nil => exact h'
  | one c _ ih => rw [List.append_assoc]; exact .one c ih
  | brk _ ih => exact .brk ih
theorem StrQ.split {T l : List UInt8} (h : StrQ T l) : T = payQ l ∨ ∃ l1 l2 T2, l = l1 ++ l2 ∧ T = payQ l1 ++ 61 :: 13 :: 10 :: T2 ∧ StrQ T2 l2 := by
  induction h with
  | nil => exact .inl rfl
  | one c h ih =>
    rcases ih with rfl | ⟨l1, l2, T2, rfl, rfl, h2⟩
    · exact .inl rfl
    · exact .inr ⟨c :: l1, l2, T2, rfl, by simp [payQ], h2⟩
  | brk h ih => exact .inr ⟨[], _, _, rfl, rfl, h⟩

theorem index10_none : ∀ (x : List UInt8), (∀ c ∈ x, c ≠ 10) → Lib.index x [10] = -1 := by
  intro x
  induction x with
  | nil => intro _; rfl
  | cons b x ih =>
    intro h
    have hb : (([10] : List UInt8).isPrefixOf (b :: x)) = false := by
      have : (10 : UInt8) ≠ b := fun e => h b (by simp) e.symm
      simp [List.isPrefixOf, this]
    rw [Lib.index, hb, ih (fun c hc => h c (by simp [hc]))]
    rfl
theorem index10_at : ∀ (x r : List UInt8), (∀ c ∈ x, c ≠ 10) → Lib.index (x ++ 10 :: r) [10] = x.length := by
  intro x
  induction x with
  | nil => intro r _; simp [Lib.index, List.isPrefixOf]
  | cons b x ih =>
    intro r h
    have hb : (([10] : List UInt8).isPrefixOf (b :: (x ++ 10 :: r))) = false := by
      have : (10 : UInt8) ≠ b := fun e => h b (by simp) e.symm
      simp [List.isPrefixOf, this]
    have h1 := ih r (fun c hc => h c (by simp [hc]))
    show Lib.index (b :: (x ++ 10 :: r)) [10] = _
    rw [Lib.index, hb, h1]
    have : ((x.length : Int) == -1) = false := by simp
    rw [this]
    simp
theorem cut10_none (x : List UInt8) (h : ∀ c ∈ x, c ≠ 10) : Lib.cut x [10] = (x, [], false) := by
  unfold Lib.cut
  rw [index10_none x h, if_neg (by decide)]
theorem cut10_at (x r : List UInt8) (h : ∀ c ∈ x, c ≠ 10) : Lib.cut (x ++ 10 :: r) [10] = (x, r, true) := by
  unfold Lib.cut
  rw [index10_at x r h, if_pos (by omega), Int.toNat_natCast, List.take_left]
  have : (x ++ 10 :: r).drop (x.length + ([10] : List UInt8).length) = r := by
    rw [← List.drop_drop, List.drop_left]; rfl
  rw [this]
theorem pay10 (l : List UInt8) : ∀ c ∈ payQ l, c ≠ 10 := by
  intro c hc h
  have := (payQ_print l c hc).1
  subst h
  exact absurd this (by decide)
theorem trim_pay (l : List UInt8) : trimQ (payQ l) = payQ l := by
  unfold trimQ
  rw [Lib.trimRightS_take _ _ (payQ l).length (Nat.le_refl _) (fun j b hj hb => by rw [List.getElem?_eq_none (by omega)] at hb; cases hb) (fun b h0 hb => ?_), List.take_length]
  have hm : b ∈ payQ l := List.mem_of_getElem? hb
  have h32 := (payQ_print l b hm).1
  have n1 : (b == 32) = false := by rw [beq_eq_false_iff_ne]; rintro rfl; exact absurd h32 (by decide)
  have n2 : (b == 9) = false := by rw [beq_eq_false_iff_ne]; rintro rfl; exact absurd h32 (by decide)
  have n3 : (b == 13) = false := by rw [beq_eq_false_iff_ne]; rintro rfl; exact absurd h32 (by decide)
  simp only [List.contains, List.elem, n1, n2, n3]
theorem trim_soft (x : List UInt8) : trimQ (x ++ [61, 13]) = x ++ [61] := by
  unfold trimQ Lib.trimRightS
  rw [List.reverse_append]
  show (List.dropWhile _ (13 :: 61 :: x.reverse)).reverse = _
  rw [List.dropWhile_cons_of_pos (by decide), List.dropWhile_cons_of_neg (by decide)]
  simp
theorem soft_soft (x : List UInt8) : softQ (x ++ [61]) = true := by
  unfold softQ Lib.hasSuffix
  rw [List.isSuffixOf_iff_suffix]
  exact ⟨x, rfl⟩
theorem bare_soft (x : List UInt8) : bareQ (x ++ [61]) = x := by
  unfold bareQ
  rw [soft_soft, if_pos rfl]
  simp
theorem bare_pay (l : List UInt8) : bareQ (payQ l) = payQ l := by
  unfold bareQ softQ
  rw [payQ_end, if_neg (by decide)]
theorem linesQ_str : ∀ (k : Nat) (T l out : List UInt8), StrQ T l → T.length ≤ k → out.length + l.length ≤ 4000 → linesQ k T out = (out ++ l, 0) := by
  intro k
  induction k with
  | zero =>
    intro T l out h hk hl
    have hT : T = [] := List.eq_nil_of_length_eq_zero (by omega)
    rcases h.split with h1 | ⟨_, _, _, _, h1, _⟩
    · have : l = [] := by
        cases l with
        | nil => rfl
        | cons c l =>
          have h3 := oneQ_len c
          rw [hT] at h1
          have := congrArg List.length h1
          simp [payQ] at this
          omega
      subst this
      simp [linesQ]
    · rw [hT] at h1; have := congrArg List.length h1; simp at this
  | succ k ih =>
    intro T l out h hk hl
    unfold linesQ
    split
    · rename_i hT
      have hT : T = [] := by simpa using hT
      rcases h.split with h1 | ⟨_, _, _, _, h1, _⟩
      · have : l = [] := by
          cases l with
          | nil => rfl
          | cons c l =>
            have h3 := oneQ_len c
            rw [hT] at h1
            have := congrArg List.length h1
            simp [payQ] at this
            omega
        subst this
        simp
      · rw [hT] at h1; have := congrArg List.length h1; simp at this
    · unfold endQ
      rcases h.split with rfl | ⟨l1, l2, T2, rfl, rfl, h2⟩
      · rw [cut10_none _ (pay10 l)]
        simp only [trim_pay, bare_pay, decQ_pay, Bool.false_and]
        rw [if_neg (by simp; omega)]
        have h0 : linesQ k [] (out ++ l ++ if false = true then [13, 10] else []) = (out ++ l, 0) := by
          cases k <;> simp [linesQ]
        exact h0
      · have hc : Lib.cut (payQ l1 ++ 61 :: 13 :: 10 :: T2) [10] = (payQ l1 ++ [61, 13], T2, true) := by
          rw [show payQ l1 ++ 61 :: 13 :: 10 :: T2 = (payQ l1 ++ [61, 13]) ++ 10 :: T2 from by simp]
          refine cut10_at _ _ fun c hc => ?_
          simp only [List.mem_append, List.mem_cons, List.not_mem_nil, or_false] at hc
          rcases hc with hc | rfl | rfl
          · exact pay10 l1 c hc
          · decide
          · decide
        rw [hc]
        simp only [trim_soft, bare_soft, decQ_pay, soft_soft, Bool.not_true, Bool.and_false]
        have hll : (l1 ++ l2).length = l1.length + l2.length := List.length_append
        rw [if_neg (by simp; omega)]
        have h3 := ih T2 l2 (out ++ l1) h2 (by simp at hk; omega) (by simp; omega)
        rw [List.append_assoc] at h3
        simpa using h3
/-- What is written in such a text is read. -/
theorem readQ_str (T l : List UInt8) (h : StrQ T l) (hT : T.length ≤ 16000) (hl : l.length ≤ 4000) : readQ T = (l, 0) := by
  unfold readQ
  rw [if_neg (by omega), linesQ_str _ T l [] h (Nat.le_refl _) (by simpa using hl)]
  rfl
theorem encQ_len3 : ∀ (l : List UInt8) (wide : Nat), wide ≤ 75 → 73 * (encQ wide l).length ≤ 228 * l.length + 3 * wide := by
  intro l
  induction l with
  | nil => intro wide _; simp [encQ]
  | cons c r ih =>
    intro wide hw
    have h1 := oneQ_len c
    unfold encQ
    split
    · have h2 := ih (oneQ c).length (by omega)
      simp only [List.length_append, List.length_cons, List.length_nil]; omega
    · have h3 := ih (wide + (oneQ c).length) (by omega)
      simp only [List.length_append, List.length_cons]; omega
theorem readQ_enc (l : List UInt8) (hl : l.length ≤ 4000) : readQ (encQ 0 l) = (l, 0) := by
  have := encQ_len3 l 0 (by omega)
  exact readQ_str _ l (encQ_str l 0) (by omega) hl
end Go.Proofs.YtlbdnohnngkapaaGreatDoor

namespace Go.Proofs.YtlbdnohnngkapaaGreatDoor

/-- Lines, CR LF between them. -/
def joinL : List (List UInt8) → List UInt8
  | [] => []
  | [x] => x
  | x :: y :: r => x ++ 13 :: 10 :: joinL (y :: r)
theorem index_none13 : ∀ (x : List UInt8), (∀ c ∈ x, c ≠ 13) → Lib.index x [13, 10] = -1 := by
  intro x
  induction x with
  | nil => intro _; rfl
  | cons b x ih =>
    intro h
    have hb : (([13, 10] : List UInt8).isPrefixOf (b :: x)) = false := by
      have : (13 : UInt8) ≠ b := fun e => h b (by simp) e.symm
      simp [List.isPrefixOf, this]
    rw [Lib.index, hb, ih (fun c hc => h c (by simp [hc]))]
    rfl
theorem index_line : ∀ (x r : List UInt8), (∀ c ∈ x, c ≠ 13) → Lib.index (x ++ 13 :: 10 :: r) [13, 10] = x.length := by
  intro x
  induction x with
  | nil => intro r _; simp [Lib.index, List.isPrefixOf]
  | cons b x ih =>
    intro r h
    have hb : (([13, 10] : List UInt8).isPrefixOf (b :: (x ++ 13 :: 10 :: r))) = false := by
      have : (13 : UInt8) ≠ b := fun e => h b (by simp) e.symm
      simp [List.isPrefixOf, this]
    have h1 := ih r (fun c hc => h c (by simp [hc]))
    show Lib.index (b :: (x ++ 13 :: 10 :: r)) [13, 10] = _
    rw [Lib.index, hb, h1]
    have : ((x.length : Int) == -1) = false := by simp
    rw [this]
    simp
/-- The lines of what base.Text writes. -/
theorem enc_lines_of (k : Nat) : ∀ (l : List UInt8), l.length ≤ k → ∃ L, L ≠ [] ∧ enc 0 l = joinL L ∧ (∀ x ∈ L, x.length ≤ 76 ∧ ∀ c ∈ x, c ≠ 13 ∧ c ≠ 10) ∧ L.flatten.length = 4 * ((l.length + 2) / 3) := by
  have hletters : ∀ c ∈ letters, c ≠ 13 ∧ c ≠ 10 := by decide
  have hq : ∀ (l : List UInt8) (c : UInt8), c ∈ quad l → c ≠ 13 ∧ c ≠ 10 := by
    intro l c hc
    simp only [quad, List.mem_map] at hc
    obtain ⟨i, _, rfl⟩ := hc
    unfold quadL
    split
    · decide
    · have h64 : val3 l / 2 ^ (18 - 6 * i) % 64 < letters.length := by rw [letters_len]; exact Nat.mod_lt _ (by omega)
      rw [List.getD_eq_getElem?_getD, List.getElem?_eq_getElem h64]
      exact hletters _ (List.getElem_mem h64)
  have hone : ∀ (j i : Nat) (l : List UInt8), l.length ≤ j → (l.length + 2) / 3 + i ≤ 19 → (enc (4 * i) l).length = 4 * ((l.length + 2) / 3) ∧ ∀ c ∈ enc (4 * i) l, c ≠ 13 ∧ c ≠ 10 := by
    intro j
    induction j with
    | zero => intro i l h _; have : l = [] := List.eq_nil_of_length_eq_zero (by omega); subst this; simp [enc_nil]
    | succ j ih =>
      intro i l h hi
      rcases Nat.eq_zero_or_pos l.length with h0 | h0
      · have : l = [] := List.eq_nil_of_length_eq_zero h0; subst this; simp [enc_nil]
      · have hd : (l.drop (min 3 l.length)).length = l.length - min 3 l.length := by simp
        have h1 := ih (i + 1) (l.drop (min 3 l.length)) (by omega) (by omega)
        rw [hd] at h1
        have ha : after (4 * i) = 4 * (i + 1) := by unfold after; rw [if_neg (by omega)]; omega
        have hb : brk (4 * i) = [] := by unfold brk; rw [if_neg (by omega)]
        rw [enc_step _ l h0, ha, hb]
        refine ⟨by simp only [List.nil_append, List.length_append, quad_len]; omega, fun c hc => ?_⟩
        simp only [List.nil_append, List.mem_append] at hc
        rcases hc with hc | hc
        · exact hq l c hc
        · exact h1.2 c hc
  induction k with
  | zero =>
    intro l h
    have : l = [] := List.eq_nil_of_length_eq_zero (by omega)
    subst this
    exact ⟨[[]], by simp, by simp [enc_nil, joinL], by simp, by simp⟩
  | succ k ih =>
    intro l h
    rcases (by omega : l.length ≤ 57 ∨ 57 < l.length) with h57 | h57
    · have h1 := hone l.length 0 l (Nat.le_refl _) (by omega)
      rw [Nat.mul_zero] at h1
      refine ⟨[enc 0 l], by simp, rfl, ?_, by simpa using h1.1⟩
      intro x hx
      simp at hx
      subst hx
      exact ⟨by omega, h1.2⟩
    · have hp := enc_parts l 1 (by omega)
      rw [if_pos (by omega)] at hp
      obtain ⟨L, hL0, hL1, hL2, hL3⟩ := ih (l.drop 57) (by simp; omega)
      have ht : (l.take 57).length = 57 := by simp; omega
      have h1 := hone 57 0 (l.take 57) (by omega) (by omega)
      rw [Nat.mul_zero, ht] at h1
      refine ⟨enc 0 (l.take 57) :: L, by simp, ?_, ?_, ?_⟩
      · rw [show l = l from rfl, hp]
        show enc 0 (l.take 57) ++ [13, 10] ++ enc 0 (l.drop 57) = _
        rw [hL1]
        match L, hL0 with
        | y :: r, _ => simp [joinL]
      · intro x hx
        simp only [List.mem_cons] at hx
        rcases hx with rfl | hx
        · exact ⟨by omega, h1.2⟩
        · exact hL2 x hx
      · have hdl : (l.drop 57).length = l.length - 57 := by simp
        rw [List.flatten_cons, List.length_append, hL3, h1.1, hdl]
        omega

theorem joinL_cons (x y : List UInt8) (r : List (List UInt8)) : joinL (x :: y :: r) = x ++ 13 :: 10 :: joinL (y :: r) := rfl
theorem drop_line (x r : List UInt8) : (x ++ 13 :: 10 :: r).drop (((x.length : Nat) : Int).toNat + ([13, 10] : List UInt8).length) = r := by
  rw [Int.toNat_natCast]
  show List.drop (x.length + 2) _ = r
  rw [← List.drop_drop, List.drop_left]
  rfl
theorem count_from_join : ∀ (fuel : Nat) (L : List (List UInt8)), L.length ≤ fuel → (∀ x ∈ L, ∀ c ∈ x, c ≠ 13) → Lib.countFrom [13, 10] fuel (joinL L) = L.length - 1 := by
  intro fuel
  induction fuel with
  | zero => intro L h _; have : L = [] := List.eq_nil_of_length_eq_zero (by omega); subst this; rfl
  | succ f ih =>
    intro L h hx
    match L, h, hx with
    | [], _, _ => rfl
    | [x], _, hx =>
      show (if Lib.index x [13, 10] == -1 then 0 else _) = 0
      rw [index_none13 x (hx x (by simp))]
      rfl
    | x :: y :: r, h, hx =>
      rw [joinL_cons, Lib.countFrom, index_line x _ (hx x (by simp)), drop_line, ih (y :: r) (by simp at h ⊢; omega) (fun z hz => hx z (by simp at hz ⊢; exact .inr hz))]
      have : ((x.length : Int) == -1) = false := by simp
      rw [this]
      simp
      omega
theorem joinL_len : ∀ (L : List (List UInt8)), L.length ≤ (joinL L).length + 1 := by
  intro L
  induction L with
  | nil => simp
  | cons x L ih =>
    match L, ih with
    | [], _ => simp
    | y :: r, ih =>
      rw [joinL_cons]
      simp only [List.length_cons, List.length_append] at ih ⊢
      omega
theorem count_join (L : List (List UInt8)) (hx : ∀ x ∈ L, ∀ c ∈ x, c ≠ 13) : Lib.count (joinL L) [13, 10] = L.length - 1 :=
  count_from_join _ L (joinL_len L) hx
/-- strings.Split's parts, on lists. -/
def splitK (sep : List UInt8) : Nat → List UInt8 → List (List UInt8)
  | 0, s => [s]
  | k + 1, s => if Lib.index s sep == -1 then [s] else s.take (Lib.index s sep).toNat :: splitK sep k (s.drop ((Lib.index s sep).toNat + sep.length))
theorem splitB_data (sep : List UInt8) (k : Nat) : ∀ s : ByteArray, (Lib.splitB ⟨sep.toArray⟩ 0 k s).map Value.string = (splitK sep k s.data.toList).map str := by
  induction k with
  | zero => intro s; rfl
  | succ k ih =>
    intro s
    unfold Lib.splitB splitK
    show (if (Lib.index s.data.toList sep == -1) = true then [s] else _).map Value.string = (if (Lib.index s.data.toList sep == -1) = true then [s.data.toList] else _).map str
    by_cases h : (Lib.index s.data.toList sep == -1) = true
    · rw [if_pos h, if_pos h]; rfl
    · rw [if_neg h, if_neg h]
      simp only [List.map_cons]
      rw [ih]
      congr 1
      · rw [str_of, Lib.extract_data]
        simp [Lib.indexB]
      · congr 1
        congr 1
        rw [Lib.extract_data]
        simp only [Lib.indexB]
        rw [List.take_of_length_le (by rw [List.length_drop]; exact Nat.le_refl _)]
        rfl
theorem split_join : ∀ (L : List (List UInt8)), L ≠ [] → (∀ x ∈ L, ∀ c ∈ x, c ≠ 13) → splitK [13, 10] (L.length - 1) (joinL L) = L := by
  intro L
  induction L with
  | nil => intro h; exact absurd rfl h
  | cons x L ih =>
    intro _ hx
    match L, ih, hx with
    | [], _, _ => rfl
    | y :: r, ih, hx =>
      have h1 := ih (by simp) (fun z hz => hx z (by simp at hz ⊢; exact .inr hz))
      show splitK [13, 10] ((y :: r).length - 1 + 1) (joinL (x :: y :: r)) = _
      rw [joinL_cons, splitK, index_line x _ (hx x (by simp)), drop_line, h1]
      have : ((x.length : Int) == -1) = false := by simp
      rw [this]
      simp
theorem replace_join : ∀ (L : List (List UInt8)), (∀ x ∈ L, ∀ c ∈ x, c ≠ 13) → Lib.replaceK [13, 10] [] (L.length - 1) (joinL L) = L.flatten := by
  intro L
  induction L with
  | nil => intro _; rfl
  | cons x L ih =>
    intro hx
    match L, ih, hx with
    | [], _, _ => simp [joinL, Lib.replaceK]
    | y :: r, ih, hx =>
      have h1 := ih (fun z hz => hx z (by simp at hz ⊢; exact .inr hz))
      show Lib.replaceK [13, 10] [] ((y :: r).length - 1 + 1) (joinL (x :: y :: r)) = _
      rw [joinL_cons, Lib.replaceK, index_line x _ (hx x (by simp)), drop_line, h1]
      have : ((x.length : Int) == -1) = false := by simp
      rw [this]
      simp
theorem replaceAll_join (L : List (List UInt8)) (hx : ∀ x ∈ L, ∀ c ∈ x, c ≠ 13) : Lib.replaceAll (joinL L) [13, 10] [] = L.flatten := by
  unfold Lib.replaceAll Lib.replace Lib.replaceNum
  rw [if_neg (by decide), if_pos (.inl (by omega)), count_join L hx, replace_join L hx]
end Go.Proofs.YtlbdnohnngkapaaGreatDoor

namespace Go.Proofs.YtlbdnohnngkapaaGreatDoor

theorem joinL_pre (a x : List UInt8) (L : List (List UInt8)) : a ++ joinL (x :: L) = joinL ((a ++ x) :: L) := by
  cases L with
  | nil => rfl
  | cons y r => simp [joinL]
/-- The lines of what quote.Text writes. -/
theorem encQ_lines : ∀ (l : List UInt8) (wide : Nat), wide ≤ 75 → ∃ x L, encQ wide l = joinL (x :: L) ∧ wide + x.length ≤ 76 ∧ (∀ y ∈ L, y.length ≤ 76) ∧ ∀ y ∈ x :: L, ∀ c ∈ y, 32 < c.toNat ∧ c.toNat ≤ 126 := by
  intro l
  induction l with
  | nil => intro wide h; exact ⟨[], [], rfl, by simp; omega, by simp, by simp⟩
  | cons c r ih =>
    intro wide h
    have h1 := oneQ_len c
    unfold encQ
    split
    · rename_i h75
      obtain ⟨x, L, e, hx, hL, hp⟩ := ih (oneQ c).length (by omega)
      refine ⟨[61], (oneQ c ++ x) :: L, ?_, by simp; omega, ?_, ?_⟩
      · rw [e, List.append_assoc, joinL_pre]
        rfl
      · intro y hy
        simp only [List.mem_cons] at hy
        rcases hy with rfl | hy
        · simp only [List.length_append]; omega
        · exact hL y hy
      · intro y hy d hd
        simp only [List.mem_cons] at hy
        rcases hy with rfl | rfl | hy
        · simp at hd; subst hd; decide
        · rw [List.mem_append] at hd
          rcases hd with hd | hd
          · exact oneQ_print c d hd
          · exact hp x (by simp) d hd
        · exact hp y (by simp [hy]) d hd
    · obtain ⟨x, L, e, hx, hL, hp⟩ := ih (wide + (oneQ c).length) (by omega)
      refine ⟨oneQ c ++ x, L, ?_, by simp only [List.length_append]; omega, hL, ?_⟩
      · rw [e, joinL_pre]
      · intro y hy d hd
        simp only [List.mem_cons] at hy
        rcases hy with rfl | hy
        · rw [List.mem_append] at hd
          rcases hd with hd | hd
          · exact oneQ_print c d hd
          · exact hp x (by simp) d hd
        · exact hp y (by simp [hy]) d hd
theorem encQ_lines_of (l : List UInt8) : ∃ L, L ≠ [] ∧ encQ 0 l = joinL L ∧ (∀ x ∈ L, x.length ≤ 76 ∧ ∀ c ∈ x, c ≠ 13 ∧ c ≠ 10) ∧ ∀ c ∈ L.flatten, 32 < c.toNat ∧ c.toNat ≤ 126 := by
  obtain ⟨x, L, e, hx, hL, hp⟩ := encQ_lines l 0 (by omega)
  refine ⟨x :: L, by simp, e, fun y hy => ⟨?_, fun c hc => ?_⟩, fun c hc => ?_⟩
  · simp only [List.mem_cons] at hy
    rcases hy with rfl | hy
    · omega
    · exact hL y hy
  · have := (hp y hy c hc).1
    exact ⟨by rintro rfl; exact absurd this (by decide), by rintro rfl; exact absurd this (by decide)⟩
  · obtain ⟨y, hy, hc⟩ := List.mem_flatten.1 hc
    exact hp y hy c hc

/-! ### Lines that go on, struck -/
/-- Lines, = CR LF between them. -/
def joinE : List (List UInt8) → List UInt8
  | [] => []
  | [x] => x
  | x :: y :: r => x ++ 61 :: 13 :: 10 :: joinE (y :: r)
theorem joinE_cons (x y : List UInt8) (r : List (List UInt8)) : joinE (x :: y :: r) = x ++ 61 :: 13 :: 10 :: joinE (y :: r) := rfl
theorem joinE_pre (a x : List UInt8) (L : List (List UInt8)) : a ++ joinE (x :: L) = joinE ((a ++ x) :: L) := by
  cases L with
  | nil => rfl
  | cons y r => simp [joinE]
theorem indexE_none : ∀ (x : List UInt8), (∀ c ∈ x, c ≠ 61) → Lib.index x [61, 13, 10] = -1 := by
  intro x
  induction x with
  | nil => intro _; rfl
  | cons b x ih =>
    intro h
    have hb : (([61, 13, 10] : List UInt8).isPrefixOf (b :: x)) = false := by
      have : (61 : UInt8) ≠ b := fun e => h b (by simp) e.symm
      simp [List.isPrefixOf, this]
    rw [Lib.index, hb, ih (fun c hc => h c (by simp [hc]))]
    rfl
theorem indexE_line : ∀ (x r : List UInt8), (∀ c ∈ x, c ≠ 61) → Lib.index (x ++ 61 :: 13 :: 10 :: r) [61, 13, 10] = x.length := by
  intro x
  induction x with
  | nil => intro r _; simp [Lib.index, List.isPrefixOf]
  | cons b x ih =>
    intro r h
    have hb : (([61, 13, 10] : List UInt8).isPrefixOf (b :: (x ++ 61 :: 13 :: 10 :: r))) = false := by
      have : (61 : UInt8) ≠ b := fun e => h b (by simp) e.symm
      simp [List.isPrefixOf, this]
    have h1 := ih r (fun c hc => h c (by simp [hc]))
    show Lib.index (b :: (x ++ 61 :: 13 :: 10 :: r)) [61, 13, 10] = _
    rw [Lib.index, hb, h1]
    have : ((x.length : Int) == -1) = false := by simp
    rw [this]
    simp
theorem dropE_line (x r : List UInt8) : (x ++ 61 :: 13 :: 10 :: r).drop (((x.length : Nat) : Int).toNat + ([61, 13, 10] : List UInt8).length) = r := by
  rw [Int.toNat_natCast]
  show List.drop (x.length + 3) _ = r
  rw [← List.drop_drop, List.drop_left]
  rfl
theorem countE_from : ∀ (fuel : Nat) (L : List (List UInt8)), L.length ≤ fuel → (∀ x ∈ L, ∀ c ∈ x, c ≠ 61) → Lib.countFrom [61, 13, 10] fuel (joinE L) = L.length - 1 := by
  intro fuel
  induction fuel with
  | zero => intro L h _; have : L = [] := List.eq_nil_of_length_eq_zero (by omega); subst this; rfl
  | succ f ih =>
    intro L h hx
    match L, h, hx with
    | [], _, _ => rfl
    | [x], _, hx =>
      show (if Lib.index x [61, 13, 10] == -1 then 0 else _) = 0
      rw [indexE_none x (hx x (by simp))]
      rfl
    | x :: y :: r, h, hx =>
      rw [joinE_cons, Lib.countFrom, indexE_line x _ (hx x (by simp)), dropE_line, ih (y :: r) (by simp at h ⊢; omega) (fun z hz => hx z (by simp at hz ⊢; exact .inr hz))]
      have : ((x.length : Int) == -1) = false := by simp
      rw [this]
      simp
      omega
theorem joinE_len : ∀ (L : List (List UInt8)), L.length ≤ (joinE L).length + 1 := by
  intro L
  induction L with
  | nil => simp
  | cons x L ih =>
    match L, ih with
    | [], _ => simp
    | y :: r, ih =>
      rw [joinE_cons]
      simp only [List.length_cons, List.length_append] at ih ⊢
      omega
theorem countE_join (L : List (List UInt8)) (hx : ∀ x ∈ L, ∀ c ∈ x, c ≠ 61) : Lib.count (joinE L) [61, 13, 10] = L.length - 1 :=
  countE_from _ L (joinE_len L) hx
theorem replaceE_join : ∀ (L : List (List UInt8)), (∀ x ∈ L, ∀ c ∈ x, c ≠ 61) → Lib.replaceK [61, 13, 10] [] (L.length - 1) (joinE L) = L.flatten := by
  intro L
  induction L with
  | nil => intro _; rfl
  | cons x L ih =>
    intro hx
    match L, ih, hx with
    | [], _, _ => simp [joinE, Lib.replaceK]
    | y :: r, ih, hx =>
      have h1 := ih (fun z hz => hx z (by simp at hz ⊢; exact .inr hz))
      show Lib.replaceK [61, 13, 10] [] ((y :: r).length - 1 + 1) (joinE (x :: y :: r)) = _
      rw [joinE_cons, Lib.replaceK, indexE_line x _ (hx x (by simp)), dropE_line, h1]
      have : ((x.length : Int) == -1) = false := by simp
      rw [this]
      simp
theorem replaceE_all (L : List (List UInt8)) (hx : ∀ x ∈ L, ∀ c ∈ x, c ≠ 61) : Lib.replaceAll (joinE L) [61, 13, 10] [] = L.flatten := by
  unfold Lib.replaceAll Lib.replace Lib.replaceNum
  rw [if_neg (by decide), if_pos (.inl (by omega)), countE_join L hx, replaceE_join L hx]
/-- Bytes that stand as they are: struck of the lines' ends, the bytes themselves. -/
theorem encQ_plain : ∀ (l : List UInt8) (wide : Nat), (∀ c ∈ l, plainQ c.toNat = true) → ∃ x L, encQ wide l = joinE (x :: L) ∧ (x :: L).flatten = l ∧ ∀ y ∈ x :: L, ∀ c ∈ y, c ≠ 61 := by
  intro l
  induction l with
  | nil => intro wide _; exact ⟨[], [], rfl, rfl, by simp⟩
  | cons c r ih =>
    intro wide hp
    have hc := hp c (by simp)
    have h1 : oneQ c = [c] := by unfold oneQ; rw [if_pos hc]
    have h61 : c ≠ 61 := by rintro rfl; exact absurd hc (by decide)
    unfold encQ
    rw [h1]
    split
    · obtain ⟨x, L, e, hx, hL⟩ := ih 1 (fun d hd => hp d (by simp [hd]))
      refine ⟨[], (c :: x) :: L, ?_, ?_, ?_⟩
      · show [61, 13, 10] ++ [c] ++ encQ 1 r = _
        rw [e, List.append_assoc, joinE_pre]
        rfl
      · simp at hx ⊢; exact hx
      · intro y hy d hd
        simp only [List.mem_cons] at hy
        rcases hy with rfl | rfl | hy
        · cases hd
        · simp only [List.mem_cons] at hd
          rcases hd with rfl | hd
          · exact h61
          · exact hL x (by simp) d hd
        · exact hL y (by simp [hy]) d hd
    · obtain ⟨x, L, e, hx, hL⟩ := ih (wide + [c].length) (fun d hd => hp d (by simp [hd]))
      refine ⟨c :: x, L, ?_, ?_, ?_⟩
      · rw [e, joinE_pre]; rfl
      · simp at hx ⊢; exact hx
      · intro y hy d hd
        simp only [List.mem_cons] at hy
        rcases hy with rfl | hy
        · simp only [List.mem_cons] at hd
          rcases hd with rfl | hd
          · exact h61
          · exact hL x (by simp) d hd
        · exact hL y (by simp [hy]) d hd
theorem replaceQ_plain (l : List UInt8) (hp : ∀ c ∈ l, plainQ c.toNat = true) : Lib.replaceAll (encQ 0 l) [61, 13, 10] [] = l := by
  obtain ⟨x, L, e, hx, hL⟩ := encQ_plain l 0 hp
  rw [e, replaceE_all _ hL, hx]
end Go.Proofs.YtlbdnohnngkapaaGreatDoor

namespace Go.Proofs.YtlbdnohnngkapaaGreatDoor
open Go.RowKit

/-! ### What package mime computes -/
def ctN : List UInt8 := [67, 111, 110, 116, 101, 110, 116, 45, 84, 121, 112, 101]
def idN : List UInt8 := [67, 111, 110, 116, 101, 110, 116, 45, 73, 68]
def locN : List UInt8 := [67, 111, 110, 116, 101, 110, 116, 45, 76, 111, 99, 97, 116, 105, 111, 110]
def cteN : List UInt8 := [67, 111, 110, 116, 101, 110, 116, 45, 84, 114, 97, 110, 115, 102, 101, 114, 45, 69, 110, 99, 111, 100, 105, 110, 103]
def csS : List UInt8 := [59, 32, 99, 104, 97, 114, 115, 101, 116, 61]
def bdS : List UInt8 := [59, 32, 98, 111, 117, 110, 100, 97, 114, 121, 61, 34]
def howS (h : Int) : List UInt8 := if h = 1 then [98, 97, 115, 101, 54, 52] else if h = 2 then [113, 117, 111, 116, 101, 100, 45, 112, 114, 105, 110, 116, 97, 98, 108, 101] else [56, 98, 105, 116]
/-- The value of a part's type. -/
def typeV (t cs border : List UInt8) : List UInt8 := t ++ (if cs = [] then [] else csS ++ cs) ++ (if border = [] then [] else bdS ++ border ++ [34])
def fieldsM (t cs id loc : List UInt8) (how : Int) (border : List UInt8) : List FieldD :=
  [⟨ctN, typeV t cs border⟩] ++ (if id = [] then [] else [⟨idN, [60] ++ id ++ [62]⟩]) ++ (if loc = [] then [] else [⟨locN, loc⟩]) ++ (if border = [] then [⟨cteN, howS how⟩] else [])
def encM (how : Int) (body : List UInt8) : List UInt8 := if how = 1 then enc 0 body else if how = 2 then encQ 0 body else body
def markM (n : Nat) : List UInt8 := [45, 45, 61, 95] ++ Lib.decDigits n
def hasS (s t : List UInt8) : Bool := decide (0 ≤ Lib.index s t)
/-- The first number whose mark isn't in a text. -/
def bordF (J : List UInt8) : Nat → Nat → Nat
  | 0, n => n
  | f + 1, n => if hasS J (markM n) then bordF J f (n + 1) else n
def bordN (J : List UInt8) : Nat := bordF J 2000000 1
def nlJ : List (List UInt8) → List UInt8 := joinC 10
def bordM (n : Nat) : List UInt8 := [61, 95] ++ Lib.decDigits n
def wrapM (border : List UInt8) : List (List UInt8) → List UInt8
  | [] => [45, 45] ++ border ++ [45, 45, 13, 10]
  | k :: l => [45, 45] ++ border ++ [13, 10] ++ k ++ [13, 10] ++ wrapM border l
mutual
def textM : PartD → List UInt8
  | ⟨t, cs, id, loc, how, body, parts⟩ => if manyB t then textF (fieldsM t cs id loc how (bordM (bordN (nlJ (textsM parts))))) ++ wrapM (bordM (bordN (nlJ (textsM parts)))) (textsM parts)
    else textF (fieldsM t cs id loc how []) ++ encM how body
def textsM : List PartD → List (List UInt8)
  | [] => []
  | p :: ps => textM p :: textsM ps
end
/-- mime.Write. -/
def writeM (p : PartD) : List UInt8 × Nat := if checkD p ≠ 0 then ([], checkD p) else if 40000 < (textM p).length then ([], 2) else (textM p, 0)
/-- The end of the last line belongs to the border. -/
def chopB (b : List UInt8) (c : UInt8) : List UInt8 := if Lib.hasSuffix b [c] then b.take (b.length - 1) else b
def innerM (b : List UInt8) : List UInt8 := chopB (chopB b 10) 13
def bareM (line : List UInt8) : List UInt8 := Lib.trimRightS line [32, 9, 13, 10]
/-- The first line, its end too; and what is behind it. -/
def lineM (b : List UInt8) : List UInt8 × List UInt8 := if Lib.indexByte b 10 < 0 then (b, []) else (b.take ((Lib.indexByte b 10).toNat + 1), b.drop ((Lib.indexByte b 10).toNat + 1))
def openM (cur : Option (List UInt8)) (out : List (List UInt8)) : List (List UInt8) := match cur with | none => out | some c => out ++ [innerM c]
/-- mime.Split's loop: cur: what has been read of a part, if one is open. -/
def splitF (border : List UInt8) : Nat → List UInt8 → Option (List UInt8) → List (List UInt8) → List (List UInt8) × Nat
  | 0, _, _, _ => ([], 1)
  | k + 1, b, cur, out =>
    if b = [] then ([], 1)
    else if bareM (lineM b).1 = [45, 45] ++ border then splitF border k (lineM b).2 (some []) (openM cur out)
    else if bareM (lineM b).1 = [45, 45] ++ border ++ [45, 45] then (openM cur out, 0)
    else splitF border k (lineM b).2 (cur.map (· ++ (lineM b).1)) out
def splitM (b border : List UInt8) : List (List UInt8) × Nat :=
  if 40000 < b.length then ([], 2) else if border = [] ∨ 60 < border.length then ([], 3) else splitF border (b.length + 1) b none []
def idM (s : List UInt8) : List UInt8 := if Lib.hasPrefix s [60] && Lib.hasSuffix s [62] then (s.take (s.length - 1)).drop 1 else s
def bodyM (how b : List UInt8) : Int × List UInt8 × Nat :=
  if lowL how = [] ∨ lowL how = [55, 98, 105, 116] ∨ lowL how = [56, 98, 105, 116] ∨ lowL how = [98, 105, 110, 97, 114, 121] then (if 4000 < b.length then (0, [], 2) else (0, b, 0))
  else if lowL how = [98, 97, 115, 101, 54, 52] then (1, readB b)
  else if lowL how = [113, 117, 111, 116, 101, 100, 45, 112, 114, 105, 110, 116, 97, 98, 108, 101] then (2, readQ b)
  else (0, [], 4)
def zeroPD : PartD := ⟨[], [], [], [], 0, [], []⟩
/-- What one level does with the parts between borders: their answers, the count, an error. -/
def eachM (rd : Nat → List UInt8 → PartD × Nat × Nat) : List (List UInt8) → Nat → List PartD → List PartD × Nat × Nat
  | [], cnt, out => (out, cnt, 0)
  | x :: xs, cnt, out => if (rd cnt x).2.2 = 0 then eachM rd xs (rd cnt x).2.1 (out ++ [(rd cnt x).1]) else ([], (rd cnt x).2.1, (rd cnt x).2.2)
/-- (*reader).part: so many levels are left; so many parts there have been. Part, count, error. -/
def partM : Nat → Nat → List UInt8 → PartD × Nat × Nat
  | 0, cnt, _ => (zeroPD, cnt + 1, 2)
  | k + 1, cnt, b =>
    if 12 < cnt + 1 then (zeroPD, cnt + 1, 2)
    else if (parseF b).2.2 ≠ 0 then (zeroPD, cnt + 1, (parseF b).2.2)
    else
      let l := (parseF b).1
      let rest := b.drop (parseF b).2.1
      let t := if getF l ctN = [] then [116, 101, 120, 116, 47, 112, 108, 97, 105, 110] else getF l ctN
      let main := (paramsF t).1
      let ps := (paramsF t).2.1
      if (paramsF t).2.2 ≠ 0 then (zeroPD, cnt + 1, (paramsF t).2.2)
      else if manyB main then
        (if (splitM rest (getF ps [98, 111, 117, 110, 100, 97, 114, 121])).2 ≠ 0 then (zeroPD, cnt + 1, (splitM rest (getF ps [98, 111, 117, 110, 100, 97, 114, 121])).2)
        else
          let r := eachM (partM k) (splitM rest (getF ps [98, 111, 117, 110, 100, 97, 114, 121])).1 (cnt + 1) []
          if r.2.2 ≠ 0 then (zeroPD, r.2.1, r.2.2) else (⟨main, [], idM (getF l idN), getF l locN, 0, [], r.1⟩, r.2.1, 0))
      else
        let y := bodyM (getF l cteN) rest
        if y.2.2 ≠ 0 then (zeroPD, cnt + 1, y.2.2) else (⟨main, getF ps [99, 104, 97, 114, 115, 101, 116], idM (getF l idN), getF l locN, y.1, y.2.1, []⟩, cnt + 1, 0)
/-- mime.Read. -/
def readM (b : List UInt8) : PartD × Nat :=
  if 40000 < b.length then (zeroPD, 2)
  else if (partM 3 0 b).2.2 ≠ 0 then (zeroPD, (partM 3 0 b).2.2)
  else if checkD (partM 3 0 b).1 ≠ 0 then (zeroPD, checkD (partM 3 0 b).1) else ((partM 3 0 b).1, 0)
end Go.Proofs.YtlbdnohnngkapaaGreatDoor

namespace Go.Proofs.YtlbdnohnngkapaaGreatDoor
open Go.RowKit

/-! ### A text in another one -/
def hasI (m s : List UInt8) : Prop := ∃ a b, s = a ++ m ++ b
theorem occ_iff (s m : List UInt8) (j : Nat) : Lib.occAt s m j = true ↔ ∃ b, s.drop j = m ++ b := by
  unfold Lib.occAt
  rw [List.isPrefixOf_iff_prefix]
  constructor
  · rintro ⟨t, ht⟩; exact ⟨t, ht.symm⟩
  · rintro ⟨b, hb⟩; exact ⟨b, hb.symm⟩
theorem hasS_false {s m : List UInt8} (h : hasS s m = false) : ¬ hasI m s := by
  rintro ⟨a, b, rfl⟩
  unfold hasS at h
  rcases Lib.index_spec (a ++ m ++ b) m with ⟨_, h2⟩ | ⟨i, h2, _⟩
  · have := h2 a.length (by simp)
    rw [(occ_iff _ _ _).2 ⟨b, by rw [List.append_assoc, List.drop_left]⟩] at this
    cases this
  · rw [h2] at h
    simp at h
theorem hasS_true {s m : List UInt8} (h : hasS s m = true) : ∃ i b, Lib.index s m = (i : Nat) ∧ i ≤ s.length ∧ s.drop i = m ++ b := by
  unfold hasS at h
  rcases Lib.index_spec s m with ⟨h1, _⟩ | ⟨i, h2, h3, h4, _⟩
  · rw [h1] at h; simp at h
  · obtain ⟨b, hb⟩ := (occ_iff _ _ _).1 h4
    exact ⟨i, b, h2, h3, hb⟩
theorem hasS_of {s m : List UInt8} (h : hasI m s) : hasS s m = true := by
  cases hs : hasS s m with
  | true => rfl
  | false => exact absurd h (hasS_false hs)
theorem hasI_left {m s t : List UInt8} (h : hasI m s) : hasI m (s ++ t) := by
  obtain ⟨a, b, rfl⟩ := h
  exact ⟨a, b ++ t, by simp⟩
theorem hasI_right {m s t : List UInt8} (h : hasI m t) : hasI m (s ++ t) := by
  obtain ⟨a, b, rfl⟩ := h
  exact ⟨s ++ a, b, by simp⟩
/-- A byte that isn't in what is looked for parts the text. -/
theorem hasI_split {m x y : List UInt8} {c : UInt8} (hc : c ∉ m) (h : hasI m (x ++ c :: y)) : hasI m x ∨ hasI m y := by
  obtain ⟨a, b, e⟩ := h
  rw [List.append_assoc] at e
  rcases List.append_eq_append_iff.1 e with ⟨z, h1, h2⟩ | ⟨z, h1, h2⟩
  · -- a = x ++ z, c :: y = z ++ (m ++ b)
    cases z with
    | nil =>
      cases m with
      | nil => exact .inl ⟨x, [], by simp⟩
      | cons d m => simp at h2; exact absurd h2.1 (fun e => hc (by simp [e]))
    | cons d z =>
      simp at h2
      exact .inr ⟨z, b, by rw [h2.2]; simp⟩
  · -- x = a ++ z, m ++ b = z ++ c :: y
    rcases List.append_eq_append_iff.1 h2 with ⟨u, h3, h4⟩ | ⟨u, h3, h4⟩
    · -- z = m ++ u
      exact .inl ⟨a, u, by rw [h1, h3]; simp⟩
    · -- m = z ++ u, c :: y = u ++ b
      cases u with
      | nil => exact .inl ⟨a, [], by rw [h1]; simp at h3; simp [h3]⟩
      | cons d u => simp at h4; exact absurd h4.1 (fun e => hc (by rw [h3]; simp [e]))

/-! ### Numerals -/
theorem dig_big {u : Nat} (h : ¬ u < 10) : Lib.decDigits u = Lib.decDigits (u / 10) ++ [UInt8.ofNat (48 + u % 10)] := by rw [Lib.decDigits, dif_neg h]
theorem ofNat8_inj {a b : Nat} (ha : a < 256) (hb : b < 256) (h : UInt8.ofNat a = UInt8.ofNat b) : a = b := by
  have := congrArg UInt8.toNat h
  simpa [Nat.mod_eq_of_lt ha, Nat.mod_eq_of_lt hb] using this
theorem dig_inj : ∀ (k u v : Nat), u ≤ k → Lib.decDigits u = Lib.decDigits v → u = v := by
  intro k
  induction k with
  | zero =>
    intro u v hu h
    obtain rfl : u = 0 := by omega
    by_cases hv : v < 10
    · rw [Lib.decDigits_one (by omega), Lib.decDigits_one hv] at h
      simp only [List.cons.injEq, and_true] at h
      have := ofNat8_inj (by omega) (by omega) h
      omega
    · have hl := congrArg List.length h
      rw [Lib.decDigits_length, Lib.decDigits_length, Lib.nDigits_small (by omega), Lib.nDigits_big hv] at hl
      have := Lib.nDigits_pos (v / 10)
      omega
  | succ k ih =>
    intro u v hu h
    by_cases h1 : u < 10
    · by_cases hv : v < 10
      · rw [Lib.decDigits_one h1, Lib.decDigits_one hv] at h
        simp only [List.cons.injEq, and_true] at h
        have := ofNat8_inj (by omega) (by omega) h
        omega
      · have hl := congrArg List.length h
        rw [Lib.decDigits_length, Lib.decDigits_length, Lib.nDigits_small (by omega), Lib.nDigits_big hv] at hl
        have := Lib.nDigits_pos (v / 10)
        omega
    · by_cases hv : v < 10
      · have hl := congrArg List.length h
        rw [Lib.decDigits_length, Lib.decDigits_length, Lib.nDigits_small hv, Lib.nDigits_big h1] at hl
        have := Lib.nDigits_pos (u / 10)
        omega
      · rw [dig_big h1, dig_big hv] at h
        have h2 := List.append_inj' h rfl
        have h3 := ih (u / 10) (v / 10) (by omega) h2.1
        have h4 := h2.2
        simp only [List.cons.injEq, and_true] at h4
        have := ofNat8_inj (by omega) (by omega) h4
        omega
theorem dig_mem : ∀ (k u : Nat), u ≤ k → ∀ b ∈ Lib.decDigits u, 48 ≤ b.toNat ∧ b.toNat ≤ 57 := by
  intro k
  induction k with
  | zero =>
    intro u hu b hb
    rw [Lib.decDigits_one (by omega)] at hb
    simp at hb
    subst hb
    obtain rfl : u = 0 := by omega
    decide
  | succ k ih =>
    intro u hu b hb
    by_cases h1 : u < 10
    · rw [Lib.decDigits_one h1] at hb
      simp only [List.mem_cons, List.not_mem_nil, or_false] at hb
      subst hb
      rw [UInt8.toNat_ofNat', Nat.mod_eq_of_lt (by omega)]
      omega
    · rw [dig_big h1] at hb
      rcases List.mem_append.1 hb with hb | hb
      · exact ih _ (by omega) b hb
      · simp only [List.mem_cons, List.not_mem_nil, or_false] at hb
        subst hb
        rw [UInt8.toNat_ofNat', Nat.mod_eq_of_lt (by omega)]
        omega
theorem dig_ne (u : Nat) : Lib.decDigits u ≠ [] := by
  intro e
  have := congrArg List.length e
  rw [Lib.decDigits_length] at this
  have := Lib.nDigits_pos u
  simp at *
  omega
theorem nDig_le : ∀ (k u : Nat), u < 10 ^ (k + 1) → Lib.nDigits u ≤ k + 1 := by
  intro k
  induction k with
  | zero => intro u h; rw [Lib.nDigits_small (by simpa using h)]; omega
  | succ k ih =>
    intro u h
    by_cases h1 : u < 10
    · rw [Lib.nDigits_small h1]; omega
    · rw [Lib.nDigits_big h1]
      have := ih (u / 10) (by rw [Nat.pow_succ] at h; omega)
      omega

/-! ### There is a mark that isn't in a text -/
theorem pigeon : ∀ (k : Nat) (l : List Nat), l.Nodup → (∀ x ∈ l, x < k) → l.length ≤ k
  | 0, l, _, h => by
    cases l with
    | nil => simp
    | cons x r => exact absurd (h x (by simp)) (by omega)
  | k + 1, l, hn, h => by
    have h1 := pigeon k (l.erase k) (hn.erase k) (fun x hx => by
      have h2 := (hn.mem_erase_iff).1 hx
      have := h x h2.2
      have := h2.1
      omega)
    have h2 := List.length_erase (a := k) (l := l)
    split at h2 <;> omega
theorem mark_eq (n : Nat) : markM n = 45 :: 45 :: bordM n := rfl
theorem mark_len (n : Nat) : (markM n).length = Lib.nDigits n + 4 := by
  unfold markM
  rw [List.length_append, Lib.decDigits_length]
  simp
  omega
theorem marks_all (J : List UInt8) (N B : Nat) (hd : ∀ i, i < N → Lib.nDigits (B + i) = Lib.nDigits B) (h : ∀ i, i < N → hasS J (markM (B + i)) = true) : N ≤ J.length := by
  have hpos : ∀ i, i < N → (Lib.index J (markM (B + i))).toNat < J.length := by
    intro i hi
    obtain ⟨p, b, h1, h2, h3⟩ := hasS_true (h i hi)
    rw [h1, Int.toNat_natCast]
    have hl := congrArg List.length h3
    rw [List.length_drop, List.length_append, mark_len] at hl
    omega
  have hn : ((List.range N).map (fun i => (Lib.index J (markM (B + i))).toNat)).Nodup := by
    unfold List.Nodup
    rw [List.pairwise_map]
    refine List.Pairwise.imp_of_mem ?_ (List.pairwise_lt_range (n := N))
    intro i j hi hj hij e
    have hi := List.mem_range.1 hi
    have hj := List.mem_range.1 hj
    obtain ⟨p, b, h1, h2, h3⟩ := hasS_true (h i hi)
    obtain ⟨q, c, k1, k2, k3⟩ := hasS_true (h j hj)
    simp only [h1, k1, Int.toNat_natCast] at e
    subst e
    rw [h3] at k3
    have h4 := (List.append_inj k3 (by rw [mark_len, mark_len, hd i hi, hd j hj])).1
    unfold markM at h4
    have := dig_inj _ _ _ (Nat.le_refl _) (List.append_cancel_left h4)
    omega
  have := pigeon J.length _ hn (by
    intro x hx
    obtain ⟨i, hi, rfl⟩ := List.mem_map.1 hx
    exact hpos i (List.mem_range.1 hi))
  simpa using this
theorem mark_free (J : List UInt8) (hJ : J.length < 900000) : ∃ n, 100000 ≤ n ∧ n < 1000000 ∧ hasS J (markM n) = false := by
  refine Classical.byContradiction fun hno => ?_
  have := marks_all J 900000 100000 (fun i hi => by
    rw [Lib.nDigits_unique 5 (100000 + i) (by omega) (by omega), Lib.nDigits_unique 5 100000 (by omega) (by omega)]) (fun i hi => by
    cases hs : hasS J (markM (100000 + i)) with
    | true => rfl
    | false => exact absurd ⟨_, by omega, by omega, hs⟩ hno)
  omega
theorem bordF_spec (J : List UInt8) (n0 : Nat) (h0 : hasS J (markM n0) = false) : ∀ (f n : Nat), n ≤ n0 → n0 - n < f → n ≤ bordF J f n ∧ bordF J f n ≤ n0 ∧ hasS J (markM (bordF J f n)) = false ∧ ∀ m, n ≤ m → m < bordF J f n → hasS J (markM m) = true
  | 0, n, _, h => absurd h (by omega)
  | f + 1, n, hn, hf => by
    rw [bordF]
    cases hs : hasS J (markM n) with
    | false =>
      rw [if_neg (by simp)]
      exact ⟨by omega, hn, hs, fun m h1 h2 => absurd h2 (by omega)⟩
    | true =>
      rw [if_pos rfl]
      have hne : n ≠ n0 := fun e => by rw [e, h0] at hs; cases hs
      obtain ⟨h1, h2, h3, h4⟩ := bordF_spec J n0 h0 f (n + 1) (by omega) (by omega)
      refine ⟨by omega, h2, h3, fun m k1 k2 => ?_⟩
      by_cases hm : m = n
      · rw [hm]; exact hs
      · exact h4 m (by omega) k2
theorem bordN_spec (J : List UInt8) (hJ : J.length < 900000) : 1 ≤ bordN J ∧ bordN J < 1000000 ∧ hasS J (markM (bordN J)) = false ∧ ∀ m, 1 ≤ m → m < bordN J → hasS J (markM m) = true := by
  obtain ⟨n, h1, h2, h3⟩ := mark_free J hJ
  unfold bordN
  have := bordF_spec J n h3 2000000 1 (by omega) (by omega)
  exact ⟨this.1, by omega, this.2.2⟩
theorem bordF_le (J : List UInt8) : ∀ (f n : Nat), bordF J f n ≤ n + f
  | 0, n => by rw [bordF]; omega
  | f + 1, n => by
    rw [bordF]
    split
    · have := bordF_le J f (n + 1); omega
    · omega
theorem bord_len (J : List UInt8) : (bordM (bordN J)).length ≤ 9 := by
  have h1 : bordN J ≤ 1 + 2000000 := by unfold bordN; exact bordF_le J 2000000 1
  have := nDig_le 6 (bordN J) (by omega)
  unfold bordM
  rw [List.length_append, Lib.decDigits_length]
  simp
  omega
theorem bord_mem (n : Nat) : ∀ b ∈ bordM n, b = 61 ∨ b = 95 ∨ (48 ≤ b.toNat ∧ b.toNat ≤ 57) := by
  intro b hb
  unfold bordM at hb
  rcases List.mem_append.1 hb with hb | hb
  · simp at hb
    rcases hb with rfl | rfl
    · exact .inl rfl
    · exact .inr (.inl rfl)
  · exact .inr (.inr (dig_mem n n (Nat.le_refl _) b hb))
theorem bord_last (n : Nat) : ∀ x, (bordM n).getLast? = some x → 48 ≤ x.toNat ∧ x.toNat ≤ 57 := by
  intro x hx
  unfold bordM at hx
  rw [last_append _ _ (dig_ne n)] at hx
  exact dig_mem n n (Nat.le_refl _) x (List.mem_of_getLast? hx)
end Go.Proofs.YtlbdnohnngkapaaGreatDoor

namespace Go.Proofs.YtlbdnohnngkapaaGreatDoor
open Go.RowKit

/-! ### The fields of a part -/
theorem typ_parts {t : List UInt8} (h : typB t = true) : t ≠ [] ∧ t.length ≤ 61 ∧ (∀ b ∈ t, 32 < b.toNat ∧ b.toNat ≤ 126 ∧ b ≠ 59) ∧ lowL t = t := by
  unfold typB at h
  simp only [Bool.and_eq_true, Bool.not_eq_true'] at h
  obtain ⟨⟨⟨h1, h2⟩, h3⟩, h4⟩ := h
  have e := cut_backT t 47 h1
  obtain ⟨_, l1, m1⟩ := tok_mem h2
  obtain ⟨_, l2, m2⟩ := tok_mem h3
  have hl := congrArg List.length e
  rw [List.length_append, List.length_cons] at hl
  refine ⟨fun e0 => ?_, by omega, fun b hb => ?_, ?_⟩
  · rw [e0] at hl; simp at hl
  · rw [e, List.mem_append, List.mem_cons] at hb
    rcases hb with hb | rfl | hb
    · obtain ⟨a, b, c⟩ := m1 _ hb
      exact ⟨a, b, fun e => c (by rw [e]; decide)⟩
    · decide
    · obtain ⟨a, b, c⟩ := m2 _ hb
      exact ⟨a, b, fun e => c (by rw [e]; decide)⟩
  · unfold lowL
    conv => rhs; rw [← List.map_id t]
    refine List.map_congr_left fun b hb => ?_
    have := List.any_eq_false.1 h4 b hb
    unfold upR at this
    simp only [Bool.and_eq_true, decide_eq_true_eq, not_and] at this
    unfold lowB
    rw [if_neg]
    · rfl
    · rintro ⟨k1, k2⟩
      have k1 := UInt8.le_iff_toNat_le.1 k1
      have k2 := UInt8.le_iff_toNat_le.1 k2
      exact this k1 k2
theorem wordP_mem {s : List UInt8} (h : wordB s = true) : s.length ≤ 120 ∧ ∀ b ∈ s, 32 < b.toNat ∧ b.toNat ≤ 126 := by
  unfold wordB at h
  simp only [Bool.and_eq_true, Bool.not_eq_true', decide_eq_true_eq] at h
  refine ⟨h.1, fun b hb => ?_⟩
  have := List.any_eq_false.1 h.2 b hb
  unfold badWord at this
  simp only [Bool.or_eq_true, decide_eq_true_eq, not_or] at this
  omega
theorem val_of {s : List UInt8} (h1 : s.length ≤ 900) (h2 : ∀ b ∈ s, 32 ≤ b.toNat ∧ b.toNat ≤ 126) (h3 : ∀ x, s.head? = some x → x ≠ 32) (h4 : ∀ x, s.getLast? = some x → x ≠ 32) : valB s = true := by
  unfold valB
  have h := trim_pad [] s [] [32] (by simp) (by simp) (fun x hx => by simp [h3 x hx]) (fun x hx => by simp [h4 x hx])
  rw [List.nil_append, List.append_nil] at h
  rw [h]
  simp only [Bool.and_eq_true, decide_eq_true_eq, beq_self_eq_true, Bool.not_eq_true', and_true]
  refine ⟨h1, List.any_eq_false.2 fun b hb => ?_⟩
  have := h2 b hb
  unfold badVal
  simp
  omega
theorem val_word {s : List UInt8} (h1 : s.length ≤ 900) (h2 : ∀ b ∈ s, 32 < b.toNat ∧ b.toNat ≤ 126) : valB s = true := by
  refine val_of h1 (fun b hb => ⟨by have := h2 b hb; omega, (h2 b hb).2⟩) (fun x hx e => ?_) (fun x hx e => ?_)
  · have := (h2 x (List.mem_of_mem_head? (by rw [hx]; rfl))).1
    rw [e] at this
    exact absurd this (by decide)
  · have := (h2 x (List.mem_of_getLast? hx)).1
    rw [e] at this
    exact absurd this (by decide)
/-- What a border may be. -/
def bordOk (b : List UInt8) : Prop := b ≠ [] ∧ b.length ≤ 60 ∧ (∀ x ∈ b, 32 < x.toNat ∧ x.toNat ≤ 126 ∧ x ≠ 34) 
theorem bordM_ok (J : List UInt8) : bordOk (bordM (bordN J)) := by
  refine ⟨fun e => ?_, by have := bord_len J; omega, fun x hx => ?_⟩
  · unfold bordM at e; simp at e
  · rcases bord_mem _ x hx with rfl | rfl | h
    · decide
    · decide
    · exact ⟨by omega, by omega, fun e => by rw [e] at h; exact absurd h (by decide)⟩
/-- The three shapes of a type's value. -/
theorem typeV_val {t cs b : List UInt8} (ht : typB t = true) (hcs : cs = [] ∨ tokB cs = true) (hb : b = [] ∨ bordOk b) : valB (typeV t cs b) = true := by
  obtain ⟨t0, t1, t2, _⟩ := typ_parts ht
  have c1 : cs.length ≤ 30 ∧ ∀ x ∈ cs, 32 < x.toNat ∧ x.toNat ≤ 126 := by
    rcases hcs with rfl | h
    · simp
    · obtain ⟨_, h1, h2⟩ := tok_mem h
      exact ⟨h1, fun x hx => ⟨(h2 x hx).1, (h2 x hx).2.1⟩⟩
  have b1 : b.length ≤ 60 ∧ ∀ x ∈ b, 32 < x.toNat ∧ x.toNat ≤ 126 := by
    rcases hb with rfl | h
    · simp
    · exact ⟨h.2.1, fun x hx => ⟨(h.2.2 x hx).1, (h.2.2 x hx).2.1⟩⟩
  have c2 : ∀ x ∈ csS, 32 ≤ x.toNat ∧ x.toNat ≤ 126 := by decide
  have b2 : ∀ x ∈ bdS, 32 ≤ x.toNat ∧ x.toNat ≤ 126 := by decide
  have hlen : (typeV t cs b).length ≤ 900 := by
    unfold typeV
    simp only [List.length_append]
    have : (if cs = [] then [] else csS ++ cs).length ≤ 40 := by
      split
      · simp
      · rw [List.length_append, show csS.length = 10 from rfl]; omega
    have : (if b = [] then [] else bdS ++ b ++ [34]).length ≤ 80 := by
      split
      · simp
      · rw [List.length_append, List.length_append, show bdS.length = 12 from rfl]; simp; omega
    omega
  refine val_of hlen (fun x hx => ?_) (fun x hx e => ?_) (fun x hx e => ?_)
  · unfold typeV at hx
    simp only [List.mem_append] at hx
    rcases hx with (hx | hx) | hx
    · have := t2 x hx; omega
    · split at hx
      · simp at hx
      · rcases List.mem_append.1 hx with hx | hx
        · exact c2 x hx
        · have := c1.2 x hx; omega
    · split at hx
      · simp at hx
      · rcases List.mem_append.1 hx with hx | hx
        · rcases List.mem_append.1 hx with hx | hx
          · exact b2 x hx
          · have := b1.2 x hx; omega
        · simp at hx; subst hx; decide
  · unfold typeV at hx
    cases t with
    | nil => exact t0 rfl
    | cons y r =>
      simp only [List.cons_append, List.head?_cons, Option.some.injEq] at hx
      have := (t2 y (by simp)).1
      rw [hx, e] at this
      exact absurd this (by decide)
  · unfold typeV at hx
    have h3 : x ∈ t ∨ x ∈ cs ∨ x = 34 := by
      by_cases hb0 : b = []
      · rw [if_pos hb0, List.append_nil] at hx
        by_cases hc0 : cs = []
        · rw [if_pos hc0, List.append_nil] at hx
          exact .inl (List.mem_of_getLast? hx)
        · rw [if_neg hc0, ← List.append_assoc, last_append _ _ hc0] at hx
          exact .inr (.inl (List.mem_of_getLast? hx))
      · rw [if_neg hb0, last_append _ _ (by simp), last_append _ _ (by simp)] at hx
        simp at hx
        exact .inr (.inr hx.symm)
    rcases h3 with h | h | h
    · have := (t2 x h).1; rw [e] at this; exact absurd this (by decide)
    · have := (c1.2 x h).1; rw [e] at this; exact absurd this (by decide)
    · rw [e] at h; exact absurd h (by decide)
theorem how_val (how : Int) : valB (howS how) = true := by
  unfold howS
  split
  · decide +kernel
  · split
    · decide +kernel
    · decide +kernel
theorem fields_chk {t cs id loc b : List UInt8} {how : Int} (ht : typB t = true) (hcs : cs = [] ∨ tokB cs = true) (hid : wordB id = true) (hloc : wordB loc = true) (hb : b = [] ∨ bordOk b) : chkF (fieldsM t cs id loc how b) = 0 := by
  have h1 := typeV_val ht hcs hb
  obtain ⟨i1, i2⟩ := wordP_mem hid
  obtain ⟨l1, l2⟩ := wordP_mem hloc
  have hi : valB ([60] ++ id ++ [62]) = true := val_word (by simp; omega) (fun x hx => by
    simp only [List.mem_append, List.mem_cons, List.not_mem_nil, or_false] at hx
    rcases hx with (rfl | hx) | rfl
    · decide
    · exact i2 x hx
    · decide)
  have hl := val_word (by omega : loc.length ≤ 900) l2
  have n1 : tokB ctN = true := by decide +kernel
  have n2 : tokB idN = true := by decide +kernel
  have n3 : tokB locN = true := by decide +kernel
  have n4 : tokB cteN = true := by decide +kernel
  have hh := how_val how
  unfold chkF fieldsM
  rw [if_neg (by
    simp only [List.length_append]
    have : (if id = [] then [] else [FieldD.mk idN ([60] ++ id ++ [62])]).length ≤ 1 := by split <;> simp
    have : (if loc = [] then [] else [FieldD.mk locN loc]).length ≤ 1 := by split <;> simp
    have : (if b = [] then [FieldD.mk cteN (howS how)] else []).length ≤ 1 := by split <;> simp
    simp only [List.length_cons, List.length_nil]
    omega), if_pos]
  rw [List.all_eq_true]
  intro f hf
  unfold okF
  simp only [List.mem_append, List.mem_cons, List.not_mem_nil, or_false] at hf
  rcases hf with ((rfl | hf) | hf) | hf
  · rw [n1, h1]; rfl
  · split at hf
    · simp at hf
    · simp at hf; subst hf; simp only [List.cons_append, List.nil_append] at hi; rw [n2, hi]; rfl
  · split at hf
    · simp at hf
    · simp at hf; subst hf; rw [n3, hl]; rfl
  · split at hf
    · simp at hf; subst hf; rw [n4, hh]; rfl
    · simp at hf
theorem fold_self (n : List UInt8) : Lib.equalFold n n = true := (fold_iff n n).2 rfl
theorem nf : Lib.equalFold ctN idN = false ∧ Lib.equalFold ctN locN = false ∧ Lib.equalFold ctN cteN = false ∧ Lib.equalFold idN locN = false ∧ Lib.equalFold idN cteN = false ∧ Lib.equalFold locN cteN = false := by decide +kernel
theorem get_ct (t cs id loc b : List UInt8) (how : Int) : getF (fieldsM t cs id loc how b) ctN = typeV t cs b := by
  unfold fieldsM
  simp only [List.append_assoc, List.cons_append, List.nil_append, getF]
  rw [if_pos (fold_self ctN)]
theorem get_id (t cs id loc b : List UInt8) (how : Int) : getF (fieldsM t cs id loc how b) idN = if id = [] then [] else [60] ++ id ++ [62] := by
  obtain ⟨n1, n2, n3, n4, n5, n6⟩ := nf
  have m4 : Lib.equalFold locN idN = false := by decide +kernel
  have m5 : Lib.equalFold cteN idN = false := by decide +kernel
  have sid := fold_self idN
  unfold fieldsM
  by_cases h1 : id = [] <;> by_cases h2 : loc = [] <;> by_cases h3 : b = [] <;> simp [h1, h2, h3, getF, n1, m4, m5, sid]
theorem get_loc (t cs id loc b : List UInt8) (how : Int) : getF (fieldsM t cs id loc how b) locN = loc := by
  obtain ⟨n1, n2, n3, n4, n5, n6⟩ := nf
  have m4 : Lib.equalFold cteN locN = false := by decide +kernel
  have sid := fold_self locN
  unfold fieldsM
  by_cases h1 : id = [] <;> by_cases h2 : loc = [] <;> by_cases h3 : b = [] <;> simp [h1, h2, h3, getF, n2, n4, m4, sid]
theorem get_cte (t cs id loc : List UInt8) (how : Int) : getF (fieldsM t cs id loc how []) cteN = howS how := by
  obtain ⟨n1, n2, n3, n4, n5, n6⟩ := nf
  have sid := fold_self cteN
  unfold fieldsM
  by_cases h1 : id = [] <;> by_cases h2 : loc = [] <;> simp [h1, h2, getF, n3, n5, n6, sid]
theorem id_back (id : List UInt8) : idM (if id = [] then [] else [60] ++ id ++ [62]) = id := by
  by_cases h : id = []
  · rw [if_pos h, h]; rfl
  · rw [if_neg h]
    unfold idM
    have h1 : Lib.hasPrefix ([60] ++ id ++ [62]) [60] = true := by unfold Lib.hasPrefix; rw [List.isPrefixOf_iff_prefix]; exact ⟨id ++ [62], by simp⟩
    have h2 : Lib.hasSuffix ([60] ++ id ++ [62]) [62] = true := by unfold Lib.hasSuffix; rw [List.isSuffixOf_iff_suffix]; exact ⟨[60] ++ id, rfl⟩
    rw [h1, h2]
    simp
theorem lowL_self {s : List UInt8} (h : ∀ b ∈ s, b.toNat < 65 ∨ 90 < b.toNat) : lowL s = s := by
  unfold lowL
  conv => rhs; rw [← List.map_id s]
  refine List.map_congr_left fun b hb => ?_
  unfold lowB
  rw [if_neg]
  · rfl
  · rintro ⟨k1, k2⟩
    have k1 : 65 ≤ b.toNat := UInt8.le_iff_toNat_le.1 k1
    have k2 : b.toNat ≤ 90 := UInt8.le_iff_toNat_le.1 k2
    have := h b hb
    omega
theorem trimS_self {s : List UInt8} (h : ∀ b ∈ s, b ≠ 32) : Lib.trimS s [32] = s := by
  have := trim_pad [] s [] [32] (by simp) (by simp) (fun x hx => by simp [h x (List.mem_of_mem_head? (by rw [hx]; rfl))]) (fun x hx => by simp [h x (List.mem_of_getLast? hx)])
  rwa [List.nil_append, List.append_nil] at this
theorem trimL_self {s : List UInt8} (h : ∀ b ∈ s, b ≠ 32) : Lib.trimLeftS s [32] = s := by
  have := trimL_pad [] s [32] (by simp) (fun x hx => by simp [h x (List.mem_of_mem_head? (by rw [hx]; rfl))])
  rwa [List.nil_append] at this
theorem trimR_self {s : List UInt8} (h : ∀ b ∈ s, b ≠ 32) : Lib.trimRightS s [32] = s := by
  have := trimR_pad s [] [32] (by simp) (fun x hx => by simp [h x (List.mem_of_getLast? hx)])
  rwa [List.append_nil] at this
def charsetN : List UInt8 := [99, 104, 97, 114, 115, 101, 116]
def boundN : List UInt8 := [98, 111, 117, 110, 100, 97, 114, 121]
theorem ne32 {s : List UInt8} (h : ∀ b ∈ s, 32 < b.toNat) : ∀ b ∈ s, b ≠ 32 := fun b hb e => by
  have := h b hb
  rw [e] at this
  exact absurd this (by decide)
theorem params_none {t : List UInt8} (ht : typB t = true) : paramsF (typeV t [] []) = (t, [], 0) := by
  have hv := typeV_val ht (.inl rfl) (.inl rfl)
  obtain ⟨t0, t1, t2, t3⟩ := typ_parts ht
  unfold paramsF
  rw [hv, if_neg (by simp)]
  have e : typeV t [] [] = t := by unfold typeV; simp
  rw [e, cut_not t 59 (fun b hb => (t2 b hb).2.2)]
  simp only
  rw [show t.length + 2 = (t.length + 1) + 1 from rfl, loopP, if_pos rfl]
  simp only [if_true]
  rw [trimS_self (ne32 fun b hb => (t2 b hb).1), t3]
theorem params_cs {t cs : List UInt8} (ht : typB t = true) (hcs : tokB cs = true) : paramsF (typeV t cs []) = (t, [⟨charsetN, cs⟩], 0) := by
  have hv := typeV_val ht (.inr hcs) (.inl rfl)
  obtain ⟨t0, t1, t2, t3⟩ := typ_parts ht
  obtain ⟨c0, c1, c2⟩ := tok_mem hcs
  unfold paramsF
  rw [hv, if_neg (by simp)]
  have e : typeV t cs [] = t ++ 59 :: (32 :: charsetN ++ 61 :: cs) := by unfold typeV csS charsetN; simp [c0]
  have hname : ∀ b ∈ charsetN, b ≠ 61 := by decide
  have e3 : Lib.trimLeftS (32 :: charsetN ++ 61 :: cs) [32] = charsetN ++ 61 :: cs := by
    have := trimL_pad [32] (charsetN ++ 61 :: cs) [32] (by simp) (fun x hx => by unfold charsetN at hx; simp at hx; subst hx; decide)
    simpa using this
  have e4 : Lib.trimS charsetN [32] = charsetN := by decide +kernel
  have e5 : tokB charsetN = true := by decide +kernel
  have e6 : Lib.trimLeftS cs [32] = cs := trimL_self (ne32 fun b hb => (c2 b hb).1)
  have e7 : Lib.hasPrefix cs [34] = false := by
    unfold Lib.hasPrefix
    cases cs with
    | nil => rfl
    | cons y r =>
      have : y ≠ 34 := fun e => (c2 y (by simp)).2.2 (by rw [e]; decide)
      simp [List.isPrefixOf, Ne.symm this]
  have e8 := cut_not cs 59 (fun b hb e => (c2 b hb).2.2 (by rw [e]; decide))
  have e9 : Lib.trimRightS cs [32] = cs := trimR_self (ne32 fun b hb => (c2 b hb).1)
  have e10 : lowL charsetN = charsetN := by decide +kernel
  have hL : ∀ n, loopP (n + 2) (32 :: charsetN ++ 61 :: cs) true [] = ([⟨charsetN, cs⟩], 0) := by
    intro n
    rw [loopP, if_neg (by simp), e3, cut_app charsetN cs 61 hname]
    simp only
    rw [e4, e5, if_neg (by simp), e6, e7, if_neg (by simp), e8]
    simp only
    rw [e9, hcs, if_neg (by simp), if_neg (by simp), e10, loopP, if_pos rfl]
    rfl
  rw [e, cut_app t _ 59 (fun b hb => (t2 b hb).2.2)]
  simp only
  rw [hL]
  simp only [if_true]
  rw [trimS_self (ne32 fun b hb => (t2 b hb).1), t3]
theorem params_bd {t b : List UInt8} (ht : typB t = true) (hb : bordOk b) : paramsF (typeV t [] b) = (t, [⟨boundN, b⟩], 0) := by
  have hv := typeV_val ht (.inl rfl) (.inr hb)
  obtain ⟨t0, t1, t2, t3⟩ := typ_parts ht
  obtain ⟨b0, b1, b2⟩ := hb
  unfold paramsF
  rw [hv, if_neg (by simp)]
  have e : typeV t [] b = t ++ 59 :: (32 :: boundN ++ 61 :: (34 :: (b ++ 34 :: []))) := by unfold typeV bdS boundN; simp [b0]
  have hname : ∀ x ∈ boundN, x ≠ 61 := by decide
  have e3 : Lib.trimLeftS (32 :: boundN ++ 61 :: (34 :: (b ++ 34 :: []))) [32] = boundN ++ 61 :: (34 :: (b ++ 34 :: [])) := by
    have := trimL_pad [32] (boundN ++ 61 :: (34 :: (b ++ 34 :: []))) [32] (by simp) (fun x hx => by unfold boundN at hx; simp at hx; subst hx; decide)
    simpa using this
  have e4 : Lib.trimS boundN [32] = boundN := by decide +kernel
  have e5 : tokB boundN = true := by decide +kernel
  have e6 : Lib.trimLeftS (34 :: (b ++ 34 :: [])) [32] = 34 :: (b ++ 34 :: []) := by
    have := trimL_pad [] (34 :: (b ++ 34 :: [])) [32] (by simp) (fun x hx => by simp at hx; subst hx; decide)
    simpa using this
  have e7 : Lib.hasPrefix (34 :: (b ++ 34 :: [])) [34] = true := by unfold Lib.hasPrefix; rw [List.isPrefixOf_iff_prefix]; exact ⟨b ++ [34], rfl⟩
  have e8 := cut_app b [] 34 (fun x hx => (b2 x hx).2.2)
  have e9 : Lib.cut ([] : List UInt8) [59] = ([], [], false) := by decide +kernel
  have e10 : lowL boundN = boundN := by decide +kernel
  have e11 : Lib.trimS ([] : List UInt8) [32] = [] := by decide +kernel
  have hL : ∀ n, loopP (n + 2) (32 :: boundN ++ 61 :: (34 :: (b ++ 34 :: []))) true [] = ([⟨boundN, b⟩], 0) := by
    intro n
    rw [loopP, if_neg (by simp), e3, cut_app boundN _ 61 hname]
    simp only
    rw [e4, e5, if_neg (by simp), e6, e7, if_pos rfl]
    rw [show (34 :: (b ++ 34 :: [])).drop 1 = b ++ 34 :: [] from rfl, e8]
    simp only
    rw [if_neg (by simp), e9]
    simp only
    rw [e11, if_neg (by simp), if_neg (by simp), e10, loopP, if_pos rfl]
    rfl
  rw [e, cut_app t _ 59 (fun x hx => (t2 x hx).2.2)]
  simp only
  rw [hL]
  simp only [if_true]
  rw [trimS_self (ne32 fun x hx => (t2 x hx).1), t3]
theorem get_one (n v : List UInt8) : getF [⟨n, v⟩] n = v := by rw [getF, if_pos (fold_self n)]
theorem body_back (how : Int) (body : List UInt8) (h0 : 0 ≤ how) (h2 : how ≤ 2) (hb : body.length ≤ 4000) : bodyM (howS how) (encM how body) = (how, body, 0) := by
  have e8 : lowL ([56, 98, 105, 116]) = [56, 98, 105, 116] := by decide +kernel
  have e6 : lowL ([98, 97, 115, 101, 54, 52]) = [98, 97, 115, 101, 54, 52] := by decide +kernel
  have eq : lowL ([113, 117, 111, 116, 101, 100, 45, 112, 114, 105, 110, 116, 97, 98, 108, 101]) = [113, 117, 111, 116, 101, 100, 45, 112, 114, 105, 110, 116, 97, 98, 108, 101] := by decide +kernel
  rcases (by omega : how = 0 ∨ how = 1 ∨ how = 2) with rfl | rfl | rfl
  · unfold bodyM howS encM
    simp only [show ¬ ((0 : Int) = 1) from by decide, show ¬ ((0 : Int) = 2) from by decide, if_false]
    rw [e8, if_pos (by decide), if_neg (by omega)]
  · unfold bodyM howS encM
    simp only [if_true]
    rw [e6, if_neg (by decide), if_pos rfl, read_enc body hb]
  · unfold bodyM howS encM
    simp only [show ¬ ((2 : Int) = 1) from by decide, if_false, if_true]
    rw [eq, if_neg (by decide), if_neg (by decide), if_pos rfl, readQ_enc body hb]
end Go.Proofs.YtlbdnohnngkapaaGreatDoor

namespace Go.Proofs.YtlbdnohnngkapaaGreatDoor
open Go.RowKit

/-! ### What stands between borders -/
def dash (border : List UInt8) : List UInt8 := [45, 45] ++ border
/-- A border, as Split looks for it. -/
def bord2 (border : List UInt8) : Prop := (∀ b ∈ border, 32 < b.toNat)
theorem line_app {x y : List UInt8} (h : ∀ b ∈ x, b ≠ 10) : lineM (x ++ 10 :: y) = (x ++ [10], y) := by
  have hi : Lib.indexByte (x ++ 10 :: y) 10 = (x.length : Nat) := by
    rw [indexByte_tw, if_pos (by simp)]
    congr 1
    rw [List.takeWhile_append_of_pos (fun b hb => by simpa using h b hb)]
    simp
  unfold lineM
  rw [hi, if_neg (by omega), Int.toNat_natCast]
  have e : x ++ 10 :: y = (x ++ [10]) ++ y := by simp
  rw [e, List.take_left' (by simp), List.drop_left' (by simp)]
theorem line_len {b : List UInt8} (h : b ≠ []) : (lineM b).2.length < b.length ∧ (lineM b).1 ++ (lineM b).2 = b := by
  unfold lineM
  split
  · exact ⟨by simp [List.length_pos_iff, h], by simp⟩
  · rename_i h1
    have := indexByte_bd b 10
    exact ⟨by simp; omega, by simp⟩
theorem split_fuel (border : List UInt8) : ∀ (f g : Nat) (b : List UInt8) (cur : Option (List UInt8)) (out : List (List UInt8)), b.length < f → b.length < g → splitF border f b cur out = splitF border g b cur out
  | 0, _, _, _, _, h, _ => absurd h (by omega)
  | _, 0, _, _, _, _, h => absurd h (by omega)
  | f + 1, g + 1, b, cur, out, h1, h2 => by
    rw [splitF, splitF]
    by_cases hb : b = []
    · rw [if_pos hb, if_pos hb]
    · rw [if_neg hb, if_neg hb]
      have := (line_len hb).1
      rw [split_fuel border f g _ _ _ (by omega) (by omega), split_fuel border f g _ _ _ (by omega) (by omega)]
def isBo (border line : List UInt8) : Prop := bareM line = dash border ∨ bareM line = dash border ++ [45, 45]
theorem bare_pre (line : List UInt8) : ∃ z, line = bareM line ++ z := by
  unfold bareM Lib.trimRightS
  refine ⟨(line.reverse.takeWhile (([32, 9, 13, 10] : List UInt8).contains ·)).reverse, ?_⟩
  rw [← List.reverse_append, List.takeWhile_append_dropWhile, List.reverse_reverse]
theorem isBo_has {border line : List UInt8} (h : isBo border line) : hasI (dash border) line := by
  obtain ⟨z, hz⟩ := bare_pre line
  rcases h with h | h
  · exact ⟨[], z, by rw [List.nil_append, ← h]; exact hz⟩
  · exact ⟨[], [45, 45] ++ z, by rw [List.nil_append, ← List.append_assoc, ← h]; exact hz⟩
theorem not10 {border : List UInt8} (h : bord2 border) : (10 : UInt8) ∉ dash border := by
  intro hm
  unfold dash at hm
  simp at hm
  exact absurd (h 10 hm) (by decide)
theorem not13 {border : List UInt8} (h : bord2 border) : (13 : UInt8) ∉ dash border := by
  intro hm
  unfold dash at hm
  simp at hm
  exact absurd (h 13 hm) (by decide)
theorem dash_ne (border : List UInt8) : ¬ hasI (dash border) [] := by
  rintro ⟨a, b, e⟩
  unfold dash at e
  simp at e
theorem has_end {border k : List UInt8} (hb : bord2 border) (h : ¬ hasI (dash border) k) : ¬ hasI (dash border) (k ++ [13, 10]) := by
  intro h1
  rcases hasI_split (not13 hb) h1 with h1 | h1
  · exact h h1
  · rcases hasI_split (x := []) (not10 hb) h1 with h1 | h1
    · exact dash_ne _ h1
    · exact dash_ne _ h1
/-- Lines that are no border are taken as they are. -/
theorem split_lines (border : List UInt8) (_hb : bord2 border) : ∀ (n : Nat) (s rest : List UInt8) (f g : Nat) (cur : Option (List UInt8)) (out : List (List UInt8)), s.length ≤ n → (s = [] ∨ s.getLast? = some 10) → ¬ hasI (dash border) s → (s ++ rest).length < f → rest.length < g →
    splitF border f (s ++ rest) cur out = splitF border g rest (cur.map (· ++ s)) out := by
  intro n
  induction n with
  | zero =>
    intro s rest f g cur out hn _ _ hf hg
    obtain rfl : s = [] := List.eq_nil_of_length_eq_zero (by omega)
    rw [List.nil_append] at hf ⊢
    rw [split_fuel border f g rest cur out hf hg]
    cases cur <;> simp
  | succ n ih =>
    intro s rest f g cur out hn hl hs hf hg
    by_cases h0 : s = []
    · subst h0
      rw [List.nil_append] at hf ⊢
      rw [split_fuel border f g rest cur out hf hg]
      cases cur <;> simp
    · have h10 : (10 : UInt8) ∈ s := by
        rcases hl with h | h
        · exact absurd h h0
        · exact List.mem_of_getLast? h
      obtain ⟨x, y, rfl, hx⟩ := first_of s 10 h10
      obtain ⟨f, rfl⟩ : ∃ j, f = j + 1 := ⟨f - 1, by omega⟩
      have e : x ++ 10 :: y ++ rest = x ++ 10 :: (y ++ rest) := by simp
      have hx1 : ¬ hasI (dash border) (x ++ [10]) := fun h => hs (by
        have := hasI_left (t := y) h
        simpa using this)
      have n1 : bareM (x ++ [10]) ≠ dash border := fun h => hx1 (isBo_has (.inl h))
      have n2 : bareM (x ++ [10]) ≠ dash border ++ [45, 45] := fun h => hx1 (isBo_has (.inr h))
      unfold dash at n1 n2
      rw [e] at hf ⊢
      rw [splitF, if_neg (by simp), line_app hx]
      simp only
      rw [if_neg n1, if_neg n2]
      have hy : y = [] ∨ y.getLast? = some 10 := by
        cases y with
        | nil => exact .inl rfl
        | cons c r =>
          rcases hl with h | h
          · exact absurd h (by simp)
          · right
            rw [last_append _ _ (by simp)] at h
            simpa using h
      simp only [List.length_append, List.length_cons] at hn hf
      rw [ih y rest f g _ out (by omega) hy (fun h => hs (by
        have := hasI_right (s := x ++ [10]) h
        simpa using this)) (by rw [List.length_append]; omega) hg]
      cases cur <;> simp
theorem bare_end {m : List UInt8} (h : ∀ b ∈ m, 32 < b.toNat) : bareM (m ++ [13, 10]) = m := by
  unfold bareM
  refine trimR_pad m [13, 10] [32, 9, 13, 10] (by decide) (fun x hx => ?_)
  have := h x (List.mem_of_getLast? hx)
  simp only [List.contains_eq_mem, List.mem_cons, List.not_mem_nil, or_false, decide_eq_false_iff_not, not_or]
  refine ⟨?_, ?_, ?_, ?_⟩ <;> (intro e; rw [e] at this; exact absurd this (by decide))
theorem inner_end (k : List UInt8) : innerM (k ++ [13, 10]) = k := by
  have h1 : chopB (k ++ [13, 10]) 10 = k ++ [13] := by
    unfold chopB
    have : Lib.hasSuffix (k ++ [13, 10]) [10] = true := by unfold Lib.hasSuffix; rw [List.isSuffixOf_iff_suffix]; exact ⟨k ++ [13], by simp⟩
    rw [this, if_pos rfl]
    have e : k ++ [13, 10] = (k ++ [13]) ++ [10] := by simp
    rw [e, List.take_left' (by simp)]
  have h2 : chopB (k ++ [13]) 13 = k := by
    unfold chopB
    have : Lib.hasSuffix (k ++ [13]) [13] = true := by unfold Lib.hasSuffix; rw [List.isSuffixOf_iff_suffix]; exact ⟨k, rfl⟩
    rw [this, if_pos rfl, List.take_left' (by simp)]
  unfold innerM
  rw [h1, h2]
/-- What stands between borders is what was put there. -/
theorem split_wrap (border tail : List UInt8) (hb : bord2 border) : ∀ (l : List (List UInt8)) (f : Nat) (cur : Option (List UInt8)) (out : List (List UInt8)), (∀ k ∈ l, ¬ hasI (dash border) k) → (wrapM border l ++ tail).length < f →
    splitF border f (wrapM border l ++ tail) cur out = (openM cur out ++ l, 0) := by
  have hd : ∀ b ∈ dash border, 32 < b.toNat := by
    intro b hm
    unfold dash at hm
    simp at hm
    rcases hm with rfl | hm
    · decide
    · exact hb b hm
  have hd2 : ∀ b ∈ dash border ++ [45, 45], 32 < b.toNat := by
    intro b hm
    rcases List.mem_append.1 hm with hm | hm
    · exact hd b hm
    · simp at hm; subst hm; decide
  intro l
  induction l with
  | nil =>
    intro f cur out _ hf
    obtain ⟨f, rfl⟩ : ∃ j, f = j + 1 := ⟨f - 1, by omega⟩
    have e : wrapM border [] ++ tail = (dash border ++ [45, 45] ++ [13]) ++ 10 :: tail := by unfold wrapM dash; simp
    rw [e, splitF, if_neg (by simp), line_app (fun b hm e => by
      rcases List.mem_append.1 hm with hm | hm
      · have := hd2 b hm; rw [e] at this; exact absurd this (by decide)
      · simp at hm; rw [hm] at e; exact absurd e (by decide))]
    simp only
    have e2 : dash border ++ [45, 45] ++ [13] ++ [10] = (dash border ++ [45, 45]) ++ [13, 10] := by simp
    rw [e2, bare_end hd2]
    rw [if_neg (by unfold dash; simp), if_pos (by unfold dash; simp)]
    simp only [List.append_nil]
  | cons k l ih =>
    intro f cur out hk hf
    obtain ⟨f, rfl⟩ : ∃ j, f = j + 1 := ⟨f - 1, by omega⟩
    have e : wrapM border (k :: l) ++ tail = (dash border ++ [13]) ++ 10 :: ((k ++ [13, 10]) ++ (wrapM border l ++ tail)) := by rw [wrapM]; unfold dash; simp
    rw [e] at hf ⊢
    rw [splitF, if_neg (by simp), line_app (fun b hm e => by
      rcases List.mem_append.1 hm with hm | hm
      · have := hd b hm; rw [e] at this; exact absurd this (by decide)
      · simp at hm; rw [hm] at e; exact absurd e (by decide))]
    simp only
    have e2 : dash border ++ [13] ++ [10] = dash border ++ [13, 10] := by simp
    rw [e2, bare_end hd, if_pos (by unfold dash; simp)]
    rw [List.length_append, List.length_cons] at hf
    rw [split_lines border hb _ (k ++ [13, 10]) _ f ((wrapM border l ++ tail).length + 1) _ _ (Nat.le_refl _) (.inr (by rw [last_append _ _ (by simp)]; rfl)) (has_end hb (hk k (by simp))) (by omega) (by omega)]
    rw [ih _ _ _ (fun x hx => hk x (by simp [hx])) (by omega)]
    simp only [Option.map_some, openM, List.nil_append, inner_end]
    rw [List.append_assoc]
    rfl
theorem split_all {border : List UInt8} (hb : bordOk border) {l : List (List UInt8)} (ahead tail : List UInt8) (ha : ahead = [] ∨ ahead.getLast? = some 10) (hna : ¬ hasI (dash border) ahead) (hl : ∀ k ∈ l, ¬ hasI (dash border) k) (hlen : (ahead ++ (wrapM border l ++ tail)).length ≤ 40000) :
    splitM (ahead ++ (wrapM border l ++ tail)) border = (l, 0) := by
  have h2 : bord2 border := fun b hm => (hb.2.2 b hm).1
  have h60 := hb.2.1
  unfold splitM
  rw [if_neg (by omega), if_neg (by intro h; rcases h with h | h; exact hb.1 h; omega)]
  rw [split_lines border h2 _ ahead _ _ ((wrapM border l ++ tail).length + 1) _ _ (Nat.le_refl _) ha hna (by omega) (by omega), split_wrap border tail h2 l _ _ _ hl (by omega)]
  simp [openM]

/-! ### A bundle -/
theorem texts_map : ∀ ps : List PartD, textsM ps = ps.map textM
  | [] => by rw [textsM]; rfl
  | p :: ps => by rw [textsM, texts_map ps]; rfl
theorem text_leaf (p : PartD) (h : manyB p.type = false) : textM p = textF (fieldsM p.type p.cs p.id p.loc p.how []) ++ encM p.how p.body := by
  obtain ⟨t, cs, id, loc, how, body, parts⟩ := p
  rw [textM]
  simp only at h
  rw [h, if_neg (by simp)]
def bordP (p : PartD) : List UInt8 := bordM (bordN (nlJ (textsM p.parts)))
theorem text_many (p : PartD) (h : manyB p.type = true) : textM p = textF (fieldsM p.type p.cs p.id p.loc p.how (bordP p)) ++ wrapM (bordP p) (textsM p.parts) := by
  obtain ⟨t, cs, id, loc, how, body, parts⟩ := p
  rw [textM]
  simp only at h
  rw [h, if_pos rfl]
  rfl
theorem wrap_len (border : List UInt8) : ∀ l : List (List UInt8), (nlJ l).length ≤ (wrapM border l).length ∧ ∀ k ∈ l, k.length ≤ (wrapM border l).length
  | [] => ⟨by simp [nlJ, joinC], by simp⟩
  | [k] => by
    refine ⟨?_, fun x hx => ?_⟩
    · simp only [nlJ, joinC, wrapM, List.length_append]; omega
    · simp at hx; subst hx; simp only [wrapM, List.length_append]; omega
  | k :: y :: r => by
    obtain ⟨h1, h2⟩ := wrap_len border (y :: r)
    unfold nlJ at h1 ⊢
    refine ⟨?_, fun x hx => ?_⟩
    · rw [joinC, wrapM]
      simp only [List.length_append, List.length_cons, List.length_nil]
      omega
    · rw [wrapM]
      rcases List.mem_cons.1 hx with rfl | hx
      · simp only [List.length_append]; omega
      · have := h2 x hx
        simp only [List.length_append]
        omega
theorem nl_mem (m : List UInt8) : ∀ l : List (List UInt8), ∀ k ∈ l, hasI m k → hasI m (nlJ l)
  | [], _, hk, _ => by simp at hk
  | [x], k, hk, h => by simp at hk; subst hk; exact h
  | x :: y :: r, k, hk, h => by
    unfold nlJ
    rw [joinC]
    rcases List.mem_cons.1 hk with rfl | hk
    · exact hasI_left h
    · have := nl_mem m (y :: r) k hk h
      have := hasI_right (s := [10]) this
      exact hasI_right this
theorem cnts_each (k : Nat) : ∀ (ps : List PartD) (n c : Nat), cntsD k n ps = some c → ∀ x ∈ ps, ∃ d, cntD k x = some d
  | [], _, _, _ => by simp
  | p :: ps, n, c, h => by
    rw [cntsD_cons] at h
    cases hc : cntD k p with
    | none => rw [hc] at h; cases h
    | some d =>
      rw [hc] at h
      simp only [cntNext] at h
      split at h
      · cases h
      · intro x hx
        rcases List.mem_cons.1 hx with rfl | hx
        · exact ⟨d, hc⟩
        · exact cnts_each k ps _ _ h x hx
theorem chkB_zero {ty ce tk wi wl : Bool} {how : Int} {n : Nat} {m : Bool} {n2 : Nat} (h : chkB ty ce tk wi wl how n m n2 = 0) :
    ty = true ∧ (ce = true ∨ tk = true) ∧ wi = true ∧ wl = true ∧ 0 ≤ how ∧ how ≤ 2 ∧ n ≤ 4000 ∧ (m = true → 0 < n2 ∧ n = 0 ∧ how = 0 ∧ ce = true) ∧ (m = false → n2 = 0) := by
  unfold chkB at h
  split at h
  · cases h
  · rename_i h1
    split at h
    · cases h
    · rename_i h2
      split at h
      · cases h
      · rename_i h3
        split at h
        · cases h
        · rename_i h4
          simp at h1 h2 h3 h4
          refine ⟨h1.1.1.1, ?_, h1.1.2, h1.2, h2.1, h2.2, h3, fun hm => ?_, fun hm => ?_⟩
          · rcases hce : ce with _ | _
            · exact .inr (h1.1.1.2 hce)
            · exact .inl rfl
          · rw [hm] at h4
            simp at h4
            exact ⟨by omega, h4.2.1.1, h4.2.1.2, h4.2.2⟩
          · rw [hm] at h4
            simp at h4
            omega
theorem firstErr_allM : ∀ (L : List PartD), firstErr L = 0 → ∀ q ∈ L, chkD q = 0
  | [], _ => by simp
  | q :: r, h => by
    unfold firstErr at h
    split at h
    · rename_i hq
      intro x hx
      rcases List.mem_cons.1 hx with rfl | hx
      · exact hq
      · exact firstErr_allM r h x hx
    · rename_i hq
      exact absurd h hq
theorem parse_more {l : List FieldD} (h : chkF l = 0) (more : List UInt8) (hl : (textF l ++ more).length ≤ 40000) : parseF (textF l ++ more) = (l, (textF l).length, 0) := by
  have h1 := (parse_back (parse_text h)).2.2.2 more
  rw [List.take_length] at h1
  exact h1 hl
/-- Parts that are told alike. -/
def goodP (p : PartD) : Prop := ∀ q ∈ flatD p, chkD q = 0
theorem part_text : ∀ (k : Nat) (p : PartD) (cnt c : Nat), cntD k p = some c → goodP p → cnt + (flatD p).length ≤ 12 → (textM p).length ≤ 40000 → partM k cnt (textM p) = (p, cnt + (flatD p).length, 0) := by
  intro k
  induction k with
  | zero => intro p cnt c h; obtain ⟨t, cs, id, loc, how, body, parts⟩ := p; rw [cntD] at h; cases h
  | succ k ih =>
    intro p cnt c h hg hc hl
    have h0 := hg p (by rw [flatD_eq]; simp)
    have hcl : 1 ≤ (flatD p).length := by rw [flatD_eq]; simp
    unfold chkD at h0
    obtain ⟨ht, hcs, hid, hloc, hw0, hw2, hbo, hm1, hm0⟩ := chkB_zero h0
    have hcs' : p.cs = [] ∨ tokB p.cs = true := by
      rcases hcs with h | h
      · exact .inl (by simpa using h)
      · exact .inr h
    rw [partM, if_neg (by omega)]
    have hct : ∀ b, (if getF (fieldsM p.type p.cs p.id p.loc p.how b) ctN = [] then [116, 101, 120, 116, 47, 112, 108, 97, 105, 110] else getF (fieldsM p.type p.cs p.id p.loc p.how b) ctN) = typeV p.type p.cs b := by
      intro b
      rw [get_ct, if_neg]
      intro e
      have := (typ_parts ht).1
      unfold typeV at e
      simp at e
      exact this e.1
    cases hm : manyB p.type with
    | false =>
      have hp0 := hm0 hm
      have hps : p.parts = [] := List.eq_nil_of_length_eq_zero hp0
      have hck := fields_chk (b := []) (how := p.how) ht hcs' hid hloc (.inl rfl)
      have e := text_leaf p hm
      rw [e] at hl ⊢
      rw [parse_more hck _ hl]
      simp only
      rw [if_neg (by simp), List.drop_left, hct []]
      have hpar : paramsF (typeV p.type p.cs []) = (p.type, (if p.cs = [] then [] else [⟨charsetN, p.cs⟩]), 0) := by
        by_cases h2 : p.cs = []
        · rw [h2, params_none ht, if_pos rfl]
        · rw [params_cs ht (hcs'.resolve_left h2), if_neg h2]
      rw [hpar]
      simp only
      rw [if_neg (by simp), hm, if_neg (by simp), get_cte, body_back p.how p.body hw0 hw2 hbo]
      simp only
      rw [if_neg (by simp), get_id, id_back, get_loc]
      have hcg : getF (if p.cs = [] then [] else [⟨charsetN, p.cs⟩]) ([99, 104, 97, 114, 115, 101, 116]) = p.cs := by
        by_cases h2 : p.cs = []
        · rw [if_pos h2, h2]; rfl
        · rw [if_neg h2]; exact get_one charsetN p.cs
      rw [hcg]
      have hfl : (flatD p).length = 1 := by rw [flatD_eq, hps]; rfl
      rw [hfl]
      obtain ⟨t, cs, id, loc, how, body, parts⟩ := p
      simp only at hps
      subst hps
      rfl
    | true =>
      obtain ⟨m1, m2, m3, m4⟩ := hm1 hm
      replace m4 : p.cs = [] := by simpa using m4
      replace m2 : p.body = [] := List.eq_nil_of_length_eq_zero m2
      have hbk : bordOk (bordP p) := bordM_ok _
      have hck := fields_chk (b := bordP p) (how := p.how) ht hcs' hid hloc (.inr hbk)
      have e := text_many p hm
      rw [e] at hl ⊢
      rw [parse_more hck _ hl]
      simp only
      rw [if_neg (by simp), List.drop_left, hct (bordP p), m4, params_bd ht hbk]
      simp only
      rw [if_neg (by simp), hm, if_pos rfl, show ([98, 111, 117, 110, 100, 97, 114, 121]) = boundN from rfl, get_one]
      obtain ⟨w1, w2⟩ := wrap_len (bordP p) (textsM p.parts)
      rw [List.length_append] at hl
      have hfree : ∀ x ∈ textsM p.parts, ¬ hasI (dash (bordP p)) x := by
        intro x hx hi
        have h1 := nl_mem _ _ x hx hi
        have h2 := (bordN_spec (nlJ (textsM p.parts)) (by omega)).2.2.1
        exact hasS_false h2 h1
      have hsp := split_all hbk [] [] (.inl rfl) (dash_ne _) hfree (by simp; omega)
      rw [List.nil_append, List.append_nil] at hsp
      rw [hsp]
      simp only
      rw [if_neg (by simp)]
      have hfl : (flatD p).length = 1 + (flatsD p.parts).length := by rw [flatD_eq, List.length_cons]; omega
      have key : ∀ (ps out : List PartD) (cnt : Nat), (∀ x ∈ ps, ∃ d, cntD k x = some d) → (∀ x ∈ flatsD ps, chkD x = 0) → cnt + (flatsD ps).length ≤ 12 → (∀ x ∈ textsM ps, x.length ≤ 40000) → eachM (partM k) (textsM ps) cnt out = (out ++ ps, cnt + (flatsD ps).length, 0) := by
        intro ps
        induction ps with
        | nil => intro out cnt _ _ _ _; rw [textsM, eachM, flatsD]; simp
        | cons x xs ihx =>
          intro out cnt g1 g2 g3 g4
          rw [flatsD, List.length_append] at g3
          obtain ⟨d, hd⟩ := g1 x (by simp)
          rw [textsM] at g4
          have hx := ih x cnt d hd (fun q hq => g2 q (by rw [flatsD]; simp [hq])) (by omega) (g4 _ (by simp))
          rw [textsM, eachM, hx]
          simp only [if_true]
          rw [ihx _ _ (fun y hy => g1 y (by simp [hy])) (fun y hy => g2 y (by rw [flatsD]; simp [hy])) (by omega) (fun y hy => g4 y (by simp [hy])), flatsD]
          simp only [List.append_assoc, List.cons_append, List.nil_append, List.length_append]
          rw [Nat.add_assoc]
      have hcn : ∀ x ∈ p.parts, ∃ d, cntD k x = some d := by
        obtain ⟨t, cs, id, loc, how, body, parts⟩ := p
        rw [cntD] at h
        exact cnts_each k parts 1 c h
      have hx := key p.parts [] (cnt + 1) hcn (fun x hx => hg x (by rw [flatD_eq]; simp [hx])) (by omega) (fun x hx => by have := w2 x hx; omega)
      rw [List.nil_append] at hx
      rw [hx]
      simp only
      rw [if_neg (by simp)]
      have i1 := get_id p.type [] p.id p.loc (bordP p) p.how
      have i2 := get_loc p.type [] p.id p.loc (bordP p) p.how
      rw [i1, id_back, i2, hfl]
      obtain ⟨t, cs, id, loc, how, body, parts⟩ := p
      simp only at m2 m3 m4
      subst m2; subst m3; subst m4
      simp only [Prod.mk.injEq, true_and, and_true]
      omega
theorem checkM_parts {p : PartD} (h : checkD p = 0) : goodP p ∧ (∃ c, cntD 3 p = some c) ∧ (flatD p).length ≤ 12 := by
  unfold checkD at h
  cases hc : cntD 3 p with
  | none => rw [hc] at h; cases h
  | some c =>
    rw [hc] at h
    refine ⟨firstErr_allM _ h, ⟨c, rfl⟩, ?_⟩
    rw [cntD_flat 3 p c hc]
    exact (cntD_le 3 p c hc).2
/-- What is written is read as it was. -/
theorem read_back {p : PartD} (h : checkD p = 0) (hl : (textM p).length ≤ 40000) : readM (textM p) = (p, 0) := by
  obtain ⟨h1, ⟨c, hc⟩, h2⟩ := checkM_parts h
  have := part_text 3 p 0 c hc h1 (by omega) hl
  unfold readM
  rw [if_neg (by omega), this]
  simp only
  rw [if_neg (by simp), if_neg (by omega)]
theorem readM_check {b : List UInt8} {q : PartD} (h : readM b = (q, 0)) : checkD q = 0 := by
  unfold readM at h
  split at h
  · cases h
  · split at h
    · rename_i h1; injection h with _ h; exact absurd h h1
    · split at h
      · rename_i h1; injection h with _ h; exact absurd h h1
      · rename_i h1; injection h with h _; rw [← h]; omega
end Go.Proofs.YtlbdnohnngkapaaGreatDoor
