import Derived.Test.YtdhmmepcnladcaaDoorQuoteM
import Derived.Test.YtdhmmepcnladcaaDoorReadM
import Derived.Lib.SlTrimSet
import Derived.Lib.IndexLaws
import Derived.Lib.IndexMore
namespace Go.Proofs.YtdhmmepcnladcaaDoor

/-- quote.hex. -/
def hexQ (c : Nat) : Int := idxI digits (if decide (97 ≤ c) && decide (c ≤ 102) then c - 32 else c)
/-- One line, its end struck: quote.Read's inner loop. -/
def decQ : List UInt8 → Option (List UInt8)
  | [] => some []
  | c :: r =>
    if c.toNat == 61 then
      match r with
      | a :: b :: r' => if decide (hexQ a.toNat < 0) || decide (hexQ b.toNat < 0) then none else (decQ r').map (UInt8.ofNat ((hexQ a.toNat).toNat * 16 + (hexQ b.toNat).toNat) :: ·)
      | _ => none
    else (decQ r).map (c :: ·)
/-- A line behind its blanks' going. -/
def trimQ (line : List UInt8) : List UInt8 := Lib.trimRightS line [32, 9, 13]
def softQ (line : List UInt8) : Bool := Lib.hasSuffix line [61]
def bareQ (line : List UInt8) : List UInt8 := if softQ line then line.take (line.length - 1) else line
/-- What a line's end gives. -/
def endQ (s : List UInt8) : List UInt8 := if (Lib.cut s [10]).2.2 && !softQ (trimQ (Lib.cut s [10]).1) then [13, 10] else []
/-- quote.Read's outer loop. -/
def linesQ : Nat → List UInt8 → List UInt8 → List UInt8 × Nat
  | 0, _, out => (out, 0)
  | k + 1, s, out =>
    if s.isEmpty then (out, 0)
    else match decQ (bareQ (trimQ (Lib.cut s [10]).1)) with
      | none => ([], 1)
      | some x =>
        if 4000 < (out ++ x ++ endQ s).length then ([], 2)
        else linesQ k (Lib.cut s [10]).2.1 (out ++ x ++ endQ s)
/-- quote.Read. -/
def readQ (s : List UInt8) : List UInt8 × Nat := if 16000 < s.length then ([], 2) else linesQ s.length s []

theorem linesQ_len : ∀ (k : Nat) (s out : List UInt8), out.length ≤ 4000 → (linesQ k s out).1.length ≤ 4000 := by
  intro k
  induction k with
  | zero => intro s out h; exact h
  | succ k ih =>
    intro s out h
    unfold linesQ
    split
    · exact h
    · split
      · simp
      · split
        · simp
        · exact ih _ _ (by omega)
theorem readQ_len (s : List UInt8) : (readQ s).1.length ≤ 4000 := by
  unfold readQ
  split
  · simp
  · exact linesQ_len _ _ _ (by simp)

/-! ### What is written is read -/
theorem hex_digit : ∀ k : Fin 16, hexQ (digits.getD k.val 0).toNat = (k.val : Int) := by decide +kernel
theorem digit_print : ∀ k : Fin 16, 32 < (digits.getD k.val 0).toNat ∧ (digits.getD k.val 0).toNat ≤ 126 ∧ (digits.getD k.val 0).toNat ≠ 61 := by decide +kernel
theorem oneQ_print (c x : UInt8) (h : x ∈ oneQ c) : 32 < x.toNat ∧ x.toNat ≤ 126 := by
  have hc := c.toNat_lt
  unfold oneQ at h
  split at h
  · rename_i hp
    simp at h; subst h
    simp [plainQ] at hp
    omega
  · have h1 := digit_print ⟨c.toNat / 16, by omega⟩
    have h2 := digit_print ⟨c.toNat % 16, by omega⟩
    simp only [List.mem_cons, List.not_mem_nil, or_false] at h
    rcases h with rfl | rfl | rfl
    · decide
    · exact ⟨h1.1, h1.2.1⟩
    · exact ⟨h2.1, h2.2.1⟩
theorem decQ_one (c : UInt8) (r : List UInt8) : decQ (oneQ c ++ r) = (decQ r).map (c :: ·) := by
  have hc := c.toNat_lt
  unfold oneQ
  split
  · rename_i hp
    have h61 : (c.toNat == 61) = false := by simp [plainQ] at hp; simp; omega
    show decQ (c :: r) = _
    conv => lhs; unfold decQ
    rw [h61]
    rfl
  · have h1 := hex_digit ⟨c.toNat / 16, by omega⟩
    have h2 := hex_digit ⟨c.toNat % 16, by omega⟩
    simp only at h1 h2
    show decQ (61 :: digits.getD (c.toNat / 16) 0 :: digits.getD (c.toNat % 16) 0 :: r) = _
    conv => lhs; unfold decQ
    rw [if_pos (by decide)]
    simp only [h1, h2]
    have e : UInt8.ofNat (((c.toNat / 16 : Nat) : Int).toNat * 16 + ((c.toNat % 16 : Nat) : Int).toNat) = c := by
      rw [Int.toNat_natCast, Int.toNat_natCast, show c.toNat / 16 * 16 + c.toNat % 16 = c.toNat from by omega, UInt8.ofNat_toNat]
    rw [e, if_neg (by simp; omega)]

/-- Bytes as they are written, without ends of lines. -/
def payQ (l : List UInt8) : List UInt8 := l.flatMap oneQ
theorem decQ_pay (l : List UInt8) : decQ (payQ l) = some l := by
  induction l with
  | nil => rfl
  | cons c l ih => show decQ (oneQ c ++ payQ l) = _; rw [decQ_one, ih]; rfl
theorem payQ_print (l : List UInt8) (x : UInt8) (h : x ∈ payQ l) : 32 < x.toNat ∧ x.toNat ≤ 126 := by
  obtain ⟨c, _, hx⟩ := List.mem_flatMap.1 h
  exact oneQ_print c x hx
theorem payQ_end (l : List UInt8) : Lib.hasSuffix (payQ l) [61] = false := by
  have key : ∀ (l : List UInt8), l ≠ [] → ∃ p x, payQ l = p ++ [x] ∧ x.toNat ≠ 61 := by
    intro l hl
    obtain ⟨q, c, rfl⟩ : ∃ q c, l = q ++ [c] := ⟨l.dropLast, l.getLast hl, (List.dropLast_concat_getLast hl).symm⟩
    have hc := c.toNat_lt
    have e : payQ (q ++ [c]) = payQ q ++ oneQ c := by simp [payQ]
    rw [e]
    unfold oneQ
    split
    · rename_i hp
      exact ⟨payQ q, c, rfl, by simp [plainQ] at hp; omega⟩
    · exact ⟨payQ q ++ [61, digits.getD (c.toNat / 16) 0], _, by simp, (digit_print ⟨c.toNat % 16, by omega⟩).2.2⟩
  by_cases hl : l = []
  · subst hl; rfl
  · obtain ⟨p, x, h1, h2⟩ := key l hl
    rw [h1]
    have : ¬ ([61] : List UInt8) <:+ (p ++ [x]) := by
      rintro ⟨t, ht⟩
      have := (List.append_inj' ht rfl).2
      simp at this
      exact h2 (by rw [← this]; rfl)
    simp only [Lib.hasSuffix, Bool.eq_false_iff, ne_eq, List.isSuffixOf_iff_suffix]
    exact this

/-- A text in which bytes are written so, and lines go on. -/
inductive StrQ : List UInt8 → List UInt8 → Prop
  | nil : StrQ [] []
  | one (c : UInt8) {T l : List UInt8} : StrQ T l → StrQ (oneQ c ++ T) (c :: l)
  | brk {T l : List UInt8} : StrQ T l → StrQ (61 :: 13 :: 10 :: T) l
theorem encQ_str : ∀ (l : List UInt8) (wide : Nat), StrQ (encQ wide l) l := by
  intro l
  induction l with
  | nil => intro _; exact .nil
  | cons c r ih =>
    intro wide
    unfold encQ
    split
    · show StrQ (61 :: 13 :: 10 :: (oneQ c ++ _)) _
      exact .brk (.one c (ih _))
    · exact .one c (ih _)
theorem StrQ.app {T l T' l' : List UInt8} (h : StrQ T l) (h' : StrQ T' l') : StrQ (T ++ T') (l ++ l') := by
  induction h with
  | nil => exact h'
  | one c _ ih => rw [List.append_assoc]; exact .one c ih
  | brk _ ih => exact .brk ih
theorem StrQ.split {T l : List UInt8} (h : StrQ T l) : T = payQ l ∨ ∃ l1 l2 T2, l = l1 ++ l2 ∧ T = payQ l1 ++ 61 :: 13 :: 10 :: T2 ∧ StrQ T2 l2 := by
  induction h with
  | nil => exact .inl rfl
  | one c h ih =>
    rcases ih with rfl | ⟨l1, l2, T2, rfl, rfl, h2⟩
    · exact .inl rfl
    · exact .inr ⟨c :: l1, l2, T2, rfl, by simp [payQ], h2⟩
  | brk h ih => exact .inr ⟨[], _, _, rfl, rfl, h⟩

theorem index10_none : ∀ (x : List UInt8), (∀ c ∈ x, c ≠ 10) → Lib.index x [10] = -1 := by
  intro x
  induction x with
  | nil => intro _; rfl
  | cons b x ih =>
    intro h
    have hb : (([10] : List UInt8).isPrefixOf (b :: x)) = false := by
      have : (10 : UInt8) ≠ b := fun e => h b (by simp) e.symm
      simp [List.isPrefixOf, this]
    rw [Lib.index, hb, ih (fun c hc => h c (by simp [hc]))]
    rfl
theorem index10_at : ∀ (x r : List UInt8), (∀ c ∈ x, c ≠ 10) → Lib.index (x ++ 10 :: r) [10] = x.length := by
  intro x
  induction x with
  | nil => intro r _; simp [Lib.index, List.isPrefixOf]
  | cons b x ih =>
    intro r h
    have hb : (([10] : List UInt8).isPrefixOf (b :: (x ++ 10 :: r))) = false := by
      have : (10 : UInt8) ≠ b := fun e => h b (by simp) e.symm
      simp [List.isPrefixOf, this]
    have h1 := ih r (fun c hc => h c (by simp [hc]))
    show Lib.index (b :: (x ++ 10 :: r)) [10] = _
    rw [Lib.index, hb, h1]
    have : ((x.length : Int) == -1) = false := by simp
    rw [this]
    simp
theorem cut10_none (x : List UInt8) (h : ∀ c ∈ x, c ≠ 10) : Lib.cut x [10] = (x, [], false) := by
  unfold Lib.cut
  rw [index10_none x h, if_neg (by decide)]
theorem cut10_at (x r : List UInt8) (h : ∀ c ∈ x, c ≠ 10) : Lib.cut (x ++ 10 :: r) [10] = (x, r, true) := by
  unfold Lib.cut
  rw [index10_at x r h, if_pos (by omega), Int.toNat_natCast, List.take_left]
  have : (x ++ 10 :: r).drop (x.length + ([10] : List UInt8).length) = r := by
    rw [← List.drop_drop, List.drop_left]; rfl
  rw [this]
theorem pay10 (l : List UInt8) : ∀ c ∈ payQ l, c ≠ 10 := by
  intro c hc h
  have := (payQ_print l c hc).1
  subst h
  exact absurd this (by decide)
theorem trim_pay (l : List UInt8) : trimQ (payQ l) = payQ l := by
  unfold trimQ
  rw [Lib.trimRightS_take _ _ (payQ l).length (Nat.le_refl _) (fun j b hj hb => by rw [List.getElem?_eq_none (by omega)] at hb; cases hb) (fun b h0 hb => ?_), List.take_length]
  have hm : b ∈ payQ l := List.mem_of_getElem? hb
  have h32 := (payQ_print l b hm).1
  have n1 : (b == 32) = false := by rw [beq_eq_false_iff_ne]; rintro rfl; exact absurd h32 (by decide)
  have n2 : (b == 9) = false := by rw [beq_eq_false_iff_ne]; rintro rfl; exact absurd h32 (by decide)
  have n3 : (b == 13) = false := by rw [beq_eq_false_iff_ne]; rintro rfl; exact absurd h32 (by decide)
  simp only [List.contains, List.elem, n1, n2, n3]
theorem trim_soft (x : List UInt8) : trimQ (x ++ [61, 13]) = x ++ [61] := by
  unfold trimQ Lib.trimRightS
  rw [List.reverse_append]
  show (List.dropWhile _ (13 :: 61 :: x.reverse)).reverse = _
  rw [List.dropWhile_cons_of_pos (by decide), List.dropWhile_cons_of_neg (by decide)]
  simp
theorem soft_soft (x : List UInt8) : softQ (x ++ [61]) = true := by
  unfold softQ Lib.hasSuffix
  rw [List.isSuffixOf_iff_suffix]
  exact ⟨x, rfl⟩
theorem bare_soft (x : List UInt8) : bareQ (x ++ [61]) = x := by
  unfold bareQ
  rw [soft_soft, if_pos rfl]
  simp
theorem bare_pay (l : List UInt8) : bareQ (payQ l) = payQ l := by
  unfold bareQ softQ
  rw [payQ_end, if_neg (by decide)]
theorem linesQ_str : ∀ (k : Nat) (T l out : List UInt8), StrQ T l → T.length ≤ k → out.length + l.length ≤ 4000 → linesQ k T out = (out ++ l, 0) := by
  intro k
  induction k with
  | zero =>
    intro T l out h hk hl
    have hT : T = [] := List.eq_nil_of_length_eq_zero (by omega)
    rcases h.split with h1 | ⟨_, _, _, _, h1, _⟩
    · have : l = [] := by
        cases l with
        | nil => rfl
        | cons c l =>
          have h3 := oneQ_len c
          rw [hT] at h1
          have := congrArg List.length h1
          simp [payQ] at this
          omega
      subst this
      simp [linesQ]
    · rw [hT] at h1; have := congrArg List.length h1; simp at this
  | succ k ih =>
    intro T l out h hk hl
    unfold linesQ
    split
    · rename_i hT
      have hT : T = [] := by simpa using hT
      rcases h.split with h1 | ⟨_, _, _, _, h1, _⟩
      · have : l = [] := by
          cases l with
          | nil => rfl
          | cons c l =>
            have h3 := oneQ_len c
            rw [hT] at h1
            have := congrArg List.length h1
            simp [payQ] at this
            omega
        subst this
        simp
      · rw [hT] at h1; have := congrArg List.length h1; simp at this
    · unfold endQ
      rcases h.split with rfl | ⟨l1, l2, T2, rfl, rfl, h2⟩
      · rw [cut10_none _ (pay10 l)]
        simp only [trim_pay, bare_pay, decQ_pay, Bool.false_and]
        rw [if_neg (by simp; omega)]
        have h0 : linesQ k [] (out ++ l ++ if false = true then [13, 10] else []) = (out ++ l, 0) := by
          cases k <;> simp [linesQ]
        exact h0
      · have hc : Lib.cut (payQ l1 ++ 61 :: 13 :: 10 :: T2) [10] = (payQ l1 ++ [61, 13], T2, true) := by
          rw [show payQ l1 ++ 61 :: 13 :: 10 :: T2 = (payQ l1 ++ [61, 13]) ++ 10 :: T2 from by simp]
          refine cut10_at _ _ fun c hc => ?_
          simp only [List.mem_append, List.mem_cons, List.not_mem_nil, or_false] at hc
          rcases hc with hc | rfl | rfl
          · exact pay10 l1 c hc
          · decide
          · decide
        rw [hc]
        simp only [trim_soft, bare_soft, decQ_pay, soft_soft, Bool.not_true, Bool.and_false]
        have hll : (l1 ++ l2).length = l1.length + l2.length := List.length_append
        rw [if_neg (by simp; omega)]
        have h3 := ih T2 l2 (out ++ l1) h2 (by simp at hk; omega) (by simp; omega)
        rw [List.append_assoc] at h3
        simpa using h3
/-- What is written in such a text is read. -/
theorem readQ_str (T l : List UInt8) (h : StrQ T l) (hT : T.length ≤ 16000) (hl : l.length ≤ 4000) : readQ T = (l, 0) := by
  unfold readQ
  rw [if_neg (by omega), linesQ_str _ T l [] h (Nat.le_refl _) (by simpa using hl)]
  rfl
theorem encQ_len3 : ∀ (l : List UInt8) (wide : Nat), wide ≤ 75 → 73 * (encQ wide l).length ≤ 228 * l.length + 3 * wide := by
  intro l
  induction l with
  | nil => intro wide _; simp [encQ]
  | cons c r ih =>
    intro wide hw
    have h1 := oneQ_len c
    unfold encQ
    split
    · have h2 := ih (oneQ c).length (by omega)
      simp only [List.length_append, List.length_cons, List.length_nil]; omega
    · have h3 := ih (wide + (oneQ c).length) (by omega)
      simp only [List.length_append, List.length_cons]; omega
theorem readQ_enc (l : List UInt8) (hl : l.length ≤ 4000) : readQ (encQ 0 l) = (l, 0) := by
  have := encQ_len3 l 0 (by omega)
  exact readQ_str _ l (encQ_str l 0) (by omega) hl
end Go.Proofs.YtdhmmepcnladcaaDoor
