import Derived.Test.YtoolfhjlhhcbgaaRefM
namespace Go.Proofs.Ytoolfhjlhhcbgaa

theorem indexByte_mem (l : List UInt8) (c : UInt8) : 0 ≤ Lib.indexByte l c ↔ c ∈ l := by
  induction l with
  | nil => simp [Lib.indexByte]
  | cons b l ih =>
    have hb := indexByte_bd l c
    simp only [Lib.indexByte, List.mem_cons]
    by_cases h : b = c
    · subst h; simp
    · have h1 : (b == c) = false := by simp [h]
      rw [h1]
      have h2 : ¬ c = b := fun e => h e.symm
      by_cases h3 : Lib.indexByte l c = -1
      · simp only [h3, beq_self_eq_true, if_true]
        have : ¬ c ∈ l := fun hm => by have := ih.2 hm; omega
        simp [this, h2]
      · have h4 : (Lib.indexByte l c == -1) = false := by simp [h3]
        rw [h4]
        have : c ∈ l := ih.1 (by omega)
        simp only [this, or_true, iff_true]
        simp
        omega
theorem ofNat_eq (x c : Nat) (hx : x < 256) (hc : c < 256) : UInt8.ofNat x = UInt8.ofNat c ↔ x = c := by
  rw [← UInt8.toNat_inj, UInt8.toNat_ofNat', UInt8.toNat_ofNat']; omega
theorem idx_blank (x : Nat) (hx : x < 256) : (0 ≤ idxI [32, 9, 13, 10] x) ↔ blankN x = true := by
  unfold idxI
  rw [indexByte_mem]
  simp only [List.mem_cons, List.not_mem_nil, or_false, blankN, Bool.or_eq_true, beq_iff_eq]
  have h32 := ofNat_eq x 32 hx (by omega)
  have h9 := ofNat_eq x 9 hx (by omega)
  have h13 := ofNat_eq x 13 hx (by omega)
  have h10 := ofNat_eq x 10 hx (by omega)
  rw [← h32, ← h9, ← h13, ← h10]
  constructor
  · rintro (h | h | h | h)
    · exact .inl (.inl (.inl h))
    · exact .inl (.inl (.inr h))
    · exact .inl (.inr h)
    · exact .inr h
  · rintro (((h | h) | h) | h)
    · exact .inl h
    · exact .inr (.inl h)
    · exact .inr (.inr (.inl h))
    · exact .inr (.inr (.inr h))
/-- The six bits of a letter's value. -/
def six (v : Nat) : List Nat := [v / 32 % 2, v / 16 % 2, v / 8 % 2, v / 4 % 2, v / 2 % 2, v % 2]
def bits6 (l : List Nat) : List Nat := l.flatMap six
theorem bits6_len (l : List Nat) : (bits6 l).length = 6 * l.length := by
  induction l with
  | nil => rfl
  | cons a l ih =>
    show (six a ++ bits6 l).length = _
    simp only [List.length_append, ih, six, List.length_cons, List.length_nil]; omega
theorem bits6_snoc (l : List Nat) (v : Nat) : bits6 (l ++ [v]) = bits6 l ++ six v := by simp [bits6]
theorem six_take (v e : Nat) (h1 : 1 ≤ e) (h6 : e ≤ 6) : (six v).take (6 - e) ++ [v / 2 ^ (e - 1) % 2] = (six v).take (6 - (e - 1)) := by
  rcases (by omega : e = 1 ∨ e = 2 ∨ e = 3 ∨ e = 4 ∨ e = 5 ∨ e = 6) with rfl | rfl | rfl | rfl | rfl | rfl <;> simp [six]
theorem nthN_drop (l : List Nat) (i k : Nat) : nthN (l.drop i) k = nthN l (i + k) := by simp [nthN, List.getD]
/-- The number of bits, the highest first. -/
def binTo (l : List Nat) : Nat → Nat
  | 0 => 0
  | j + 1 => 2 * binTo l j + nthN l j
theorem binTo_lt (l : List Nat) (h : ∀ x ∈ l, x < 2) (j : Nat) : binTo l j < 2 ^ j := by
  induction j with
  | zero => simp [binTo]
  | succ j ih =>
    have := nthN_lt l j 2 (by omega) h
    simp only [binTo, Nat.pow_succ]; omega
def bytes8 : Nat → List Nat → List UInt8
  | 0, _ => []
  | k + 1, l => UInt8.ofNat (binTo l 8) :: bytes8 k (l.drop 8)
theorem six_lt (v : Nat) : ∀ x ∈ six v, x < 2 := by
  intro x hx
  simp only [six, List.mem_cons, List.not_mem_nil, or_false] at hx
  rcases hx with rfl | rfl | rfl | rfl | rfl | rfl <;> exact Nat.mod_lt _ (by omega)
theorem bits6_lt (l : List Nat) : ∀ x ∈ bits6 l, x < 2 := by
  intro x hx
  simp only [bits6, List.mem_flatMap] at hx
  obtain ⟨v, _, h⟩ := hx
  exact six_lt v x h
theorem bytes8_four (a b c d : Nat) (r : List Nat) (k : Nat) (ha : a < 64) (hb : b < 64) (hc : c < 64) (hd : d < 64) :
    bytes8 (k + 3) (bits6 (a :: b :: c :: d :: r)) = three (num4 a b c d) ++ bytes8 k (bits6 r) := by
  show bytes8 (k + 3) (six a ++ (six b ++ (six c ++ (six d ++ bits6 r)))) = _
  generalize bits6 r = rr
  simp only [bytes8, six, List.cons_append, List.nil_append, List.drop_succ_cons, List.drop_zero, binTo, nthN, List.getD_cons_succ, List.getD_cons_zero, three, num4]
  have e1 : ∀ x y : Nat, x % 256 = y % 256 → UInt8.ofNat x = UInt8.ofNat y := fun x y h => by
    rw [← UInt8.toNat_inj, UInt8.toNat_ofNat', UInt8.toNat_ofNat']; exact h
  have n0 : (a * 262144 + b * 4096 + c * 64 + d) / 65536 = 4 * a + b / 16 := by omega
  have n1 : (a * 262144 + b * 4096 + c * 64 + d) / 256 % 256 = (b % 16) * 16 + c / 4 := by omega
  have n2 : (a * 262144 + b * 4096 + c * 64 + d) % 256 = (c % 4) * 64 + d := by omega
  have ka : a = 32 * (a / 32 % 2) + 16 * (a / 16 % 2) + 8 * (a / 8 % 2) + 4 * (a / 4 % 2) + 2 * (a / 2 % 2) + a % 2 := by omega
  have kd : d = 32 * (d / 32 % 2) + 16 * (d / 16 % 2) + 8 * (d / 8 % 2) + 4 * (d / 4 % 2) + 2 * (d / 2 % 2) + d % 2 := by omega
  have kb1 : b / 16 = 2 * (b / 32 % 2) + b / 16 % 2 := by omega
  have kb2 : b % 16 = 8 * (b / 8 % 2) + 4 * (b / 4 % 2) + 2 * (b / 2 % 2) + b % 2 := by omega
  have kc1 : c / 4 = 8 * (c / 32 % 2) + 4 * (c / 16 % 2) + 2 * (c / 8 % 2) + c / 4 % 2 := by omega
  have kc2 : c % 4 = 2 * (c / 2 % 2) + c % 2 := by omega
  rw [n0]
  generalize (a * 262144 + b * 4096 + c * 64 + d) / 256 = N1 at *
  generalize a * 262144 + b * 4096 + c * 64 + d = N2 at *
  generalize a / 32 % 2 = a5 at *; generalize a / 16 % 2 = a4 at *; generalize a / 8 % 2 = a3 at *; generalize a / 4 % 2 = a2 at *; generalize a / 2 % 2 = a1 at *; generalize a % 2 = a0 at *
  generalize d / 32 % 2 = d5 at *; generalize d / 16 % 2 = d4 at *; generalize d / 8 % 2 = d3 at *; generalize d / 4 % 2 = d2 at *; generalize d / 2 % 2 = d1 at *; generalize d % 2 = d0 at *
  generalize b / 32 % 2 = b5 at *; generalize b / 16 % 2 = b4 at *; generalize b / 8 % 2 = b3 at *; generalize b / 4 % 2 = b2 at *; generalize b / 2 % 2 = b1 at *; generalize b % 2 = b0 at *
  generalize c / 32 % 2 = c5 at *; generalize c / 16 % 2 = c4 at *; generalize c / 8 % 2 = c3 at *; generalize c / 4 % 2 = c2 at *; generalize c / 2 % 2 = c1 at *; generalize c % 2 = c0 at *
  generalize b / 16 = bq at *; generalize b % 16 = br at *; generalize c / 4 = cq at *; generalize c % 4 = cr at *
  have f0 : UInt8.ofNat (2 * (2 * (2 * (2 * (2 * (2 * (2 * (2 * 0 + a5) + a4) + a3) + a2) + a1) + a0) + b5) + b4) = UInt8.ofNat (4 * a + bq) := e1 _ _ (by omega)
  have f1 : UInt8.ofNat (2 * (2 * (2 * (2 * (2 * (2 * (2 * (2 * 0 + b3) + b2) + b1) + b0) + c5) + c4) + c3) + c2) = UInt8.ofNat N1 := e1 _ _ (by omega)
  have f2 : UInt8.ofNat (2 * (2 * (2 * (2 * (2 * (2 * (2 * (2 * 0 + c1) + c0) + d5) + d4) + d3) + d2) + d1) + d0) = UInt8.ofNat N2 := e1 _ _ (by omega)
  rw [f0, f1, f2]
theorem bytes8_bytes3 (k : Nat) : ∀ l : List Nat, l.length = 4 * k → (∀ x ∈ l, x < 64) → bytes8 (3 * k) (bits6 l) = bytes3 l := by
  induction k with
  | zero => intro l h _; have : l = [] := List.eq_nil_of_length_eq_zero (by omega); subst this; rfl
  | succ k ih =>
    intro l h hx
    match l, h, hx with
    | a :: b :: c :: d :: r, h, hx =>
      rw [show 3 * (k + 1) = 3 * k + 3 by omega, bytes8_four a b c d r (3 * k) (hx a (by simp)) (hx b (by simp)) (hx c (by simp)) (hx d (by simp)), ih r (by simp at h; omega) (fun x h => hx x (by simp [h]))]
      rfl
theorem bytes8_step (k : Nat) (l : List Nat) : bytes8 (k + 1) l = UInt8.ofNat (binTo l 8) :: bytes8 k (l.drop 8) := rfl
theorem bytes8_len (k : Nat) : ∀ l, (bytes8 k l).length = k := by
  induction k with
  | zero => intro l; rfl
  | succ k ih => intro l; simp [bytes8, ih]
theorem take_len (l : List UInt8) (n : Nat) (h : l.length = n) : l.take n = l := by subst h; exact List.take_length
/-- cutPad, from the end on. -/
theorem cutPad_bad2 (out : List UInt8) (pad q e : Nat) (hq : q + pad = out.length) (h1 : 1 ≤ e) (he : e ≤ pad) (h : nth out (q + e - 1) ≠ 0) : cutPad out pad = ([], 1) :=
  cutPad_bad out pad q (e - 1) hq (by omega) (by rw [nth_drop, show q + (e - 1) = q + e - 1 by omega]; exact h)
theorem cutPad_ok2 (out : List UInt8) (pad q : Nat) (hq : q + pad = out.length) (h : ∀ k, q ≤ k → k < out.length → nth out k = 0) : cutPad out pad = if 4000 < q then ([], 2) else (out.take q, 0) :=
  cutPad_ok out pad q hq (fun k hk => by rw [nth_drop]; exact h _ (by omega) (by omega))
theorem nth_take (l : List UInt8) (m k : Nat) (h : k < m) : nth (l.take m) k = nth l k := by
  simp [nth, List.getD, List.getElem?_take, h]
end Go.Proofs.Ytoolfhjlhhcbgaa
