import Derived.Test.YtoolfhjlhhcbgaaBaseL
namespace Go.Proofs.Ytoolfhjlhhcbgaa

/-- How many letters stand in the line, where 'a' bytes are behind. -/
def wd (a : Nat) : Nat := if a % 57 = 0 then (if a = 0 then 0 else 76) else a % 57 / 3 * 4
theorem wd_step (a : Nat) (h : a % 3 = 0) : after (wd a) = wd (a + 3) := by
  unfold wd after
  by_cases h0 : a % 57 = 0
  · by_cases h1 : a = 0
    · subst h1; decide
    · rw [if_pos h0, if_neg h1, if_pos rfl, if_neg (by omega)]; omega
  · rw [if_neg h0, if_neg (by omega)]
    by_cases h2 : (a + 3) % 57 = 0
    · rw [if_pos h2, if_neg (by omega)]; omega
    · rw [if_neg h2]; omega
theorem wd_brk (a : Nat) : brk (wd a) = if 0 < a ∧ a % 57 = 0 then [13, 10] else [] := by
  unfold wd brk
  by_cases h0 : a % 57 = 0
  · by_cases h1 : a = 0
    · subst h1; decide
    · rw [if_pos h0, if_neg h1, if_pos rfl, if_pos ⟨by omega, h0⟩]
  · rw [if_neg h0, if_neg (by omega), if_neg (by omega)]
/-- Bit t of bytes, from the first one's highest on. -/
def bitAt (l : List UInt8) (t : Nat) : Nat := nth l (t / 8) / 2 ^ (7 - t % 8) % 2
def bitsTo (l : List UInt8) (k : Nat) : Nat → Nat
  | 0 => 0
  | j + 1 => bitsTo l k j * 2 + bitAt l (6 * k + j)
theorem bitsTo_lt (l : List UInt8) (k j : Nat) : bitsTo l k j < 2 ^ j := by
  induction j with
  | zero => simp [bitsTo]
  | succ j ih =>
    have : bitAt l (6 * k + j) < 2 := Nat.mod_lt _ (by omega)
    simp only [bitsTo, Nat.pow_succ]
    omega
theorem bitAt_val (l : List UInt8) (t : Nat) (ht : t < 24) : bitAt l t = val3 l / 2 ^ (23 - t) % 2 := by
  have h0 := nth_lt l 0
  have h1 := nth_lt l 1
  have h2 := nth_lt l 2
  unfold bitAt val3
  rcases (by omega : t < 8 ∨ (8 ≤ t ∧ t < 16) ∨ 16 ≤ t) with h | h | h
  · rw [show t / 8 = 0 by omega, show t % 8 = t by omega, show 23 - t = 16 + (7 - t) by omega, Nat.pow_add, ← Nat.div_div_eq_div_mul]
    congr 2; omega
  · rw [show t / 8 = 1 by omega, show t % 8 = t - 8 by omega, show 23 - t = 8 + (7 - (t - 8)) by omega, Nat.pow_add, ← Nat.div_div_eq_div_mul]
    rw [show (nth l 0 * 65536 + nth l 1 * 256 + nth l 2) / 2 ^ 8 = nth l 1 + nth l 0 * 2 ^ 8 by omega]
    generalize hm : 7 - (t - 8) = m
    have hm8 : m < 8 := by omega
    rcases (by omega : m = 0 ∨ m = 1 ∨ m = 2 ∨ m = 3 ∨ m = 4 ∨ m = 5 ∨ m = 6 ∨ m = 7) with rfl | rfl | rfl | rfl | rfl | rfl | rfl | rfl <;> omega
  · rw [show t / 8 = 2 by omega, show t % 8 = t - 16 by omega, show 23 - t = 7 - (t - 16) by omega]
    generalize hm : 7 - (t - 16) = m
    have hm8 : m < 8 := by omega
    rcases (by omega : m = 0 ∨ m = 1 ∨ m = 2 ∨ m = 3 ∨ m = 4 ∨ m = 5 ∨ m = 6 ∨ m = 7) with rfl | rfl | rfl | rfl | rfl | rfl | rfl | rfl <;> omega
theorem bitsTo_val (l : List UInt8) (k : Nat) (hk : k < 4) (j : Nat) (hj : j ≤ 6) : bitsTo l k j = val3 l / 2 ^ (24 - 6 * k - j) % 2 ^ j := by
  induction j with
  | zero => simp [bitsTo, Nat.mod_one]
  | succ j ih =>
    simp only [bitsTo]
    rw [ih (by omega), bitAt_val l _ (by omega), show 24 - 6 * k - j = (24 - 6 * k - (j + 1)) + 1 by omega, show 23 - (6 * k + j) = 24 - 6 * k - (j + 1) by omega]
    generalize 24 - 6 * k - (j + 1) = m
    rw [Nat.pow_succ 2 m, ← Nat.div_div_eq_div_mul, Nat.pow_succ 2 j, Nat.mul_comm (2 ^ j) 2, Nat.mod_mul]
    omega
theorem bits_six (l : List UInt8) (k : Nat) (hk : k < 4) : bitsTo l k 6 = val3 l / 2 ^ (18 - 6 * k) % 64 := by
  rw [bitsTo_val l k hk 6 (Nat.le_refl _), show 24 - 6 * k - 6 = 18 - 6 * k by omega]
end Go.Proofs.Ytoolfhjlhhcbgaa
