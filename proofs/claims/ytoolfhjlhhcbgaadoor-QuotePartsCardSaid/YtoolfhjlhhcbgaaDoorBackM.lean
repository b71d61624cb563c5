import Derived.Test.YtoolfhjlhhcbgaaDoorBaseL
namespace Go.Proofs.YtoolfhjlhhcbgaaDoor

theorem letter_facts : ∀ q : Fin 64, blankN (nth letters q.val) = false ∧ (nth letters q.val == 61) = false ∧ idxI letters (nth letters q.val) = (q.val : Int) := by decide +kernel
/-- Letter i's value. -/
def lv (l : List UInt8) (i : Nat) : Nat := val3 l / 2 ^ (18 - 6 * i) % 64
theorem lv_lt (l : List UInt8) (i : Nat) : lv l i < 64 := Nat.mod_lt _ (by omega)
theorem scan_letter (vals : List Nat) (q : Nat) (hq : q < 64) (r : List UInt8) : scanB vals 0 (letters.getD q 0 :: r) = scanB (vals ++ [q]) 0 r := by
  obtain ⟨h1, h2, h3⟩ := letter_facts ⟨q, hq⟩
  have e : (letters.getD q 0).toNat = nth letters q := rfl
  simp only [scanB, e]
  rw [h1, h2, h3]
  simp
  intro h
  omega
theorem scan_pad (vals : List Nat) (pad : Nat) (r : List UInt8) : scanB vals pad (61 :: r) = scanB (vals ++ [0]) (pad + 1) r := by
  simp [scanB, blankN]
theorem scan_brk (vals : List Nat) (pad wide : Nat) (r : List UInt8) : scanB vals pad (brk wide ++ r) = scanB vals pad r := by
  unfold brk
  split
  · simp [scanB, blankN]
  · rfl
def padOf (l : List UInt8) : Nat := 3 - min 3 l.length
theorem scan_quad (vals : List Nat) (l r : List UInt8) (h : 0 < l.length) : scanB vals 0 (quad l ++ r) = scanB (vals ++ [lv l 0, lv l 1, lv l 2, lv l 3]) (padOf l) r := by
  have hq : quad l = [quadL (min 3 l.length) (val3 l) 0, quadL (min 3 l.length) (val3 l) 1, quadL (min 3 l.length) (val3 l) 2, quadL (min 3 l.length) (val3 l) 3] := rfl
  have hlet : ∀ i, ¬ min 3 l.length < i → quadL (min 3 l.length) (val3 l) i = letters.getD (lv l i) 0 := fun i hi => by simp [quadL, hi, lv]
  rw [hq]
  rcases (by omega : l.length = 1 ∨ l.length = 2 ∨ 3 ≤ l.length) with h1 | h2 | h3
  · have z2 : lv l 2 = 0 := by
      have a := nth_ge l 1 (by omega); have b := nth_ge l 2 (by omega)
      simp only [lv, val3, a, b]; omega
    have z3 : lv l 3 = 0 := by
      have a := nth_ge l 1 (by omega); have b := nth_ge l 2 (by omega)
      simp only [lv, val3, a, b]; omega
    rw [hlet 0 (by omega), hlet 1 (by omega), quadL_gt (by omega), quadL_gt (by omega), z2, z3]
    simp only [List.cons_append, List.nil_append]
    rw [scan_letter _ _ (lv_lt l 0), scan_letter _ _ (lv_lt l 1), scan_pad, scan_pad]
    simp [padOf, h1]
  · have z3 : lv l 3 = 0 := by
      have b := nth_ge l 2 (by omega)
      simp only [lv, val3, b]; omega
    rw [hlet 0 (by omega), hlet 1 (by omega), hlet 2 (by omega), quadL_gt (by omega), z3]
    simp only [List.cons_append, List.nil_append]
    rw [scan_letter _ _ (lv_lt l 0), scan_letter _ _ (lv_lt l 1), scan_letter _ _ (lv_lt l 2), scan_pad]
    simp [padOf, h2]
  · rw [hlet 0 (by omega), hlet 1 (by omega), hlet 2 (by omega), hlet 3 (by omega)]
    simp only [List.cons_append, List.nil_append]
    rw [scan_letter _ _ (lv_lt l 0), scan_letter _ _ (lv_lt l 1), scan_letter _ _ (lv_lt l 2), scan_letter _ _ (lv_lt l 3)]
    simp [padOf, Nat.min_eq_left h3]
theorem num4_lv (l : List UInt8) : num4 (lv l 0) (lv l 1) (lv l 2) (lv l 3) = val3 l := by
  have h0 := nth_lt l 0
  have h1 := nth_lt l 1
  have h2 := nth_lt l 2
  have hv : val3 l < 16777216 := by unfold val3; omega
  unfold num4 lv
  generalize val3 l = v at hv ⊢
  simp only [Nat.reduceMul, Nat.reduceSub, Nat.reducePow]
  omega
theorem three_val (l : List UInt8) : three (val3 l) = [UInt8.ofNat (nth l 0), UInt8.ofNat (nth l 1), UInt8.ofNat (nth l 2)] := by
  have h0 := nth_lt l 0
  have h1 := nth_lt l 1
  have h2 := nth_lt l 2
  have e1 : ∀ x y : Nat, x % 256 = y % 256 → UInt8.ofNat x = UInt8.ofNat y := fun x y h => by
    rw [← UInt8.toNat_inj, UInt8.toNat_ofNat', UInt8.toNat_ofNat']; exact h
  have a0 : UInt8.ofNat (val3 l / 65536) = UInt8.ofNat (nth l 0) := e1 _ _ (by unfold val3; omega)
  have a1 : UInt8.ofNat (val3 l / 256) = UInt8.ofNat (nth l 1) := e1 _ _ (by unfold val3; omega)
  have a2 : UInt8.ofNat (val3 l) = UInt8.ofNat (nth l 2) := e1 _ _ (by unfold val3; omega)
  unfold three
  rw [a0, a1, a2]
theorem three_head (l : List UInt8) (h : 3 ≤ l.length) : [UInt8.ofNat (nth l 0), UInt8.ofNat (nth l 1), UInt8.ofNat (nth l 2)] ++ l.drop 3 = l := by
  match l, h with
  | a :: b :: c :: r, _ =>
    show [UInt8.ofNat a.toNat, UInt8.ofNat b.toNat, UInt8.ofNat c.toNat] ++ r = _
    rw [UInt8.ofNat_toNat, UInt8.ofNat_toNat, UInt8.ofNat_toNat]
    rfl
/-- What is written is scanned as fours that give the bytes back. -/
theorem scan_enc (k : Nat) : ∀ (l : List UInt8) (wide : Nat) (vals : List Nat), l.length ≤ k → ∃ xs z, scanB vals 0 (enc wide l) = some (vals ++ xs, z) ∧ xs.length % 4 = 0 ∧ z ≤ 2 ∧ bytes3 xs = l ++ List.replicate z 0 := by
  induction k with
  | zero =>
    intro l wide vals h
    have : l = [] := List.eq_nil_of_length_eq_zero (by omega)
    subst this
    exact ⟨[], 0, by simp [enc_nil, scanB], rfl, by omega, rfl⟩
  | succ k ih =>
    intro l wide vals h
    rcases Nat.eq_zero_or_pos l.length with h0 | h0
    · have : l = [] := List.eq_nil_of_length_eq_zero h0
      subst this
      exact ⟨[], 0, by simp [enc_nil, scanB], rfl, by omega, rfl⟩
    · rw [enc_step wide l h0, List.append_assoc, scan_brk, scan_quad vals l _ h0]
      rcases (by omega : l.length < 3 ∨ 3 ≤ l.length) with h3 | h3
      · have hd : l.drop (min 3 l.length) = [] := List.drop_of_length_le (by omega)
        rw [hd, enc_nil]
        refine ⟨[lv l 0, lv l 1, lv l 2, lv l 3], padOf l, rfl, by simp, by unfold padOf; omega, ?_⟩
        show three (num4 _ _ _ _) ++ [] = _
        rw [num4_lv, three_val, List.append_nil]
        match l, h0, h3 with
        | [a], _, _ => simp [nth, padOf, List.replicate]
        | [a, b], _, _ => simp [nth, padOf, List.replicate]
      · have hp : padOf l = 0 := by unfold padOf; omega
        rw [hp, Nat.min_eq_left h3]
        obtain ⟨xs, z, h1, h2, h4, h5⟩ := ih (l.drop 3) (after wide) (vals ++ [lv l 0, lv l 1, lv l 2, lv l 3]) (by simp; omega)
        refine ⟨[lv l 0, lv l 1, lv l 2, lv l 3] ++ xs, z, by rw [h1]; simp, by simp; omega, h4, ?_⟩
        show three (num4 _ _ _ _) ++ bytes3 xs = _
        rw [num4_lv, three_val, h5, ← List.append_assoc, three_head l h3]
theorem cutPad_zeros (l : List UInt8) (z : Nat) (h : l.length ≤ 4000) : cutPad (l ++ List.replicate z 0) z = (l, 0) := by
  unfold cutPad
  have e : (l ++ List.replicate z (0 : UInt8)).length - z = l.length := by simp
  rw [e, List.drop_left, List.take_left, if_neg (by simp), if_neg (by omega)]
theorem enc_len2 (k : Nat) : ∀ (i : Nat) (l : List UInt8), l.length ≤ k → i ≤ 19 → (enc (4 * i) l).length ≤ 4 * ((l.length + 2) / 3) + 2 * (((l.length + 2) / 3 + i) / 19) := by
  induction k with
  | zero => intro i l h _; have : l = [] := List.eq_nil_of_length_eq_zero (by omega); subst this; simp [enc_nil]
  | succ k ih =>
    intro i l h hi
    rcases Nat.eq_zero_or_pos l.length with h0 | h0
    · have : l = [] := List.eq_nil_of_length_eq_zero h0; subst this; simp [enc_nil]
    · rw [enc_step _ l h0]
      simp only [List.length_append, quad_len]
      have hdl : (l.drop (min 3 l.length)).length = l.length - min 3 l.length := by simp
      by_cases h19 : i = 19
      · subst h19
        have h1 := ih 1 (l.drop (min 3 l.length)) (by omega) (by omega)
        have ha : after (4 * 19) = 4 * 1 := rfl
        have hb : (brk (4 * 19)).length = 2 := rfl
        rw [ha, hb]
        rw [hdl] at h1
        omega
      · have h1 := ih (i + 1) (l.drop (min 3 l.length)) (by omega) (by omega)
        have ha : after (4 * i) = 4 * (i + 1) := by unfold after; rw [if_neg (by omega)]; omega
        have hb : (brk (4 * i)).length = 0 := by unfold brk; rw [if_neg (by omega)]; rfl
        rw [ha, hb]
        rw [hdl] at h1
        omega
/-- BaseBack, the first half, plain: what is written is read. -/
theorem read_enc (l : List UInt8) (h : l.length ≤ 4000) : readB (enc 0 l) = (l, 0) := by
  have h8 := enc_len2 l.length 0 l (Nat.le_refl _) (by omega)
  rw [Nat.mul_zero] at h8
  unfold readB
  rw [if_neg (by omega)]
  obtain ⟨xs, z, h1, h2, h3, h4⟩ := scan_enc l.length l 0 [] (Nat.le_refl _)
  rw [h1]
  simp only [readFin, List.nil_append]
  rw [if_neg (by simp [h2]; omega), h4, cutPad_zeros l z h]
end Go.Proofs.YtoolfhjlhhcbgaaDoor
