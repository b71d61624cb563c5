import Derived.Test.YtoolfhjlhhcbgaaDoorReadM
import Derived.KernelRfl
namespace Go.Proofs.YtoolfhjlhhcbgaaDoor

theorem quad_append (a r : List UInt8) (h : 3 ≤ a.length) : quad (a ++ r) = quad a := by
  match a, h with
  | x :: y :: z :: t, _ =>
    simp only [quad, val3, List.cons_append, nth, List.getD, List.length_cons, List.length_append]
    congr 2
theorem enc_line (k : Nat) : ∀ (i : Nat) (a r : List UInt8), k + i = 19 → a.length = 3 * k → enc (4 * i) (a ++ r) = enc (4 * i) a ++ enc 76 r := by
  induction k with
  | zero =>
    intro i a r hi ha
    have : a = [] := List.eq_nil_of_length_eq_zero (by omega)
    subst this
    have : i = 19 := by omega
    subst this
    simp [enc_nil]
  | succ k ih =>
    intro i a r hi ha
    have hw : after (4 * i) = 4 * (i + 1) := by unfold after; rw [if_neg (by omega)]; omega
    rw [enc_step (4 * i) (a ++ r) (by simp; omega), enc_step (4 * i) a (by omega), quad_append a r (by omega), hw]
    have e1 : min 3 (a ++ r).length = 3 := by simp; omega
    have e2 : min 3 a.length = 3 := by omega
    rw [e1, e2, List.drop_append_of_le_length (by omega), ih (i + 1) (a.drop 3) r (by omega) (by simp; omega)]
    simp
theorem enc_76 (r : List UInt8) (h : 0 < r.length) : enc 76 r = [13, 10] ++ enc 0 r := by
  rw [enc_step 76 r h, enc_step 0 r h]
  simp [brk, after]
theorem enc_lines (j : Nat) : ∀ (a r : List UInt8), a.length = 57 * (j + 1) → 0 < r.length → enc 0 (a ++ r) = enc 0 a ++ [13, 10] ++ enc 0 r := by
  induction j with
  | zero =>
    intro a r ha hr
    rw [enc_line 19 0 a r rfl (by omega), enc_76 r hr]
    simp
  | succ j ih =>
    intro a r ha hr
    have e : a = a.take 57 ++ a.drop 57 := (List.take_append_drop 57 a).symm
    have h1 : (a.take 57).length = 3 * 19 := by simp; omega
    have h2 : (a.drop 57).length = 57 * (j + 1) := by simp; omega
    generalize a.take 57 = x at *
    generalize a.drop 57 = y at *
    subst e
    rw [List.append_assoc, enc_line 19 0 x (y ++ r) rfl h1, enc_line 19 0 x y rfl h1, enc_76 (y ++ r) (by simp; omega), enc_76 y (by omega), ih y r h2 hr]
    simp
/-- BaseParts, plain. -/
theorem enc_parts (l : List UInt8) (j : Nat) (h : 57 * j < l.length) : enc 0 l = enc 0 (l.take (57 * j)) ++ (if 0 < 57 * j then [13, 10] else []) ++ enc 0 (l.drop (57 * j)) := by
  cases j with
  | zero => simp [enc_nil]
  | succ j =>
    rw [if_pos (by omega)]
    have h1 : (l.take (57 * (j + 1))).length = 57 * (j + 1) := by simp; omega
    have h2 : 0 < (l.drop (57 * (j + 1))).length := by simp; omega
    have := enc_lines j _ _ h1 h2
    rw [List.take_append_drop] at this
    exact this
theorem enc_Ma : enc 0 ([77, 97] : List UInt8) = [84, 87, 69, 61] := by
  rw [enc_step 0 _ (by decide)]
  show brk 0 ++ quad [77, 97] ++ enc (after 0) [] = _
  rw [enc_nil]
  kernel_rfl
theorem read_Man : readB [32, 84, 32, 87, 70, 117, 13, 10] = ([77, 97, 110], 0) := by kernel_rfl
end Go.Proofs.YtoolfhjlhhcbgaaDoor
