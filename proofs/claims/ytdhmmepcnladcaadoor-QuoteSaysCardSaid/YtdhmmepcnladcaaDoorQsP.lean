import Derived.Test.YtdhmmepcnladcaaDoorQsM
import Derived.Lib.Case
namespace Go.Proofs.YtdhmmepcnladcaaDoor

/-! ### The document's writing of bytes as two digits -/
/-- The digits as strconv has them. -/
def lowDs : List UInt8 := [48, 49, 50, 51, 52, 53, 54, 55, 56, 57, 97, 98, 99, 100, 101, 102]
/-- strconv.FormatInt, base 16, of a byte. -/
def fmtQ (x : Nat) : List UInt8 := if x < 16 then [lowDs.getD x 0] else [lowDs.getD (x / 16) 0, lowDs.getD (x % 16) 0]
theorem up_fmt : ∀ x : Fin 256, Lib.toUpperA (fmtQ x.val) = if x.val < 16 then [digits.getD x.val 0] else [digits.getD (x.val / 16) 0, digits.getD (x.val % 16) 0] := by decide +kernel
theorem fmt_ascii : ∀ x : Fin 256, (fmtQ x.val).all (fun b => decide (b.toNat < 128)) = true := by decide +kernel
theorem fmt_len (x : Nat) : (fmtQ x).length = if x < 16 then 1 else 2 := by unfold fmtQ; split <;> rfl
theorem up_len (l : List UInt8) : (Lib.toUpperA l).length = l.length := by simp [Lib.toUpperA]
theorem one_out1 (c : UInt8) (hp : plainQ c.toNat = false) (h : c.toNat < 16) : [61] ++ ([48] ++ Lib.toUpperA (fmtQ c.toNat)) = oneQ c := by
  have hc := c.toNat_lt
  have := up_fmt ⟨c.toNat, hc⟩
  simp only at this
  rw [this, if_pos h]
  unfold oneQ
  rw [hp, show c.toNat / 16 = 0 by omega, show c.toNat % 16 = c.toNat by omega]
  rfl
theorem one_out2 (c : UInt8) (hp : plainQ c.toNat = false) (h : ¬ c.toNat < 16) : [61] ++ Lib.toUpperA (fmtQ c.toNat) = oneQ c := by
  have hc := c.toNat_lt
  have := up_fmt ⟨c.toNat, hc⟩
  simp only at this
  rw [this, if_neg h]
  unfold oneQ
  rw [hp]
  rfl
theorem one_plainQ (c : UInt8) (hp : plainQ c.toNat = true) : oneQ c = [c] := by
  unfold oneQ
  rw [if_pos hp]
theorem encQ_wide (l out line : List UInt8) (c : UInt8) (r : List UInt8) (h : out ++ line ++ encQ line.length (c :: r) = l) (hw : 75 < line.length + (oneQ c).length) : (out ++ line ++ [61, 13, 10]) ++ oneQ c ++ encQ (oneQ c).length r = l := by
  rw [← h, encQ, if_pos hw]
  simp
theorem encQ_fits (l out line : List UInt8) (c : UInt8) (r : List UInt8) (h : out ++ line ++ encQ line.length (c :: r) = l) (hw : ¬ 75 < line.length + (oneQ c).length) : out ++ (line ++ oneQ c) ++ encQ (line ++ oneQ c).length r = l := by
  rw [← h, encQ, if_neg hw, List.length_append]
  simp
/-! ### Two digits read -/
def hexSet : List UInt8 := [48, 49, 50, 51, 52, 53, 54, 55, 56, 57, 65, 66, 67, 68, 69, 70, 97, 98, 99, 100, 101, 102]
theorem hex_set : ∀ x : Fin 256, hexSet.contains (UInt8.ofNat x.val) = decide (0 ≤ hexQ x.val) := by decide +kernel
theorem hex_set1 (b : UInt8) : hexSet.contains b = decide (0 ≤ hexQ b.toNat) := by
  have := hex_set ⟨b.toNat, b.toNat_lt⟩
  simp only [UInt8.ofNat_toNat] at this
  exact this
/-- What a digit is worth. -/
def valQ (x : Nat) : Nat := (hexQ x).toNat
theorem val_dig : ∀ x : Fin 256, decide (0 ≤ hexQ x.val) = true → (decide (48 ≤ x.val) && decide (x.val ≤ 57)) = true → valQ x.val = x.val - 48 := by decide +kernel
theorem val_let : ∀ x : Fin 256, decide (0 ≤ hexQ x.val) = true → (decide (48 ≤ x.val) && decide (x.val ≤ 57)) = false → 97 ≤ (x.val ||| 32) ∧ (x.val ||| 32) ≤ 102 ∧ valQ x.val = (x.val ||| 32) - 87 := by decide +kernel
theorem val_lt : ∀ x : Fin 256, valQ x.val < 16 := by decide +kernel
end Go.Proofs.YtdhmmepcnladcaaDoor
