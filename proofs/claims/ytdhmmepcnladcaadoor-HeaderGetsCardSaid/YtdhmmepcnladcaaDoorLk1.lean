import Derived.Test.YtdhmmepcnladcaaDoorStr
import Derived.Test.YtdhmmepcnladcaaDoorLinkM
import Derived.Lib.SmallJoins
namespace Go.Proofs.YtdhmmepcnladcaaDoor
open Go.RowKit

theorem isSp_eq : ∀ x : Fin 256, isSp x.val = decide (0 ≤ Lib.indexByte [32, 9, 13, 10, 12] (UInt8.ofNat x.val)) := by decide +kernel
theorem IndexByte_any (l : List UInt8) (x : Nat) (w : World) :
    Calls Tryd.prog 93 #[.string ⟨l.toArray⟩, .int .u8 (x : Int)] w fun e w' => e = .returned (.int .i64 (Lib.indexByte l (UInt8.ofNat x))) ∧ w = w' := by
  refine (Go.Proofs.Tryd.strings_IndexByte ⟨l.toArray⟩ (x : Int) w).mono ?_
  rintro e w' ⟨rfl, rfl⟩
  exact ⟨rfl, rfl⟩
theorem space_any (x : Nat) (hx : x < 256) (w : World) : Calls Tryd.prog 182 #[.int .u8 (x : Int)] w fun e w' => e = .returned (.bool (isSp x)) ∧ w = w' := by
  have h := isSp_eq ⟨x, hx⟩
  simp only at h
  have hi := IndexByte_any [32, 9, 13, 10, 12] x w
  generalize Lib.indexByte [32, 9, 13, 10, 12] (UInt8.ofNat x) = i at h hi
  rw [h]
  have Hi := Lib.hid hi
  clear h hi
  go_enter Tryd.func182, Tryd.ntmps182
  go_wp2_with fail
  refine Hi.out.mono ?_
  rintro e w1 ⟨rfl, rfl⟩
  go_wp2_with fail
  go_ret
  exact ⟨rfl, rfl⟩
theorem or32 : ∀ x : Fin 256, bits .or .u8 ((x.val : Nat) : Int) 32 = ((x.val ||| 32 : Nat) : Int) := by decide +kernel
theorem letter_any (x : Nat) (hx : x < 256) (w : World) : Calls Tryd.prog 127 #[.int .u8 (x : Int)] w fun e w' => e = .returned (.bool (isLet x)) ∧ w = w' := by
  have h := or32 ⟨x, hx⟩
  simp only at h
  unfold isLet
  generalize x ||| 32 = y at h ⊢
  by_cases h1 : 97 ≤ y
  · have d1 : decide (97 ≤ y) = true := by simpa using h1
    rw [d1]
    go_enter Tryd.func127, Tryd.ntmps127
    go_wp2_with fail
    go_ret
    exact ⟨by simp; omega, rfl⟩
  · have d1 : decide (97 ≤ y) = false := by simpa using h1
    rw [d1]
    go_enter Tryd.func127, Tryd.ntmps127
    go_wp2_with fail
    go_ret
    exact ⟨by simp, rfl⟩
theorem leads_any (l : List UInt8) (w : World) : Calls Tryd.prog 188 #[str l] w fun e w' => e = .returned (.bool (leadsB l)) ∧ w = w' := by
  unfold leadsB
  by_cases h1 : l = [104, 114, 101, 102]
  · subst h1
    go_enter Tryd.func188, Tryd.ntmps188
    go_wp2_with fail
    go_ret
    exact ⟨rfl, rfl⟩
  · have e : (l == [104, 114, 101, 102]) = false := by simpa using h1
    rw [e, Bool.false_or]
    go_enter Tryd.func188, Tryd.ntmps188
    go_wp2_with fail
    go_ret
    exact ⟨rfl, rfl⟩
end Go.Proofs.YtdhmmepcnladcaaDoor
