import Derived.Test.YtdhmmepcnladcaaDoorLk2
import Derived.Test.YtdhmmepcnladcaaDoorFun
import Derived.Test.YtdhmmepcnladcaaDoorUrlP
namespace Go.Proofs.YtdhmmepcnladcaaDoor
open Go.RowKit

theorem IndexByte_lit (l : List UInt8) (x : Nat) (w : World) :
    Calls Tryd.prog 93 #[str l, .int .u8 (x : Int)] w fun e w' => e = .returned (.int .i64 (Lib.indexByte l (UInt8.ofNat x))) ∧ w = w' := IndexByte_any l x w
set_option maxRecDepth 100000 in
theorem char_any (x : Nat) (hx : x < 256) (w : World) : Calls Tryd.prog 180 #[.int .u8 (x : Int)] w fun e w' => e = .returned (.bool (charU x)) ∧ w = w' := by
  by_cases h1 : 32 < x
  · by_cases h2 : x ≤ 126
    · have hi := IndexByte_any noU x w
      rw [show charU x = decide (Lib.indexByte noU (UInt8.ofNat x) < 0) by simp [charU, h1, h2]]
      generalize Lib.indexByte noU (UInt8.ofNat x) = i at hi ⊢
      have Hi := Lib.hid hi
      clear hi
      go_enter Tryd.func180, Tryd.ntmps180
      go_wp2_with fail
      refine Hi.out.mono ?_
      rintro e w1 ⟨rfl, rfl⟩
      go_wp2_with fail
      all_goals
        go_ret
        exact ⟨rfl, rfl⟩
    · rw [show charU x = false by simp [charU, h2]]
      go_enter Tryd.func180, Tryd.ntmps180
      go_wp2_with fail
      go_ret
      exact ⟨rfl, rfl⟩
  · rw [show charU x = false by simp [charU, h1]]
    go_enter Tryd.func180, Tryd.ntmps180
    go_wp2_with fail
    go_ret
    exact ⟨rfl, rfl⟩
end Go.Proofs.YtdhmmepcnladcaaDoor
