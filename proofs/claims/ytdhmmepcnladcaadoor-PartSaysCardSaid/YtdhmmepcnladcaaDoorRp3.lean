import Derived.Test.YtdhmmepcnladcaaDoorRp2
namespace Go.Proofs.YtdhmmepcnladcaaDoor
open Go.RowKit

theorem okP_word (x : Nat) (hx : x < 256) : okP 33 126 [34, 60, 62] x = !badWord x := by
  revert hx; revert x; decide +kernel
set_option maxRecDepth 100000 in
set_option maxHeartbeats 1000000 in
theorem IsWord_any (l : List UInt8) (w : World) (hl : l.length ≤ maxLen) : Calls Tryd.prog 23 #[str l] w fun e w' => e = .returned (.bool (wordB l)) ∧ w' = w := by
  have hb := betweenP_any l 33 126 ⟨#[34, 60, 62]⟩ w hl (by omega) (by omega)
  rw [show (ByteArray.mk #[34, 60, 62]).data.toList = [34, 60, 62] from rfl, all_not l (okP 33 126 [34, 60, 62]) badWord okP_word] at hb
  unfold wordB
  generalize l.any (fun b => badWord b.toNat) = r at hb ⊢
  have Hb := Lib.hid hb
  unfold maxLen at hl
  clear hb
  go_enter Tryd.func23, Tryd.ntmps23
  go_wp2_with fail
  case' _ =>
    refine Hb.out.mono ?_
    rintro e w1 ⟨rfl, rfl⟩
    go_wp2_with fail
    go_ret
    have e2 : decide (l.length ≤ 120) = true := by simp; omega
    exact ⟨by rw [e2]; simp, rfl⟩
  go_ret
  have e1 : decide (l.length ≤ 120) = false := by rw [decide_eq_false_iff_not]; omega
  exact ⟨by rw [e1]; simp, rfl⟩
end Go.Proofs.YtdhmmepcnladcaaDoor
