import Derived.Test.YtdhmmepcnladcaaDoorRp3
namespace Go.Proofs.YtdhmmepcnladcaaDoor
open Go.RowKit

theorem many_take (l : List UInt8) : manyB l = (List.take 10 l == [109, 117, 108, 116, 105, 112, 97, 114, 116, 47]) := by
  unfold manyB Lib.hasPrefix
  rw [Bool.eq_iff_iff, List.isPrefixOf_iff_prefix, List.prefix_iff_eq_take, beq_iff_eq]
  exact eq_comm
set_option maxRecDepth 100000 in
set_option maxHeartbeats 1000000 in
theorem IsMany_any (l : List UInt8) (w : World) (hl : l.length ≤ maxLen) : Calls Tryd.prog 21 #[str l] w fun e w' => e = .returned (.bool (manyB l)) ∧ w' = w := by
  unfold maxLen at hl
  by_cases h10 : 10 ≤ l.length
  · have i1 : (10 : Int) ≤ l.length := by omega
    have i0 : (0 : Int) ≤ 10 := by omega
    go_enter Tryd.func21, Tryd.ntmps21
    go_wp2_with fail
    go_ret
    exact ⟨by rw [many_take]; rfl, rfl⟩
  · go_enter Tryd.func21, Tryd.ntmps21
    go_wp2_with fail
    go_ret
    refine ⟨?_, rfl⟩
    have : manyB l = false := by
      unfold manyB Lib.hasPrefix
      rw [Bool.eq_false_iff]
      intro h
      have := (List.isPrefixOf_iff_prefix.1 h).length_le
      simp at this
      omega
    rw [this]; rfl
end Go.Proofs.YtdhmmepcnladcaaDoor
