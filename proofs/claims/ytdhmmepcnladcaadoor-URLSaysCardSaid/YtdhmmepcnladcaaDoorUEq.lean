import Derived.Test.YtdhmmepcnladcaaDoorUrl10
import Derived.Laws.StructEq
namespace Go.Proofs.YtdhmmepcnladcaaDoor
open Go.RowKit

section
variable (W : World) (a0 a2 a3 a5 a7 : List UInt8) (a1 a4 a6 : Bool)
set_option maxRecDepth 100000 in
theorem same_url : (Op.equalIn 10000 59 (.agg #[str a0, .bool a1, str a2, str a3, .bool a4, str a5, .bool a6, str a7]) (.agg #[str a0, .bool a1, str a2, str a3, .bool a4, str a5, .bool a6, str a7])).run Tryd.prog W = .ok true W := by
  rw [run_equalIn_agg _ _ _ _ _ (by kernel_rfl) (by kernel_rfl)]
  have hs : ∀ l : List UInt8, (Op.equalIn 9999 9 (str l) (str l)).run Tryd.prog W = .ok true W := fun l => by
    rw [str_eq, run_equalIn_string W 9998 9 _ _ Tryd.underlying9]
    simp
  have hb : ∀ b : Bool, (Op.equalIn 9999 4 (.bool b) (.bool b)).run Tryd.prog W = .ok true W := fun b => by
    rw [run_equalIn_bool' W 9998 4 _ _ Tryd.underlying4]
    simp
  go_simp
theorem eql_url : (binOp .eql 59 (.agg #[str a0, .bool a1, str a2, str a3, .bool a4, str a5, .bool a6, str a7]) (.agg #[str a0, .bool a1, str a2, str a3, .bool a4, str a5, .bool a6, str a7])).run Tryd.prog W = .ok (.bool true) W := by
  rw [run_eql_struct, same_url]; rfl
theorem neq_url : (binOp .neq 59 (.agg #[str a0, .bool a1, str a2, str a3, .bool a4, str a5, .bool a6, str a7]) (.agg #[str a0, .bool a1, str a2, str a3, .bool a4, str a5, .bool a6, str a7])).run Tryd.prog W = .ok (.bool false) W := by
  rw [run_neq_struct, same_url]; rfl
end
end Go.Proofs.YtdhmmepcnladcaaDoor
