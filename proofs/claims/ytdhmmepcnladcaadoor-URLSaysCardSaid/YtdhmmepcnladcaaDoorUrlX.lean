import Derived.Test.YtdhmmepcnladcaaDoorUrlL
import Derived.KernelRfl
namespace Go.Proofs.YtdhmmepcnladcaaDoor
/-! ### Closed facts: one is led to -/
def ubU : UrlD := ⟨[104, 116, 116, 112], true, [104], [47, 97, 47, 98], true, [99], false, []⟩
def uuU : UrlD := ⟨[], false, [], [46, 46, 47, 100], false, [], true, [101]⟩
def uxU : UrlD := ⟨[104, 116, 116, 112], true, [104], [47, 100], false, [], true, [101]⟩
theorem read_ub : readU [72, 84, 84, 80, 58, 47, 47, 72, 47, 97, 47, 98, 63, 99] = (ubU, 0) := by kernel_rfl
theorem read_uu : readU [46, 46, 47, 100, 35, 101] = (uuU, 0) := by kernel_rfl
theorem lead_ux : leadU ubU uuU = (uxU, 0) := by kernel_rfl
theorem print_ux : printU uxU = ([104, 116, 116, 112, 58, 47, 47, 104, 47, 100, 35, 101], 0) := by kernel_rfl
end Go.Proofs.YtdhmmepcnladcaaDoor
