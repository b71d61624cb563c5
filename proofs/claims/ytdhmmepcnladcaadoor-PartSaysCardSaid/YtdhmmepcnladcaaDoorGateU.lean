import Derived.Test.YtdhmmepcnladcaaDoorGateR
import Derived.Test.YtdhmmepcnladcaaDoorSmR
import Derived.LaidSub
import Derived.LaidMore
import Derived.MakeChecks
import Derived.Lib.LaidU8T
namespace Go.Proofs.YtdhmmepcnladcaaDoor
open Go.ChangeShapes Go.WideShapes Go.ChangeAt Go.RowKit

def u8Names (x : String × DataW Unit) : Bool := x.1 == "unicode/utf8.first" || x.1 == "unicode/utf8.acceptRanges"
set_option maxRecDepth 100000 in
/-- What a row's laid table gives. -/
theorem u8Ok_of_laid {W : World} {laid : List (String × DataW Unit)} (h : laidMetH Tryd.prog laid W) (e : laid.filter u8Names = [("unicode/utf8.acceptRanges", Lib.acceptData), ("unicode/utf8.first", Lib.firstData)]) : U8Ok W := by
  have h1 := h.filter u8Names
  rw [e, MakeChecks.laidMetH_plain _ _ _ (by kernel_rfl)] at h1
  exact utf8Tabs_of_readsT (U8Types.of260 Go.Proofs.Tryd.lays260) ⟨by kernel_rfl, by kernel_rfl, by kernel_rfl, by kernel_rfl, by kernel_rfl, by kernel_rfl, by kernel_rfl⟩ (Lib.laidMet.reads h1 (.tail _ (.head _))) (Lib.laidMet.reads h1 (.head _))
end Go.Proofs.YtdhmmepcnladcaaDoor
