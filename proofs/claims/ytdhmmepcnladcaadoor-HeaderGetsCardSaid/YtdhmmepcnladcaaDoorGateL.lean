import Derived.Test.YtdhmmepcnladcaaDoorMaxL
import Derived.Test.YtdhmmepcnladcaaDoorOpen
import Derived.Test.YtdhmmepcnladcaaDoorCards
import Derived.Test.YtdhmmepcnladcaaDoorTie
import Derived.Deep.DeepHandedRow
import Derived.Lay
namespace Go.Proofs.YtdhmmepcnladcaaDoor
open Go.ChangeShapes Go.WideShapes Go.ChangeAt Go.RowKit

theorem maxLen_of_shaped {W : World} (h : W.ShapedOpen Tryd.prog) : MaxLenOk W := Go.Proofs.Tryd.laysM219.s1_3 W h
end Go.Proofs.YtdhmmepcnladcaaDoor
