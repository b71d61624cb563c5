import Derived.Test.YthnahldnepmipaaDoorMaxL
import Derived.Test.YthnahldnepmipaaDoorOpen
import Derived.Test.YthnahldnepmipaaDoorCards
import Derived.Test.YthnahldnepmipaaDoorTie
import Derived.Deep.DeepHandedRow
import Derived.Lay
namespace Go.Proofs.YthnahldnepmipaaDoor
open Go.ChangeShapes Go.WideShapes Go.ChangeAt Go.RowKit

theorem maxLen_of_shaped {W : World} (h : W.ShapedOpen Tryd.prog) : MaxLenOk W := Go.Proofs.Tryd.laysM219.s1_3 W h
end Go.Proofs.YthnahldnepmipaaDoor
