import Derived.Test.YtoolfhjlhhcbgaaDoorMaxL
import Derived.Test.YtoolfhjlhhcbgaaDoorOpen
import Derived.Test.YtoolfhjlhhcbgaaDoorCards
import Derived.Test.YtoolfhjlhhcbgaaDoorTie
import Derived.Deep.DeepHandedRow
import Derived.Lib.LaidTab
import Derived.LaidMore
namespace Go.Proofs.YtoolfhjlhhcbgaaDoor
open Go.ChangeShapes Go.WideShapes Go.ChangeAt Go.RowKit

theorem maxLen_of_shaped {W : World} (h : W.ShapedOpen Tryd.prog) : MaxLenOk W := Go.Proofs.Tryd.laysM219.s1_3 W h

/-- The cells of a row of integers. -/
def rowCells : DataW Unit → List Value
  | .agg ds => ds.map fun | .lit (.int k n) => Value.int k n | _ => undef
  | _ => []
/-- A world for the witness: the heap that the door's own run leaves, the pinned table laid into its block. -/
noncomputable def laidWorld (os : Os) : World :=
  { World.doorLaid Tryd.prog 400 os with heap := (World.doorLaid Tryd.prog 400 os).heap.modify 1 fun
      | .cells _ t fr => .cells (rowCells Rows.laid_unicode_utf8_first).toArray t fr
      | o => o }
end Go.Proofs.YtoolfhjlhhcbgaaDoor
