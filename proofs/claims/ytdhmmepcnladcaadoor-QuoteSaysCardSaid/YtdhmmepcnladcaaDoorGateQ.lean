import Derived.Test.YtdhmmepcnladcaaDoorGateL
import Derived.Test.YtdhmmepcnladcaaDoorQsF
import Derived.LaidSub
import Derived.LaidMore
import Derived.MakeChecks
namespace Go.Proofs.YtdhmmepcnladcaaDoor
open Go.ChangeShapes Go.WideShapes Go.ChangeAt Go.RowKit

set_option maxRecDepth 100000 in
/-- What the row's laid table gives. -/
theorem deOk_of_laid {W : World} (h : laidMetH Tryd.prog Rows.quoteSaysRow.laid W) : DeOk W := by
  have h1 := h.filter (fun x => x.1 == "math/bits.deBruijn64tab")
  have e : (Rows.quoteSaysRow.laid.filter (fun x => x.1 == "math/bits.deBruijn64tab")) = [("math/bits.deBruijn64tab", Rows.laid_math_bits_deBruijn64tab)] := by kernel_rfl
  rw [e, MakeChecks.laidMetH_plain _ _ _ (by kernel_rfl)] at h1
  obtain ⟨ps, ⟨g, t, cs, fuel, p, q, hg, ht, hv, hd, _, _⟩, _, _⟩ := h1
  obtain rfl := Option.some.inj ((show Tryd.prog.globalNamed "math/bits.deBruijn64tab" = some 10 by kernel_rfl).symm.trans hg)
  obtain rfl := Option.some.inj ((show (Tryd.prog.globals[10]?).map (·.type) = some 238 by kernel_rfl).symm.trans ht)
  obtain ⟨xs, m, _, ex, _, hl, hel⟩ := DataW.trod_array Tryd.underlying238 hd
  have c5 : Tryd.prog.cellsOf 5 = 1 := by kernel_rfl
  have hE := hel 15 (by omega)
  rw [c5, Nat.mul_one, List.getElem?_eq_getElem (by omega)] at hE
  obtain ⟨z, e1, e2, _⟩ := DataW.trod_int Tryd.underlying5 hE
  have e3 : (DataW.agg (xs.map (·.1)) : DataW Unit) = Rows.laid_math_bits_deBruijn64tab := ((Prod.mk.inj ex).1).symm
  have e4 : (xs.map (·.1))[15]? = some (DataW.lit (.int .u8 4) : DataW Unit) := by
    unfold Rows.laid_math_bits_deBruijn64tab at e3
    rw [DataW.agg.inj e3]
    rfl
  rw [List.getElem?_map, List.getElem?_eq_getElem (by omega : 15 < xs.length), e2] at e4
  have hz : z = 4 := by
    simp only [Option.map_some, Option.some.injEq, DataW.lit.injEq, Lit.int.injEq, true_and] at e4
    exact e4
  unfold DeOk
  rw [World.var?_cell hg hv 15]
  have : cs.toList[15]? = some (.int .u8 z) := by
    have h0 : ((cs.toList.drop 15).take 1)[0]? = some (.int .u8 z) := by rw [e1]; rfl
    simpa using h0
  rw [hz] at this
  simpa using this
end Go.Proofs.YtdhmmepcnladcaaDoor
