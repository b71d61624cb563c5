/-
  PROVED HERE: BundleSays: for every part p and all texts from and to the call returns true, and nothing that was in memory is changed.
  CONDITIONS: none beyond the given row's own (the listed variables start as the program's text lays them).
-/
import Derived.Test.YtlbdnohnngkapaaGreatDoorU19
namespace Go.Proofs.YtlbdnohnngkapaaGreatDoor
open Go.ChangeShapes Go.WideShapes Go.ChangeAt Go.RowKit
open Go.ChangeMaps (open_string shut_string)

/-- No parameter wants a stand-in; the program's own looks are off. -/
theorem bundleSays_plain (f : FuncId) (fn : Func) (hf : Tryz.pinned.checked.prog.funcNamed Rows.bundleSaysRow.func = some f) (hfn : Tryz.pinned.checked.prog.funcs[f]? = some fn) :
    true = Tryz.pinned.checked.prog.looks [] ∧ ∀ (j : Nat) t, fn.params[j]? = some t → Tryz.pinned.checked.prog.wantsStandIn t = false := by
  obtain rfl : f = 10 := Option.some.inj ((show Tryz.prog.funcNamed Rows.bundleSaysRow.func = some 10 by kernel_rfl).symm.trans hf) |>.symm
  obtain rfl : fn = Tryz.f10 := (Option.some.inj (Tryz.func10.symm.trans hfn)).symm
  refine ⟨by kernel_rfl, fun j t ht => ?_⟩
  rw [Tryz.params10] at ht
  have hm : t ∈ [25, 9, 9] := by simpa using Array.mem_of_getElem? ht
  have hall : ([25, 9, 9].all fun u => !Tryz.prog.wantsStandIn u) = true := by kernel_rfl
  exact (show Tryz.prog.wantsStandIn t = false by simpa using List.all_eq_true.1 hall t hm)

/-- The statement: the card. -/
theorem bundleSays_card : Rows.BundleSaysCardSaid :=
  Claim7.holds_tied_plain_at .later [] _ _ _ _ bundleSays_said (fun _ h => by cases h) (by as_aux_lemma => kernel_rfl) (fun _ h => by cases h) bundleSays_row_tie rfl ⟨rfl, rfl⟩ (by as_aux_lemma => kernel_rfl) rfl bundleSays_plain (by as_aux_lemma => kernel_rfl)

end Go.Proofs.YtlbdnohnngkapaaGreatDoor
