/-
  PROVED HERE: MimeSays: for every part, every bytes and every border (within what memory can hold) the call returns true, and nothing that was in memory is changed.
  CONDITIONS: none beyond the given row's own (the listed variables start as the program's text lays them).
-/
import Derived.Test.YtinfjdfhkfhgjaaGreatDoorU15
namespace Go.Proofs.YtinfjdfhkfhgjaaGreatDoor
open Go.ChangeShapes Go.WideShapes Go.ChangeAt Go.RowKit
open Go.ChangeMaps (open_string shut_string)

/-- No parameter wants a stand-in; the program's own looks are off. -/
theorem mimeSays_plain (f : FuncId) (fn : Func) (hf : Tryz.pinned.checked.prog.funcNamed Rows.mimeSaysRow.func = some f) (hfn : Tryz.pinned.checked.prog.funcs[f]? = some fn) :
    true = Tryz.pinned.checked.prog.looks [] ∧ ∀ (j : Nat) t, fn.params[j]? = some t → Tryz.pinned.checked.prog.wantsStandIn t = false := by
  obtain rfl : f = 3 := Option.some.inj ((show Tryz.prog.funcNamed Rows.mimeSaysRow.func = some 3 by kernel_rfl).symm.trans hf) |>.symm
  obtain rfl : fn = Tryz.f3 := (Option.some.inj (Tryz.func3.symm.trans hfn)).symm
  refine ⟨by kernel_rfl, fun j t ht => ?_⟩
  rw [Tryz.params3] at ht
  have hm : t ∈ [25, 22, 9] := by simpa using Array.mem_of_getElem? ht
  have hall : ([25, 22, 9].all fun u => !Tryz.prog.wantsStandIn u) = true := by kernel_rfl
  exact (show Tryz.prog.wantsStandIn t = false by simpa using List.all_eq_true.1 hall t hm)

/-- The statement: the card. -/
theorem mimeSays_card : Rows.MimeSaysCardSaid :=
  Claim7.holds_tied_plain_at .later [] _ _ _ _ mimeSays_said (fun _ h => by cases h) (by as_aux_lemma => kernel_rfl) (fun _ h => by cases h) mimeSays_row_tie rfl ⟨rfl, rfl⟩ (by as_aux_lemma => kernel_rfl) rfl mimeSays_plain (by as_aux_lemma => kernel_rfl)

end Go.Proofs.YtinfjdfhkfhgjaaGreatDoor
