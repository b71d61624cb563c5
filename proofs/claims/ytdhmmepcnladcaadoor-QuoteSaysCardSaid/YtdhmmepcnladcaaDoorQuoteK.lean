import Derived.Test.YtdhmmepcnladcaaDoorQuoteW
import Derived.Lib.SlBytesConst
namespace Go.Proofs.YtdhmmepcnladcaaDoor
open Go.RowKit
attribute [local go_sem high] cut_bytes upto_bytes

theorem encQ_a : encQ 0 [97, 61, 10] = [97, 61, 51, 68, 61, 48, 65] := by decide +kernel
theorem readQ_x : readQ [120, 61, 51, 100, 32, 13, 10, 121, 61, 10] = ([120, 61, 13, 10, 121], 0) := by decide +kernel
set_option maxHeartbeats 400000 in
theorem quoted_any (w : World) : Calls Tryd.prog 73 #[] w fun e w' => e = .returned (.bool true) ∧ Below w.heap.size w w' := by
  have kc := fun (w : World) (C : Array Value) (n c : Nat) => Lib.run_convert_bytes_const (P := Tryd.prog) w 22 5 C n c Tryd.underlying22 Tryd.underlying5
  go_enter Tryd.func73, Tryd.ntmps73
  go_wp2_with fail
  refine (quoteWrite_ok _ 3 3 [97, 61, 10] _ (By.block _ _ rfl) (by omega) (by omega)).mono ?_
  rintro e w1 ⟨rfl, hb1⟩
  have hbel1 : Below w.heap.size w w1 := ((Below.refl _ w).alloc (Nat.le_refl _) _).trans (hb1.mono (by simp))
  rw [encQ_a]
  go_wp2_with fail
  refine (quoteRead_any [120, 61, 51, 100, 32, 13, 10, 121, 61, 10] _ (by decide)).mono ?_
  rw [readQ_x]
  rintro e w2 ⟨A, c, rfl, hby, hc, hb2⟩
  have hts := run_toStr (P := Tryd.prog) w2 22 9 5 _ A 5 c [120, 61, 13, 10, 121] hby Tryd.underlying22 Tryd.underlying5 Tryd.underlying9
  go_wp2_with fail
  go_ret
  exact ⟨rfl, hbel1.trans (hb2.mono hbel1.size)⟩
end Go.Proofs.YtdhmmepcnladcaaDoor
