import Derived.Test.YtoolfhjlhhcbgaaDoorRead
import Derived.Test.YtoolfhjlhhcbgaaDoorBaseL
import Derived.Lib.SlBytesConst
namespace Go.Proofs.YtoolfhjlhhcbgaaDoor
open Go.RowKit
attribute [local go_sem high] cut_bytes upto_bytes

set_option maxHeartbeats 400000 in
theorem lettered_any (w : World) : Calls Tryd.prog 12 #[] w fun e w' => e = .returned (.bool true) ∧ Below w.heap.size w w' := by
  have kc := fun (w : World) (C : Array Value) (n c : Nat) => Lib.run_convert_bytes_const (P := Tryd.prog) w 22 5 C n c Tryd.underlying22 Tryd.underlying5
  go_enter Tryd.func12, Tryd.ntmps12
  go_wp2_with fail
  refine (Write_ok _ 2 2 [77, 97] _ (By.block _ _ rfl) (by omega) (by omega)).mono ?_
  rintro e w1 ⟨rfl, hb1⟩
  have hbel1 : Below w.heap.size w w1 := ((Below.refl _ w).alloc (Nat.le_refl _) _).trans (hb1.mono (by simp))
  rw [enc_Ma]
  go_wp2_with fail
  refine (Read_any [32, 84, 32, 87, 70, 117, 13, 10] _ (by decide)).mono ?_
  rw [read_Man]
  rintro e w2 ⟨A, c, rfl, hby, hc, hb2⟩
  have hts := run_toStr (P := Tryd.prog) w2 22 9 5 _ A 3 c [77, 97, 110] hby Tryd.underlying22 Tryd.underlying5 Tryd.underlying9
  go_wp2_with fail
  go_ret
  exact ⟨rfl, hbel1.trans (hb2.mono hbel1.size)⟩

/-- The law's walk. -/
def LawPost (w : World) (e : Ending) (w' : World) : Prop := e = .returned (.bool true) ∧ Below w.heap.size w w'

end Go.Proofs.YtoolfhjlhhcbgaaDoor
