import Derived.Test.YtoolfhjlhhcbgaaDoorLk12
import Derived.Lib.SlBytesConst
namespace Go.Proofs.YtoolfhjlhhcbgaaDoor
open Go.RowKit

def lkB : List UInt8 := [60, 97, 32, 120, 32, 104, 114, 101, 102, 61, 39, 98, 39, 62, 60, 33, 45, 45, 32, 60, 97, 32, 104, 114, 101, 102, 61, 99, 62, 32, 45, 45, 62, 60, 73, 77, 71, 32, 83, 82, 67, 61, 100, 38, 97, 109, 112, 59, 101, 62]
def lkC : List UInt8 := [60, 97, 32, 120, 32, 104, 114, 101, 102, 61, 39, 113, 39, 62, 60, 33, 45, 45, 32, 60, 97, 32, 104, 114, 101, 102, 61, 99, 62, 32, 45, 45, 62, 60, 73, 77, 71, 32, 83, 82, 67, 61, 100, 38, 97, 109, 112, 59, 101, 62]
theorem lk_find : findE lkB = ([⟨11, 12, [98]⟩, ⟨42, 49, [100, 38, 101]⟩], 0) := by decide +kernel
theorem lk_put : putE lkB [[113], []] = (lkC, 0) := by decide +kernel
set_option maxRecDepth 100000 in
set_option maxHeartbeats 1000000 in
theorem linked_any (w : World) (hM : MaxLenOk w) : Calls Tryd.prog 33 #[] w fun e w' => e = .returned (.bool true) ∧ Below w.heap.size w w' := by
  have kc := fun (C : Array Value) (n c : Nat) => Lib.run_convert_bytes_const (P := Tryd.prog) w 22 5 C n c Tryd.underlying22 Tryd.underlying5
  go_enter Tryd.func33, Tryd.ntmps33
  go_wp2_with fail
  generalize hW1 : w.alloc _ = W1
  have hb1 : Below w.heap.size w W1 := by rw [← hW1]; exact (Below.refl _ w).alloc (Nat.le_refl _) _
  have hby1 : By W1 W1.heap.size (some ⟨w.heap.size, 0, none⟩) 50 lkB := by rw [← hW1]; exact By.block w lkB rfl rfl
  have hf := Find_any (some ⟨w.heap.size, 0, none⟩) 50 50 lkB W1 (hM.below hb1) hby1 (Nat.le_refl _) (by unfold maxLen; omega)
  rw [lk_find] at hf
  clear hW1 kc
  refine hf.mono ?_
  clear hf
  rintro e w2 ⟨S, c2, rfl, hown2, hb2⟩
  have hbel2 := hb1.trans (hb2.mono hb1.size)
  have hbw3 : Below w2.heap.size w2 (w2.alloc (.cells #[str [113], str []] 9)) := (Below.refl _ w2).alloc (Nat.le_refl _) _
  have hbel3 := hbel2.trans (hbw3.mono hbel2.size)
  have hby3 := ((hby1.below hb2).below (hbw3.mono hb2.size)).more (Nat.le_trans hb2.size hbw3.size)
  have hp := Put_any (some ⟨w.heap.size, 0, none⟩) (some ⟨w2.heap.size, 0, none⟩) 50 50 2 2 lkB [[113], []] (w2.alloc (.cells #[str [113], str []] 9)) (hM.below hbel3) hby3 (Nat.le_refl _) (by unfold maxLen; omega)
    ((Sl.row w2 9 1 2 ([[113], []].map str) rfl).more (by simp)) (by decide)
  rw [lk_put] at hp
  have Hp := Lib.hid hp
  have hown3 := own_below hown2 hbw3
  clear hp hown2 hbw3 hb2
  go_wp2_with fail
  refine Hp.out.mono ?_
  clear Hp
  rintro e w4 ⟨S4, c4, rfl, hown4, hb4⟩
  have hbel4 := hbel3.trans (hb4.mono hbel3.size)
  have hown34 := own_below hown3 hb4
  have hbA : Below w4.heap.size w4 (w4.alloc (.cells #[.int .i64 11, .int .i64 12, str [98], .int .i64 42, .int .i64 49, str [100, 38, 101]] 54)) := (Below.refl _ w4).alloc (Nat.le_refl _) _
  have hslA := (Sl.of_own hown34).below hbA
  have hslB : Sl (w4.alloc (.cells #[.int .i64 11, .int .i64 12, str [98], .int .i64 42, .int .i64 49, str [100, 38, 101]] 54)) (w4.heap.size + 1) 3 (some ⟨w4.heap.size, 0, none⟩) 2 (linkC [⟨11, 12, [98]⟩, ⟨42, 49, [100, 38, 101]⟩]) := Sl.row w4 54 3 2 _ rfl
  have heq := Equal_links S (some ⟨w4.heap.size, 0, none⟩) 2 c2 2 2 _ _ [⟨11, 12, [98]⟩, ⟨42, 49, [100, 38, 101]⟩] [⟨11, 12, [98]⟩, ⟨42, 49, [100, 38, 101]⟩] _ hslA hslB (by omega) (by omega)
  rw [beq_self_eq_true] at heq
  have hby4 := (By.of_own hown4).below hbA
  have hts := fun k => run_toStr (P := Tryd.prog) ((w4.alloc (.cells #[.int .i64 11, .int .i64 12, str [98], .int .i64 42, .int .i64 49, str [100, 38, 101]] 54)).drewN k) 22 9 5 _ S4 lkC.length c4 lkC hby4 Tryd.underlying22 Tryd.underlying5 Tryd.underlying9
  have Heq := Lib.hid heq
  have hbelA := hbel4.trans (hbA.mono hbel4.size)
  clear hown4 hown34 hslA hslB heq hby4 hown3
  go_wp2_with fail
  refine Heq.out.mono ?_
  rintro e w5 ⟨rfl, q, rfl⟩
  go_wp2_with fail
  go_ret
  exact ⟨rfl, belN hbelA q⟩
end Go.Proofs.YtoolfhjlhhcbgaaDoor
