import Derived.Test.YtdhmmepcnladcaaDoorHd6
import Derived.Lib.SlBytesConst
namespace Go.Proofs.YtdhmmepcnladcaaDoor
open Go.RowKit

theorem headP : parseF [65, 58, 32, 98, 59, 10, 32, 99, 13, 10, 68, 58, 101, 10, 10, 102] = ([⟨[65], [98, 59, 32, 99]⟩, ⟨[68], [101]⟩], 15, 0) := by decide +kernel
theorem headQ : paramsF [84, 101, 120, 116, 47, 88, 32, 59, 32, 97, 61, 34, 98, 32, 99, 34, 59, 32, 68, 61, 101] = ([116, 101, 120, 116, 47, 120], [⟨[97], [98, 32, 99]⟩, ⟨[100], [101]⟩], 0) := by decide +kernel
theorem headG : getF [⟨[65], [98, 59, 32, 99]⟩, ⟨[68], [101]⟩] [100] = [101] := by decide +kernel
theorem fields2 (w : World) (t : TypeId) (a b c d : List UInt8) : Sl (w.alloc (.cells #[str a, str b, str c, str d] t)) (w.heap.size + 1) 2 (some ⟨w.heap.size, 0, none⟩) 2 (fieldC [⟨a, b⟩, ⟨c, d⟩]) := Sl.row w t 2 2 [str a, str b, str c, str d] rfl
set_option maxRecDepth 100000 in
set_option maxHeartbeats 1000000 in
theorem headed_any (w : World) : Calls Tryd.prog 28 #[] w fun e w' => e = .returned (.bool true) ∧ Below w.heap.size w w' := by
  have kc := fun (w : World) (C : Array Value) (n c : Nat) => Lib.run_convert_bytes_const (P := Tryd.prog) w 22 5 C n c Tryd.underlying22 Tryd.underlying5
  have e1 : (([⟨[65], [98, 59, 32, 99]⟩, ⟨[68], [101]⟩] : List FieldD) == [⟨[65], [98, 59, 32, 99]⟩, ⟨[68], [101]⟩]) = true := by decide
  have e2 : (([⟨[97], [98, 32, 99]⟩, ⟨[100], [101]⟩] : List FieldD) == [⟨[97], [98, 32, 99]⟩, ⟨[100], [101]⟩]) = true := by decide
  go_enter Tryd.func28, Tryd.ntmps28
  go_wp2_with fail
  refine (Parse_fields [65, 58, 32, 98, 59, 10, 32, 99, 13, 10, 68, 58, 101, 10, 10, 102] _ 16 16 _ (By.block _ _ rfl) (by omega) (by unfold maxLen; omega)).mono ?_
  rw [headP]
  rintro e w1 ⟨S1, c1, rfl, hs1, _, hc1, _, hb1⟩
  have hbel1 : Below w.heap.size w w1 := ((Below.refl _ w).alloc (Nat.le_refl _) _).trans (hb1.mono (by simp))
  simp only [List.length_cons, List.length_nil] at hs1 hc1
  clear hb1
  go_wp2_with fail
  refine (Params_any [84, 101, 120, 116, 47, 88, 32, 59, 32, 97, 61, 34, 98, 32, 99, 34, 59, 32, 68, 61, 101] _ (by decide)).mono ?_
  rw [headQ]
  rintro e w2 ⟨S2, c2, rfl, hs2, _, hc2, _, hb2⟩
  have hbel2 := hbel1.trans (hb2.mono hbel1.size)
  have hs1 := (hs1.below hb2).more hb2.size
  simp only [List.length_cons, List.length_nil] at hs2 hc2
  clear hb2
  have Hs1 := Lib.hid hs1
  have Hs2 := Lib.hid hs2
  clear hs1 hs2
  go_wp2_with fail
  have hq1 := Equal_fields S1 (some ⟨w2.heap.size, 0, none⟩) 2 c1 2 2 _ _ _ _ (w2.alloc (.cells #[str [65], str [98, 59, 32, 99], str [68], str [101]] 46)) (Hs1.out.below ((Below.refl w2.heap.size w2).alloc (Nat.le_refl _) _)) (fields2 w2 46 [65] [98, 59, 32, 99] [68] [101]) (by omega) (by omega)
  rw [e1] at hq1
  refine hq1.mono ?_
  clear hq1
  rintro e w3 ⟨rfl, q3, rfl⟩
  have hbA := belN ((Below.refl w2.heap.size w2).alloc (Nat.le_refl _) (.cells #[str [65], str [98, 59, 32, 99], str [68], str [101]] 46)) q3
  generalize (w2.alloc (.cells #[str [65], str [98, 59, 32, 99], str [68], str [101]] 46)).drewN q3 = w3 at hbA ⊢
  have hbel3 := hbel2.trans (hbA.mono hbel2.size)
  have Hs1 := Lib.hid ((Hs1.out.below hbA).more hbA.size)
  have Hs2 := Lib.hid ((Hs2.out.below hbA).more hbA.size)
  clear hbA
  go_wp2_with fail
  have hq2 := Equal_fields S2 (some ⟨w3.heap.size, 0, none⟩) 2 c2 2 2 _ _ _ _ (w3.alloc (.cells #[str [97], str [98, 32, 99], str [100], str [101]] 46)) (Hs2.out.below ((Below.refl w3.heap.size w3).alloc (Nat.le_refl _) _)) (fields2 w3 46 [97] [98, 32, 99] [100] [101]) (by omega) (by omega)
  rw [e2] at hq2
  refine hq2.mono ?_
  clear hq2
  rintro e w4 ⟨rfl, q4, rfl⟩
  have hbA := belN ((Below.refl w3.heap.size w3).alloc (Nat.le_refl _) (.cells #[str [97], str [98, 32, 99], str [100], str [101]] 46)) q4
  generalize (w3.alloc (.cells #[str [97], str [98, 32, 99], str [100], str [101]] 46)).drewN q4 = w4 at hbA ⊢
  have hbel4 := hbel3.trans (hbA.mono hbel3.size)
  have Hs1 := Lib.hid ((Hs1.out.below hbA).more hbA.size)
  clear hbA
  go_wp2_with fail
  have hg := Get_ascii [⟨[65], [98, 59, 32, 99]⟩, ⟨[68], [101]⟩] [100] S1 2 c1 _ w4 Hs1.out (Nat.le_refl _) (by unfold maxLen; omega) (by intro f hf; simp only [List.mem_cons, List.not_mem_nil, or_false] at hf; rcases hf with rfl | rfl <;> exact ⟨by decide, by decide⟩) ⟨by decide, by decide⟩
  rw [headG] at hg
  refine hg.mono ?_
  clear hg
  rintro e w5 ⟨rfl, hb5⟩
  go_wp2_with fail
  go_ret
  exact ⟨rfl, hbel4.trans (hb5.mono hbel4.size)⟩
end Go.Proofs.YtdhmmepcnladcaaDoor
