import Derived.Test.YtdhmmepcnladcaaDoorQsU
import Derived.Test.YtdhmmepcnladcaaDoorMaxL
import Derived.Test.YtdhmmepcnladcaaDoorTrim
namespace Go.Proofs.YtdhmmepcnladcaaDoor
open Go.RowKit

theorem ParseUint_hex (l : List UInt8) (w : World) (hl : l.length = 2) (h0 : 0 ≤ hexQ (nth l 0)) (h1 : 0 ≤ hexQ (nth l 1)) :
    Calls Tryd.prog 154 #[str l, .int .i64 16, .int .i64 8] w fun e w' => e = .returned (.tuple #[.int .u64 ((valQ (nth l 0) * 16 + valQ (nth l 1) : Nat) : Int), .nilIface]) ∧ Below w.heap.size w w' := by
  have K := Lib.hid (fun X => iParseUint_hex l X hl h0 h1)
  generalize valQ (nth l 0) * 16 + valQ (nth l 1) = n at *
  clear hl h0 h1
  go_enter Tryd.func154, Tryd.ntmps154
  go_wp2_with fail
  refine (K.out _).mono ?_
  rintro e w1 ⟨rfl, hb1⟩
  go_wp2_with fail
  refine bodyPost_ret (v := .tuple #[.int .u64 (n : Nat), .nilIface]) (by simp [results, Tryd.results154, go_sem]) rfl ⟨rfl, hb1⟩
theorem ToUpper_any (l : List UInt8) (w : World) (hl : l.length ≤ 1000000) (ha : l.all (fun b => decide (b.toNat < 128)) = true) : Calls Tryd.prog 64 #[str l] w fun e w' => e = .returned (str (Lib.toUpperA l)) ∧ Below w.heap.size w w' := by
  refine (Go.Proofs.Tryd.strings_ToUpper_ascii ⟨l.toArray⟩ w (by simp [ByteArray.size]; omega) (fun j x hx => ?_)).mono ?_
  · have := List.all_eq_true.1 ha x (List.mem_of_getElem? hx)
    simpa using this
  · rintro e w' ⟨rfl, hb⟩
    exact ⟨rfl, hb⟩
theorem SplitAfter_one (l : List UInt8) (w : World) (hM : MaxLenOk w) (hl : l.length ≤ 1000000) :
    Calls Tryd.prog 153 #[str l, .string ⟨#[10]⟩] w fun e w' => e = .returned (.slice (some ⟨w.heap.size, 0, none⟩) (splitC 10 l).length (splitC 10 l).length) ∧ w' = w.alloc (.cells ((afterC 10 (splitC 10 l)).map str).toArray 9) := by
  obtain ⟨m, hm⟩ := hM
  obtain ⟨hs1, hs2⟩ := splitB_after 10 l
  have hsz : (⟨l.toArray⟩ : ByteArray).size = l.length := by simp [ByteArray.size]
  have hle := splitC_len 10 l
  have k := fun X hX => Go.Proofs.Tryd.strings_genSplit ⟨l.toArray⟩ ⟨#[10]⟩ 1 (-1) (splitC 10 l).length m X (by rw [hsz]; omega) hX (by decide) (by decide) (by decide) (by decide) (by rw [if_pos (by decide), ← hs2, hsz]; have := hs2; omega)
  have hN : (splitC 10 l).length - 1 = Lib.countB ⟨l.toArray⟩ ⟨#[10]⟩ := by omega
  have hlen : (Lib.splitB ⟨#[10]⟩ 1 (Lib.countB ⟨l.toArray⟩ ⟨#[10]⟩) ⟨l.toArray⟩).length = (splitC 10 l).length := by
    have := congrArg List.length hs1
    rw [List.length_map, List.length_map, afterC_len] at this
    exact this
  have hcells : Lib.cellsOf (Lib.splitB ⟨#[10]⟩ 1 (Lib.countB ⟨l.toArray⟩ ⟨#[10]⟩) ⟨l.toArray⟩) (splitC 10 l).length = ((afterC 10 (splitC 10 l)).map str).toArray := by
    rw [← hs1, ← hlen]
    exact Lib.cellsOf_full _
  rw [hN, hlen, hcells] at k
  generalize ((afterC 10 (splitC 10 l)).map str).toArray = C at *
  generalize (splitC 10 l).length = n at *
  have K := Lib.hid k
  have HM := Lib.hid hm
  clear k hm hs1 hs2 hN hlen hcells hle
  go_enter Tryd.func153, Tryd.ntmps153
  go_wp2_with fail
  refine (K.out _ HM.out).mono ?_
  rintro e w1 ⟨rfl, rfl⟩
  go_wp2_with fail
  go_ret
  exact ⟨rfl, rfl⟩
theorem Contains_blank (l : List UInt8) (w : World) (hl : l.length = 1) : Calls Tryd.prog 31 #[.string ⟨#[32, 9, 13]⟩, str l] w fun e w' => e = .returned (.bool (([32, 9, 13] : List UInt8).contains (l.getD 0 0))) ∧ w = w' := by
  obtain ⟨c, rfl⟩ : ∃ c, l = [c] := by
    match l, hl with
    | [c], _ => exact ⟨c, rfl⟩
  refine (Go.Proofs.Tryd.strings_Contains_one ⟨#[32, 9, 13]⟩ c w).mono ?_
  rintro e w' ⟨rfl, rfl⟩
  refine ⟨?_, rfl⟩
  show Ending.returned (.bool (decide (0 ≤ Lib.indexByte [32, 9, 13] c))) = Ending.returned (.bool (([32, 9, 13] : List UInt8).contains c))
  have hn := indexByte_neg [32, 9, 13] c
  have e : decide (0 ≤ Lib.indexByte [32, 9, 13] c) = ([32, 9, 13] : List UInt8).contains c := by
    rw [Bool.eq_iff_iff, decide_eq_true_eq, List.contains_iff_mem]
    by_cases hm : c ∈ ([32, 9, 13] : List UInt8)
    · have : ¬ Lib.indexByte [32, 9, 13] c < 0 := fun h => hn.1 h hm
      constructor
      · intro _; exact hm
      · intro _; omega
    · have := hn.2 hm
      constructor
      · intro h; omega
      · intro h; exact absurd h hm
  rw [e]
theorem Trim_hex (l : List UInt8) (w : World) (hl : l.length ≤ maxLen) : Calls Tryd.prog 94 #[str l, .string ⟨hexSet.toArray⟩] w fun e w' => e = .returned (str (Lib.trimS l hexSet)) ∧ Below w.heap.size w w' :=
  Any.strings_Trim_laid Go.Proofs.Tryd.lays160 (by kernel_rfl) ⟨l.toArray⟩ ⟨hexSet.toArray⟩ w (by unfold maxLen at hl; simpa [ByteArray.size] using hl) (by decide) (ascii_of_all (by decide))
end Go.Proofs.YtdhmmepcnladcaaDoor
