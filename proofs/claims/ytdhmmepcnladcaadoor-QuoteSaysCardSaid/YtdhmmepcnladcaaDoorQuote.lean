import Derived.Test.YtdhmmepcnladcaaDoorBase
import Derived.Test.YtdhmmepcnladcaaDoorQuoteM

namespace Go.Proofs.YtdhmmepcnladcaaDoor
open Go.RowKit

theorem and15 : ∀ x : Fin 256, bits .and .u8 ((x.val : Nat) : Int) 15 = ((x.val % 16 : Nat) : Int) := by decide +kernel

set_option maxRecDepth 100000 in
set_option maxHeartbeats 400000 in
theorem one_plain (c : UInt8) (w : World) (h : plainQ c.toNat = true) : Calls Tryd.prog 205 #[.int .u8 (c.toNat : Int)] w fun e w' => e = .returned (str [c]) ∧ Below w.heap.size w w' := by
  have hx := c.toNat_lt
  have hts := run_toStr (P := Tryd.prog) (w.alloc (.cells #[.int .u8 (c.toNat : Int)] 5)) 22 9 5 _ _ 1 1 [c] (By.block w [c] rfl) Tryd.underlying22 Tryd.underlying5 Tryd.underlying9
  simp only [plainQ, Bool.and_eq_true, decide_eq_true_eq, Bool.not_eq_true', beq_eq_false_iff_ne] at h
  obtain ⟨⟨h1, h2⟩, h3⟩ := h
  generalize c.toNat = x at *
  have h3' : ((x : Int) != 61) = true := by simp; omega
  go_enter Tryd.func205, Tryd.ntmps205
  go_wp2_with fail
  go_ret
  exact ⟨rfl, (Below.refl _ w).alloc (Nat.le_refl _) _⟩

theorem code_str (w : World) (p q : Nat) :
    (convert 22 9 (.slice (some ⟨w.heap.size, 0, none⟩) 3 3)).run Tryd.prog ((w.alloc (.cells #[.int .u8 61, .int .u8 (nth [48, 49, 50, 51, 52, 53, 54, 55, 56, 57, 65, 66, 67, 68, 69, 70] p : Nat), .int .u8 (nth [48, 49, 50, 51, 52, 53, 54, 55, 56, 57, 65, 66, 67, 68, 69, 70] q : Nat)] 212)).drew) =
      .ok (str [61, digits.getD p 0, digits.getD q 0]) ((w.alloc (.cells #[.int .u8 61, .int .u8 (nth [48, 49, 50, 51, 52, 53, 54, 55, 56, 57, 65, 66, 67, 68, 69, 70] p : Nat), .int .u8 (nth [48, 49, 50, 51, 52, 53, 54, 55, 56, 57, 65, 66, 67, 68, 69, 70] q : Nat)] 212)).drew) :=
  run_toStr (P := Tryd.prog) _ 22 9 5 _ _ 3 3 [61, digits.getD p 0, digits.getD q 0] (By.block w [61, digits.getD p 0, digits.getD q 0] rfl) Tryd.underlying22 Tryd.underlying5 Tryd.underlying9

set_option maxRecDepth 100000 in
set_option maxHeartbeats 400000 in
theorem one_low (c : UInt8) (w : World) (h : c.toNat ≤ 32) : Calls Tryd.prog 205 #[.int .u8 (c.toNat : Int)] w fun e w' => e = .returned (str (oneQ c)) ∧ Below w.heap.size w w' := by
  have hx := c.toNat_lt
  have hand := and15 ⟨c.toNat, hx⟩
  have ho : oneQ c = [61, digits.getD (c.toNat / 16) 0, digits.getD (c.toNat % 16) 0] := by
    unfold oneQ; rw [if_neg (by simp [plainQ]; omega)]
  rw [ho]
  clear ho
  have hts := code_str w (c.toNat / 16) (c.toNat % 16)
  generalize c.toNat = x at *
  simp only at hand
  go_enter Tryd.func205, Tryd.ntmps205
  go_wp2_with fail
  go_region
  go_wp2_with fail
  go_ret
  exact ⟨rfl, ((Below.refl _ w).alloc (Nat.le_refl _) _).drew⟩

set_option maxRecDepth 100000 in
set_option maxHeartbeats 400000 in
theorem one_high (c : UInt8) (w : World) (h : 126 < c.toNat) : Calls Tryd.prog 205 #[.int .u8 (c.toNat : Int)] w fun e w' => e = .returned (str (oneQ c)) ∧ Below w.heap.size w w' := by
  have hx := c.toNat_lt
  have hand := and15 ⟨c.toNat, hx⟩
  have ho : oneQ c = [61, digits.getD (c.toNat / 16) 0, digits.getD (c.toNat % 16) 0] := by
    unfold oneQ; rw [if_neg (by simp [plainQ]; omega)]
  rw [ho]
  clear ho
  have hts := code_str w (c.toNat / 16) (c.toNat % 16)
  generalize c.toNat = x at *
  simp only at hand
  go_enter Tryd.func205, Tryd.ntmps205
  go_wp2_with fail
  go_region
  go_wp2_with fail
  go_ret
  exact ⟨rfl, ((Below.refl _ w).alloc (Nat.le_refl _) _).drew⟩

set_option maxRecDepth 100000 in
set_option maxHeartbeats 400000 in
theorem one_eq (c : UInt8) (w : World) (h : c.toNat = 61) : Calls Tryd.prog 205 #[.int .u8 (c.toNat : Int)] w fun e w' => e = .returned (str (oneQ c)) ∧ Below w.heap.size w w' := by
  have hx := c.toNat_lt
  have hand := and15 ⟨c.toNat, hx⟩
  have ho : oneQ c = [61, digits.getD (c.toNat / 16) 0, digits.getD (c.toNat % 16) 0] := by
    unfold oneQ; rw [if_neg (by simp [plainQ]; omega)]
  rw [ho]
  clear ho
  have hts := code_str w (c.toNat / 16) (c.toNat % 16)
  generalize c.toNat = x at *
  simp only at hand
  have h1 : 32 < x := by omega
  have h2 : x ≤ 126 := by omega
  have h3 : ((x : Int) != 61) = false := by simp [h]
  clear h
  go_enter Tryd.func205, Tryd.ntmps205
  go_wp2_with fail
  go_region
  go_wp2_with fail
  go_ret
  exact ⟨rfl, ((Below.refl _ w).alloc (Nat.le_refl _) _).drew⟩

theorem one_any (c : UInt8) (w : World) : Calls Tryd.prog 205 #[.int .u8 (c.toNat : Int)] w fun e w' => e = .returned (str (oneQ c)) ∧ Below w.heap.size w w' := by
  by_cases hp : plainQ c.toNat = true
  · have : oneQ c = [c] := by unfold oneQ; rw [if_pos hp]
    rw [this]; exact one_plain c w hp
  · by_cases h1 : c.toNat ≤ 32
    · exact one_low c w h1
    · by_cases h2 : 126 < c.toNat
      · exact one_high c w h2
      · refine one_eq c w ?_
        simp [plainQ] at hp
        omega

def QTextRel (w : World) (n : Nat) (l T : List UInt8) (wv iv : Value) (wr : World) : Prop :=
  ∃ (i wide : Nat) (out : List UInt8), iv = .int .i64 (i : Nat) ∧ wv = .int .i64 (wide : Nat) ∧ i ≤ n ∧ wide ≤ 75 ∧ Hid (out ++ encQ wide (l.drop i) = T) ∧ Bld w.heap.size out wr ∧ Below w.heap.size w wr

set_option maxRecDepth 100000 in
set_option maxHeartbeats 1000000 in
theorem QText_any (A : Option Addr) (n c : Nat) (l : List UInt8) (w : World) (hb : By w w.heap.size A n l) (hn : n ≤ c) (hc : n ≤ 4000) :
    Calls Tryd.prog 151 #[.slice A n c] w fun e w' => e = .returned (str (encQ 0 l)) ∧ Below w.heap.size w w' := by
  obtain ⟨T, hT⟩ : ∃ T, T = encQ 0 l := ⟨_, rfl⟩
  have hl := hb.len
  have hTl : T.length ≤ 24000 := by
    have := encQ_len l 0
    rw [hT]; omega
  rw [← hT]
  have HT := Lib.hid hT; have Hl := Lib.hid hl; clear hT hl
  go_enter Tryd.func151, Tryd.ntmps151
  go_wp2_with fail
  go_loopw [4, 10] (QTextRel w n l T) (fun _ iv _ => n - (intOf iv).toNat)
  case atStart => exact ⟨0, 0, [], rfl, rfl, by omega, by omega, by show [] ++ encQ 0 l = T; rw [HT.out]; rfl, Bld.fresh w, (Below.refl _ _).alloc (Nat.le_refl _) _⟩
  case round =>
    obtain ⟨i, wide, out, rfl, rfl, hi, hw, hE, hB, hbel⟩ := hrel
    by_cases hin : i < n
    · have hby := hb.below hbel
      obtain ⟨b, off, rfl, _, hcell⟩ := hby.at_ hin
      obtain ⟨x, hx, hd⟩ : ∃ x : UInt8, x.toNat = nth l i ∧ l.drop i = x :: l.drop (i + 1) :=
        ⟨l[i]'(by rw [Hl.out]; exact hin), by rw [nth_of l i (by rw [Hl.out]; exact hin)], List.drop_eq_getElem_cons (by rw [Hl.out]; exact hin)⟩
      rw [← hx] at hcell
      have hE2 : Hid (out ++ encQ wide (x :: l.drop (i + 1)) = T) := by show _ = _; rw [← hd]; exact hE.out
      have hol : out.length ≤ 24000 := by have := congrArg List.length hE.out; simp at this; omega
      clear hE hx hd
      go_wp2_with fail
      refine (one_any x _).mono ?_
      rintro e w1 ⟨rfl, hb1⟩
      have hB1 := hB.below hb1
      have hbel1 := hbel.trans (hb1.mono hbel.size)
      have h13 := oneQ_len x
      have hob : (oneQ x).length ≤ 3 := by omega
      by_cases h75 : 75 < wide + (oneQ x).length
      · have hE3 : Hid (out ++ [61, 13, 10] ++ oneQ x ++ encQ (oneQ x).length (l.drop (i + 1)) = T) := by
          have h := hE2.out; unfold encQ at h; rw [if_pos h75] at h; show _ = _; rw [← h]; simp
        clear hE2 h13
        go_wp2_with fail
        refine (WriteString_any w.heap.size out [61, 13, 10] _ hB1 (by simp; omega)).mono ?_
        rintro e w2 ⟨rfl, hB2, hb2⟩
        go_wp2_with fail
        refine (WriteString_any w.heap.size _ (oneQ x) _ hB2 (by simp; omega)).mono ?_
        rintro e w3 ⟨rfl, hB3, hb3⟩
        go_wp2_with fail
        exact ⟨⟨i + 1, (oneQ x).length, _, by go_num, by go_num, by omega, by omega, hE3, hB3, (hbel1.trans hb2).trans hb3⟩, by simp [intOf]; omega⟩
      · have hE3 : Hid (out ++ oneQ x ++ encQ (wide + (oneQ x).length) (l.drop (i + 1)) = T) := by
          have h := hE2.out; unfold encQ at h; rw [if_neg h75] at h; show _ = _; rw [← h]; simp
        clear hE2 h13
        go_wp2_with fail
        refine (WriteString_any w.heap.size out (oneQ x) _ hB1 (by omega)).mono ?_
        rintro e w3 ⟨rfl, hB3, hb3⟩
        go_wp2_with fail
        exact ⟨⟨i + 1, wide + (oneQ x).length, _, by go_num, by go_num, by omega, by omega, hE3, hB3, hbel1.trans hb3⟩, by simp [intOf]; omega⟩
    · have ho : out = T := by
        have h := hE.out
        rw [List.drop_of_length_le (by rw [Hl.out]; omega)] at h
        simpa [encQ] using h
      subst ho
      go_wp2_with fail
      refine (String_any w.heap.size out _ hB).mono ?_
      rintro e w1 ⟨rfl, hb1⟩
      go_wp2_with fail
      go_ret
      exact ⟨rfl, hbel.trans hb1⟩
end Go.Proofs.YtdhmmepcnladcaaDoor
