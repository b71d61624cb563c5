import Derived.Test.YtoolfhjlhhcbgaaRead
import Derived.Test.YtoolfhjlhhcbgaaBaseL
import Derived.Lib.SlBytesConst
namespace Go.Proofs.Ytoolfhjlhhcbgaa
open Go.RowKit
attribute [local go_sem high] cut_bytes upto_bytes

set_option maxHeartbeats 400000 in
theorem lettered_any (w : World) : Calls Try.prog 10 #[] w fun e w' => e = .returned (.bool true) ∧ Below w.heap.size w w' := by
  have kc := fun (w : World) (C : Array Value) (n c : Nat) => Lib.run_convert_bytes_const (P := Try.prog) w 27 5 C n c Try.underlying27 Try.underlying5
  go_enter Try.func10, Try.ntmps10
  go_wp2_with fail
  refine (Write_ok _ 2 2 [77, 97] _ (By.block _ _ rfl) (by omega) (by omega)).mono ?_
  rintro e w1 ⟨rfl, hb1⟩
  have hbel1 : Below w.heap.size w w1 := ((Below.refl _ w).alloc (Nat.le_refl _) _).trans (hb1.mono (by simp))
  rw [enc_Ma]
  go_wp2_with fail
  refine (Read_any [32, 84, 32, 87, 70, 117, 13, 10] _ (by decide)).mono ?_
  rw [read_Man]
  rintro e w2 ⟨A, c, rfl, hby, hc, hb2⟩
  have hts := run_toStr (P := Try.prog) w2 27 9 5 _ A 3 c [77, 97, 110] hby Try.underlying27 Try.underlying5 Try.underlying9
  go_wp2_with fail
  go_ret
  exact ⟨rfl, hbel1.trans (hb2.mono hbel1.size)⟩

set_option maxHeartbeats 400000 in
theorem at_any (k n : Int) (w : World) (hk : -9223372036854775808 ≤ k ∧ k ≤ 9223372036854775807) (hn : 0 < n) (hn2 : n ≤ 9223372036854775807) :
    Calls Try.prog 11 #[.int .i64 k, .int .i64 n] w fun e w' => e = .returned (.int .i64 (k % n)) ∧ w = w' := by
  have h1 : -n < k.tmod n := Int.lt_tmod_of_pos k hn
  have h2 : k.tmod n < n := Int.tmod_lt_of_pos k hn
  have h3 : Hid (k % n = if k.tmod n < 0 then k.tmod n + n else k.tmod n) := by
    show k % n = _
    have e : k = k.tmod n + n * k.tdiv n := (Int.tmod_add_mul_tdiv k n).symm
    generalize k.tmod n = r at *
    generalize k.tdiv n = q at *
    subst e
    rw [Int.add_mul_emod_self_left]
    split
    · rw [← Int.add_emod_right, Int.emod_eq_of_lt (by omega) (by omega)]
    · exact Int.emod_eq_of_lt (by omega) h2
  go_enter Try.func11, Try.ntmps11
  by_cases h0 : k.tmod n < 0
  · go_wp2_with fail
    go_ret
    exact ⟨by rw [h3.out, if_pos h0]; rfl, rfl⟩
  · go_wp2_with fail
    go_ret
    exact ⟨by rw [h3.out, if_neg (by omega)]; rfl, rfl⟩

/-- The law's walk. -/
def LawPost (w : World) (e : Ending) (w' : World) : Prop := e = .returned (.bool true) ∧ Below w.heap.size w w'

set_option maxHeartbeats 1000000 in
theorem baseParts_walk (A : Option Addr) (n c : Nat) (l : List UInt8) (k : Int) (w : World) (hb : By w w.heap.size A n l) (hn : n ≤ c) (hm : c ≤ maxLen) (hk : -9223372036854775808 ≤ k ∧ k ≤ 9223372036854775807) :
    Calls Try.prog 4 #[.slice A n c, .int .i64 k] w (LawPost w) := by
  unfold maxLen at hm
  by_cases h4 : n ≤ 4000
  · by_cases h2 : n < 2
    · go_enter Try.func4, Try.ntmps4
      go_wp2_with fail
      refine (Write_ok A n c l _ hb hn h4).mono ?_
      rintro e w1 ⟨rfl, hb1⟩
      go_wp2_with fail
      refine (lettered_any _).mono ?_
      rintro e w2 ⟨rfl, hb2⟩
      go_wp2_with fail
      refine (lettered_any _).mono ?_
      rintro e w3 ⟨rfl, hb3⟩
      go_wp2_with fail
      go_ret
      exact ⟨rfl, (hb1.trans (hb2.mono hb1.size)).trans (hb3.mono (Nat.le_trans hb1.size hb2.size))⟩
    · obtain ⟨r, hr⟩ : ∃ r : Nat, k % (((n : Int) - 1) / 57 + 1) = (r : Int) := ⟨(k % (((n : Int) - 1) / 57 + 1)).toNat, by have := Int.emod_nonneg k (show ((n : Int) - 1) / 57 + 1 ≠ 0 by omega); omega⟩
      have hr1 : (r : Int) < ((n : Int) - 1) / 57 + 1 := by rw [← hr]; exact Int.emod_lt_of_pos k (by omega)
      have hrn : 57 * r < n := by omega
      have Hp : Hid (enc 0 l = enc 0 (l.take (57 * r)) ++ (if 0 < 57 * r then [13, 10] else []) ++ enc 0 (l.drop (57 * r))) := enc_parts l r (by rw [hb.len]; exact hrn)
      go_enter Try.func4, Try.ntmps4
      go_wp2_with fail
      refine (Write_ok A n c l _ hb hn h4).mono ?_
      rintro e w1 ⟨rfl, hb1⟩
      go_wp2_with fail
      refine (lettered_any _).mono ?_
      rintro e w2 ⟨rfl, hb2⟩
      go_wp2_with fail
      refine (at_any _ _ _ hk (by omega) (by omega)).mono ?_
      rintro e w3 ⟨rfl, rfl⟩
      have k0 : 0 ≤ 57 * (r : Int) := by omega
      have k1 : 57 * (r : Int) ≤ n := by omega
      have hby1 := (hb.below hb1).belowN hb2 hb1.size
      have hbel2 := hb1.trans (hb2.mono hb1.size)
      go_wp2_with fail
      have hbx := ((hby1.cut (k := 0) (c := c) (by omega) hn).upto (k := 57 * r) (by omega)).more hbel2.size
      rw [List.drop_zero] at hbx
      refine (Write_ok _ (57 * r) c _ _ hbx (by omega) (by omega)).mono ?_
      rintro e w4 ⟨rfl, hb4⟩
      have hbel4 := hbel2.trans (hb4.mono hbel2.size)
      have hX : (enc 0 (List.take (57 * r) l)).length ≤ 24000 := by
        have := enc_len _ 0 (List.take (57 * r) l) (Nat.le_refl _)
        have h2 := hbx.len
        omega
      generalize enc 0 (List.take (57 * r) l) = X at Hp hX ⊢
      go_wp2_with fail
      have hby2 := (hby1.cut (k := 57 * r) (c := c) (by omega) hn).more hbel2.size
      have hby3 := (hby2.below hb4).more hb4.size
      refine (Write_ok _ (n - 57 * r) (c - 57 * r) _ _ hby3 (by omega) (by omega)).mono ?_
      rintro e w5 ⟨rfl, hb5⟩
      have hbel5 := hbel4.trans (hb5.mono hbel4.size)
      have hY : (enc 0 (List.drop (57 * r) l)).length ≤ 24000 := by
        have := enc_len _ 0 (List.drop (57 * r) l) (Nat.le_refl _)
        have h2 := hby3.len
        omega
      generalize enc 0 (List.drop (57 * r) l) = Y at Hp hY ⊢
      by_cases hr0 : r = 0
      · subst hr0
        have hf : (enc 0 l == X ++ Y) = true := by rw [Hp.out]; simp
        clear Hp
        go_wp2_with fail
        go_ret
        exact ⟨rfl, hbel5⟩
      · have hf : Hid (enc 0 l = X ++ [13, 10] ++ Y) := by show _ = _; rw [Hp.out, if_pos (by omega)]
        have hl2 : X.length + 2 + Y.length ≤ 9223372036854775807 := by omega
        clear Hp
        go_wp2_with fail
        go_ret
        refine ⟨?_, hbel5⟩
        have h := hf.out
        show Ending.returned (Value.bool (enc 0 l == X ++ 13 :: 10 :: Y)) = _
        rw [h]
        simp
  · go_enter Try.func4, Try.ntmps4
    go_wp2_with fail
    refine (Write_many A n c _ h4 (by unfold maxLen; omega)).mono ?_
    rintro e w1 ⟨rfl, rfl⟩
    go_wp2_with fail
    refine (lettered_any _).mono ?_
    rintro e w2 ⟨rfl, hb2⟩
    go_wp2_with fail
    refine (lettered_any _).mono ?_
    rintro e w3 ⟨rfl, hb3⟩
    go_wp2_with fail
    go_ret
    exact ⟨rfl, hb2.trans (hb3.mono hb2.size)⟩
end Go.Proofs.Ytoolfhjlhhcbgaa
