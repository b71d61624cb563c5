import Derived.Test.YtoolfhjlhhcbgaaDoorBackW
namespace Go.Proofs.YtoolfhjlhhcbgaaDoor
open Go.RowKit

theorem replaceAll_any (L : List (List UInt8)) (m : Int) (w : World) (hm : w.cell? ⟨0, 0, none⟩ = some (.int .i64 m)) (hx13 : ∀ x ∈ L, ∀ c ∈ x, c ≠ 13) (hjl : (joinL L).length ≤ 24000) :
    Calls Tryd.prog 14 #[str (joinL L), .string ⟨#[13, 10]⟩, .string ⟨#[]⟩] w fun e w' => e = .returned (str L.flatten) ∧ Below w.heap.size w w' := by
  have hsz : (⟨(joinL L).toArray⟩ : ByteArray).size = (joinL L).length := by simp [ByteArray.size]
  have h := Go.Proofs.Tryd.strings_ReplaceAll ⟨(joinL L).toArray⟩ ⟨#[13, 10]⟩ ⟨#[]⟩ m w (by rw [hsz]; omega) hm (by decide) (by rw [hsz]; show _ + _ * 0 ≤ _; omega)
  have e : Lib.replaceAll (⟨(joinL L).toArray⟩ : ByteArray).data.toList (⟨#[13, 10]⟩ : ByteArray).data.toList (⟨#[]⟩ : ByteArray).data.toList = L.flatten := replaceAll_join L hx13
  rw [e] at h
  exact h

set_option maxHeartbeats 1000000 in
theorem baseBack_walk (A : Option Addr) (n c : Nat) (l s : List UInt8) (w : World) (hb : By w w.heap.size A n l) (hn : n ≤ c) (hm : c ≤ maxLen) (hs : s.length ≤ maxLen) (hM : MaxLenOk w) :
    Calls Tryd.prog 3 #[.slice A n c, str s] w (LawPost w) := by
  have hs2 : s.length ≤ 9223372036854775807 := hs
  unfold maxLen at hm
  have hxl := readB_len s
  have hR := fun W => Read_any s W hs2
  generalize readB s = r at hxl hR
  have HR := Lib.hid hR
  clear hR hs hs2
  obtain ⟨x, y⟩ := r
  have hxl2 : x.length ≤ 4000 := hxl
  have hxm : x.length ≤ maxLen := by unfold maxLen; exact Nat.le_trans hxl (by omega)
  clear hxl
  have HRx := Lib.hid (read_enc x hxl2)
  have hex : (enc 0 x).length ≤ 24000 := by have := enc_len _ 0 x (Nat.le_refl _); omega
  have hxx : (x == x) = true := by simp
  by_cases hy : y = 0
  case' pos =>
    subst hy
    go_enter Tryd.func3, Tryd.ntmps3
    go_wp2_with fail
    refine (HR.out _).mono ?_
    rintro e w1 ⟨A1, c1, rfl, hby1, hc1, hb1⟩
    go_wp2_with fail
    refine (Write_ok A1 x.length c1 x _ hby1 hc1 hxl2).mono ?_
    rintro e w2 ⟨rfl, hb2⟩
    have hbel2 := hb1.trans (hb2.mono hb1.size)
    go_wp2_with fail
    refine (Read_any (enc 0 x) _ (by omega)).mono ?_
    rw [HRx.out]
    rintro e w3 ⟨A3, c3, rfl, hby3, hc3, hb3⟩
    have hbel3 := hbel2.trans (hb3.mono hbel2.size)
    go_wp2_with fail
    have hby1' := (hby1.below hb2).belowN hb3 hb2.size
    refine (Equal_bytes A3 A1 x.length c3 x.length c1 _ _ x x _ hby3 hby1' hxm).mono ?_
    rintro e w4 ⟨rfl, q, rfl⟩
    go_wp2_with fail
    have hbelx : Below w.heap.size w (w3.drewN q) := belN hbel3 q
    generalize w3.drewN q = wx at hbelx ⊢
    clear hby1' hby3 hby1 hb1 hb2 hb3 hbel2 hbel3 HR HRx hxx hex hxm hxl2
  case' neg =>
    have hy0 : ((y : Int) == 0) = false := by simp; omega
    go_enter Tryd.func3, Tryd.ntmps3
    go_wp2_with fail
    refine (HR.out _).mono ?_
    rintro e w1 ⟨A1, c1, rfl, hby1, hc1, hb1⟩
    go_wp2_with fail
    have hbelx : Below w.heap.size w w1 := hb1
    generalize w1 = wx at hbelx ⊢
    clear hby1 hb1 HR HRx hxx hex hxm hxl2 hy0 hy
  all_goals
    by_cases h4 : n ≤ 4000
    · have hbx := (hb.belowN hbelx (Nat.le_refl _)).more hbelx.size
      refine (Write_ok A n c l _ hbx hn h4).mono ?_
      rintro e w5 ⟨rfl, hb5⟩
      have hbel5 := hbelx.trans (hb5.mono hbelx.size)
      go_wp2_with fail
      refine (lettered_any _).mono ?_
      rintro e w6 ⟨rfl, hb6⟩
      have hbel6 := hbel5.trans (hb6.mono hbel5.size)
      go_wp2_with fail
      have hl4 : l.length ≤ 4000 := by have := hb.len; omega
      have hel := enc_len _ 0 l (Nat.le_refl _)
      refine (Read_any (enc 0 l) _ (by omega)).mono ?_
      rw [read_enc l (by omega)]
      rintro e w7 ⟨A7, c7, rfl, hby7, hc7, hb7⟩
      have hbel7 := hbel6.trans (hb7.mono hbel6.size)
      have hM7 : MaxLenOk w7 := hM.below hbel7
      go_wp2_with fail
      have hb0 := (hb.belowN hbel7 (Nat.le_refl _))
      have hlm : l.length ≤ maxLen := by unfold maxLen; omega
      refine (Equal_bytes A7 A l.length c7 n c _ _ l l _ hby7 hb0 hlm).mono ?_
      rintro e w8 ⟨rfl, q8, rfl⟩
      have hbel8 := belN hbel7 q8
      have hll : (l == l) = true := by simp
      obtain ⟨L, hL0, hL1, hL2, hL3⟩ := enc_lines_of l.length l (Nat.le_refl _)
      have hx13 : ∀ x ∈ L, ∀ c ∈ x, c ≠ 13 := fun x h c hc => ((hL2 x h).2 c hc).1
      have HL3 := Lib.hid hL3
      have hjl : (joinL L).length ≤ 24000 := by rw [← hL1]; omega
      rw [hL1]
      clear hel hL1 hL3
      go_wp2_with fail
      refine (wide_any L _ (show MaxLenOk (w7.drewN q8) from hM7) hL0 hL2 hjl).mono ?_
      rintro e w9 ⟨rfl, hb9⟩
      have hbel9 := hbel8.trans (hb9.mono hbel8.size)
      have hM9 : MaxLenOk w9 := hM.below hbel9
      go_wp2_with fail
      obtain ⟨m, hm9⟩ := hM9
      have hra := replaceAll_any L m w9 hm9 hx13 hjl
      refine hra.mono ?_
      rintro e w10 ⟨rfl, hb10⟩
      have hbel10 := hbel9.trans (hb10.mono hbel9.size)
      have hfl : ((L.flatten.length : Int) == ((n : Int) + 2) / 3 * 4) = true := by
        have := HL3.out
        have := hb.len
        simp only [beq_iff_eq]
        omega
      clear hra hm9
      generalize L.flatten = F at hfl ⊢
      go_wp2_with fail
      go_ret
      exact ⟨rfl, hbel10⟩
    · refine (Write_many A n c _ h4 (by unfold maxLen; omega)).mono ?_
      rintro e w5 ⟨rfl, rfl⟩
      go_wp2_with fail
      refine (lettered_any _).mono ?_
      rintro e w6 ⟨rfl, hb6⟩
      go_wp2_with fail
      refine (lettered_any _).mono ?_
      rintro e w7 ⟨rfl, hb7⟩
      go_wp2_with fail
      go_ret
      exact ⟨rfl, (hbelx.trans (hb6.mono hbelx.size)).trans (hb7.mono (Nat.le_trans hbelx.size hb6.size))⟩
end Go.Proofs.YtoolfhjlhhcbgaaDoor
