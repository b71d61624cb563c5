import Derived.Test.YtoolfhjlhhcbgaaDoorQuoteW
import Derived.Test.YtoolfhjlhhcbgaaDoorQuoteL
import Derived.Test.YtoolfhjlhhcbgaaDoorBackW
import Derived.Test.YtoolfhjlhhcbgaaDoorFun
namespace Go.Proofs.YtoolfhjlhhcbgaaDoor
open Go.RowKit
attribute [local go_sem high] cut_bytes upto_bytes

theorem encQ_a : encQ 0 [97, 61, 10] = [97, 61, 51, 68, 61, 48, 65] := by decide +kernel
theorem readQ_x : readQ [120, 61, 51, 100, 32, 13, 10, 121, 61, 10] = ([120, 61, 13, 10, 121], 0) := by decide +kernel
set_option maxHeartbeats 400000 in
theorem quoted_any (w : World) : Calls Tryd.prog 39 #[] w fun e w' => e = .returned (.bool true) ∧ Below w.heap.size w w' := by
  have kc := fun (w : World) (C : Array Value) (n c : Nat) => Lib.run_convert_bytes_const (P := Tryd.prog) w 22 5 C n c Tryd.underlying22 Tryd.underlying5
  go_enter Tryd.func39, Tryd.ntmps39
  go_wp2_with fail
  refine (quoteWrite_ok _ 3 3 [97, 61, 10] _ (By.block _ _ rfl) (by omega) (by omega)).mono ?_
  rintro e w1 ⟨rfl, hb1⟩
  have hbel1 : Below w.heap.size w w1 := ((Below.refl _ w).alloc (Nat.le_refl _) _).trans (hb1.mono (by simp))
  rw [encQ_a]
  go_wp2_with fail
  refine (quoteRead_any [120, 61, 51, 100, 32, 13, 10, 121, 61, 10] _ (by decide)).mono ?_
  rw [readQ_x]
  rintro e w2 ⟨A, c, rfl, hby, hc, hb2⟩
  have hts := run_toStr (P := Tryd.prog) w2 22 9 5 _ A 5 c [120, 61, 13, 10, 121] hby Tryd.underlying22 Tryd.underlying5 Tryd.underlying9
  go_wp2_with fail
  go_ret
  exact ⟨rfl, hbel1.trans (hb2.mono hbel1.size)⟩

theorem replaceJ_any (L : List (List UInt8)) (m : Int) (w : World) (hm : w.cell? ⟨0, 0, none⟩ = some (.int .i64 m)) (hx13 : ∀ x ∈ L, ∀ c ∈ x, c ≠ 13) (hjl : (joinL L).length ≤ 24000) :
    Calls Tryd.prog 14 #[str (joinL L), .string ⟨#[13, 10]⟩, .string ⟨#[]⟩] w fun e w' => e = .returned (str L.flatten) ∧ Below w.heap.size w w' := by
  have hsz : (⟨(joinL L).toArray⟩ : ByteArray).size = (joinL L).length := by simp [ByteArray.size]
  have h := Go.Proofs.Tryd.strings_ReplaceAll ⟨(joinL L).toArray⟩ ⟨#[13, 10]⟩ ⟨#[]⟩ m w (by rw [hsz]; omega) hm (by decide) (by rw [hsz]; show _ + _ * 0 ≤ _; omega)
  have e : Lib.replaceAll (⟨(joinL L).toArray⟩ : ByteArray).data.toList (⟨#[13, 10]⟩ : ByteArray).data.toList (⟨#[]⟩ : ByteArray).data.toList = L.flatten := replaceAll_join L hx13
  rw [e] at h
  exact h
theorem replaceE_any (l : List UInt8) (m : Int) (w : World) (hm : w.cell? ⟨0, 0, none⟩ = some (.int .i64 m)) (hl : l.length ≤ 4000) :
    Calls Tryd.prog 14 #[str (encQ 0 l), .string ⟨#[61, 13, 10]⟩, .string ⟨#[]⟩] w fun e w' => e = .returned (str (Lib.replaceAll (encQ 0 l) [61, 13, 10] [])) ∧ Below w.heap.size w w' := by
  have hsz : (⟨(encQ 0 l).toArray⟩ : ByteArray).size = (encQ 0 l).length := by simp [ByteArray.size]
  have hel := encQ_len l 0
  exact Go.Proofs.Tryd.strings_ReplaceAll ⟨(encQ 0 l).toArray⟩ ⟨#[61, 13, 10]⟩ ⟨#[]⟩ m w (by rw [hsz]; omega) hm (by decide) (by rw [hsz]; show _ + _ * 0 ≤ _; omega)

/-! ### QuoteBack -/
def badR (r : Nat) : Bool := decide (r ≤ 32) || decide (126 < r)
set_option maxHeartbeats 400000 in
theorem quoteBack1_any (x : Nat) (hx : x ≤ 1114111) (w : World) : Calls Tryd.prog 44 #[.int .i32 (x : Int)] w fun e w' => e = .returned (.bool (badR x)) ∧ w = w' := by
  have e : badR x = (decide ((x : Int) ≤ 32) || decide ((126 : Int) < x)) := by unfold badR; congr 1 <;> (apply decide_eq_decide.2; omega)
  rw [e]
  clear e
  go_enter Tryd.func44, Tryd.ntmps44
  go_wp2_with fail
  all_goals
    go_ret
    exact ⟨rfl, rfl⟩
theorem containsR_any (l : List UInt8) (w : World) : Calls Tryd.prog 43 #[str l, .func (.func 44) #[] #[]] w fun e w' => e = .returned (.bool (l.any (fun b => badR b.toNat))) ∧ Below w.heap.size w w' := by
  have h := Go.Proofs.Tryd.strings_ContainsFunc_runes 44 #[] (enters_of Tryd.func44 (by kernel_rfl) rfl) badR ⟨l.toArray⟩ w
    (fun W x hx _ => (quoteBack1_any x hx W).mono fun e w' ⟨h1, h2⟩ => ⟨h1, 0, h2.symm⟩)
  rw [idxFunc_any badR l (.inl fun r hr => by simp [badR]; omega)] at h
  exact h

set_option maxHeartbeats 1000000 in
theorem quoteBack_walk (A : Option Addr) (n c : Nat) (l : List UInt8) (w : World) (hb : By w w.heap.size A n l) (hn : n ≤ c) (hm : c ≤ maxLen) (hM : MaxLenOk w) :
    Calls Tryd.prog 8 #[.slice A n c] w (LawPost w) := by
  unfold maxLen at hm
  by_cases h4 : n ≤ 4000
  · have hl4 : l.length ≤ 4000 := by have := hb.len; omega
    have hel := encQ_len l 0
    obtain ⟨L, hL0, hL1, hL2, hL3⟩ := encQ_lines_of l
    have hx13 : ∀ x ∈ L, ∀ c ∈ x, c ≠ 13 := fun x h c hc => ((hL2 x h).2 c hc).1
    have hjl : (joinL L).length ≤ 24000 := by rw [← hL1]; omega
    have HR := Lib.hid (readQ_enc l hl4)
    have hany : L.flatten.any (fun b => badR b.toNat) = false := by
      rw [List.any_eq_false]; intro x hx
      have := hL3 x hx
      simp [badR]; omega
    have HA := Lib.hid hany
    have Hb := Lib.hid hb
    have HL0 := Lib.hid hL0
    have HL1 := Lib.hid hL1
    have HL2 := Lib.hid hL2
    have H13 := Lib.hid hx13
    clear hL0 hL1 hL2 hL3 hx13 hany
    go_enter Tryd.func8, Tryd.ntmps8
    go_wp2_with fail
    refine (quoteWrite_ok A n c l _ hb hn h4).mono ?_
    rintro e w1 ⟨rfl, hb1⟩
    go_wp2_with fail
    refine (quoted_any _).mono ?_
    rintro e w2 ⟨rfl, hb2⟩
    have hbel2 := hb1.trans (hb2.mono hb1.size)
    go_wp2_with fail
    refine (quoteRead_any (encQ 0 l) _ (by omega)).mono ?_
    rw [HR.out]
    rintro e w3 ⟨A3, c3, rfl, hby3, hc3, hb3⟩
    have hbel3 := hbel2.trans (hb3.mono hbel2.size)
    go_wp2_with fail
    have hb0 := Hb.out.belowN hbel3 (Nat.le_refl _)
    refine (Equal_bytes A3 A l.length c3 n c _ _ l l _ hby3 hb0 (by unfold maxLen; omega)).mono ?_
    rintro e w4 ⟨rfl, q4, rfl⟩
    have hbel4 := belN hbel3 q4
    have hll : (l == l) = true := by simp
    rw [HL1.out]
    clear hel
    go_wp2_with fail
    refine (wide_any L _ (hM.below hbel4) HL0.out HL2.out hjl).mono ?_
    rintro e w5 ⟨rfl, hb5⟩
    have hbel5 := hbel4.trans (hb5.mono hbel4.size)
    obtain ⟨m, hm5⟩ := hM.below hbel5
    go_wp2_with fail
    refine (replaceJ_any L m w5 hm5 H13.out hjl).mono ?_
    rintro e w6 ⟨rfl, hb6⟩
    have hbel6 := hbel5.trans (hb6.mono hbel5.size)
    go_wp2_with fail
    refine (containsR_any L.flatten w6).mono ?_
    rw [HA.out]
    rintro e w7 ⟨rfl, hb7⟩
    have hbel7 := hbel6.trans (hb7.mono hbel6.size)
    go_wp2_with fail
    go_ret
    exact ⟨rfl, hbel7⟩
  · go_enter Tryd.func8, Tryd.ntmps8
    go_wp2_with fail
    refine (quoteWrite_many A n c _ h4 (by unfold maxLen; omega)).mono ?_
    rintro e w1 ⟨rfl, rfl⟩
    go_wp2_with fail
    refine (quoted_any _).mono ?_
    rintro e w2 ⟨rfl, hb2⟩
    go_wp2_with fail
    refine (quoted_any _).mono ?_
    rintro e w3 ⟨rfl, hb3⟩
    go_wp2_with fail
    go_ret
    exact ⟨rfl, hb2.trans (hb3.mono hb2.size)⟩
end Go.Proofs.YtoolfhjlhhcbgaaDoor
