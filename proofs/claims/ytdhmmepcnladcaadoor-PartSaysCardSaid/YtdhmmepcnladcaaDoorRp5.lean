import Derived.Test.YtdhmmepcnladcaaDoorRp4
import Derived.Test.YtdhmmepcnladcaaDoorSmR
namespace Go.Proofs.YtdhmmepcnladcaaDoor
open Go.RowKit

theorem low_same_iff : ∀ (l : List UInt8), (lowL l == l) = !l.any (fun b => upR b.toNat)
  | [] => rfl
  | b :: l => by
    have ih := low_same_iff l
    unfold lowL at ih ⊢
    rw [List.map_cons, List.any_cons, List.cons_beq_cons, ih, Bool.not_or]
    congr 1
    rw [Bool.eq_iff_iff, beq_iff_eq, ← UInt8.toNat_inj, lowB_nat]
    simp only [upR, Bool.not_eq_true', Bool.and_eq_false_iff, decide_eq_false_iff_not]
    split <;> omega
theorem Index_chr1 (l : List UInt8) (c : UInt8) (w : World) : Calls Tryd.prog 85 #[str l, .string ⟨#[c]⟩] w fun e w' => e = .returned (.int .i64 (Lib.indexByte l c)) ∧ w = w' :=
  (Go.Proofs.Tryd.strings_Index_one ⟨l.toArray⟩ c w).mono fun e w' ⟨h1, h2⟩ => ⟨h1, h2.symm⟩
set_option maxRecDepth 100000 in
set_option maxHeartbeats 1000000 in
theorem IsType_any (l : List UInt8) (w : World) (hl : l.length ≤ maxLen) (hT : U8Ok w) : Calls Tryd.prog 19 #[str l] w fun e w' => e = .returned (.bool (typB l)) ∧ Below w.heap.size w w' := by
  have hidx := Index_chr1 l 47 w
  have hasc := typ_ascii l
  have hls := low_same_iff l
  have htt : tokB (Lib.cut l [47]).1 = true → tokB (Lib.cut l [47]).2.1 = true → (Lib.cut l [47]).2.2 = true → l.length ≤ 1000 := by
    intro h1 h2 h0
    have e := cut_backT l 47 h0
    have l1 : (Lib.cut l [47]).1.length ≤ 30 := by simp [tokB] at h1; omega
    have l2 : (Lib.cut l [47]).2.1.length ≤ 30 := by simp [tokB] at h2; omega
    rw [e, List.length_append, List.length_cons]
    omega
  have hge := Lib.indexByte_ge l 47
  unfold typB
  by_cases h0 : 0 ≤ Lib.indexByte l 47
  · obtain ⟨k, hk⟩ := Int.eq_ofNat_of_zero_le h0
    have hlt : k < l.length := by
      have := (Lib.indexByte_some hk).1
      rcases Nat.lt_or_ge k l.length with h | h
      · exact h
      · rw [List.getElem?_eq_none h] at this; cases this
    rw [cut_one_yes hk] at hasc htt ⊢
    rw [hk] at hidx
    simp only at hasc htt ⊢
    have hta := fun W => IsToken_any (l.take k) W (by simp; omega)
    have htb := fun W => IsToken_any (l.drop (k + 1)) W (by simp; omega)
    generalize hA : tokB (l.take k) = ta at hta hasc htt
    generalize hB : tokB (l.drop (k + 1)) = tb at htb hasc htt
    have hkl : (k : Int) ≤ l.length := by omega
    have hk1 : IntKind.i64.wrap ((k : Int) + 1) = (k : Int) + 1 := IntWalk.i64_in _ (by unfold maxLen at hl; omega)
    have hk2 : (k : Int) + 1 ≤ l.length := by omega
    have hk3 : (0 : Int) ≤ (k : Int) + 1 := by omega
    have hk4 : ((k : Int) + 1).toNat = k + 1 := by omega
    have Hidx := Lib.hid hidx
    have Hta := Lib.hid hta
    have Htb := Lib.hid htb
    have Hls := Lib.hid hls
    unfold maxLen at hl
    cases ta
    · clear hidx hta htb hasc hA hB hls htt h0 hge hk
      go_enter Tryd.func19, Tryd.ntmps19
      go_wp2_with fail
      refine Hidx.out.mono ?_
      rintro e w1 ⟨rfl, rfl⟩
      go_wp2_with fail
      refine (Hta.out _).mono ?_
      rintro e w1 ⟨rfl, rfl⟩
      go_wp2_with fail
      go_ret
      exact ⟨by simp, Below.refl _ _⟩
    · cases tb
      · clear hidx hta htb hasc hA hB hls htt h0 hge hk
        go_enter Tryd.func19, Tryd.ntmps19
        go_wp2_with fail
        refine Hidx.out.mono ?_
        rintro e w1 ⟨rfl, rfl⟩
        go_wp2_with fail
        refine (Hta.out _).mono ?_
        rintro e w1 ⟨rfl, rfl⟩
        go_wp2_with fail
        refine (Htb.out _).mono ?_
        rintro e w1 ⟨rfl, rfl⟩
        go_wp2_with fail
        go_ret
        exact ⟨by simp, Below.refl _ _⟩
      · have hsm := fun W h => Small_ascii l W (by have := htt (by trivial) (by trivial) (by trivial); omega) (hasc (by trivial) (by trivial) (by trivial)) h
        have Hsm := Lib.hid hsm
        clear hidx hta htb hasc hA hB hls htt h0 hge hk hsm
        go_enter Tryd.func19, Tryd.ntmps19
        go_wp2_with fail
        refine Hidx.out.mono ?_
        rintro e w1 ⟨rfl, rfl⟩
        go_wp2_with fail
        refine (Hta.out _).mono ?_
        rintro e w1 ⟨rfl, rfl⟩
        go_wp2_with fail
        refine (Htb.out _).mono ?_
        rintro e w1 ⟨rfl, rfl⟩
        go_wp2_with fail
        refine (Hsm.out _ hT).mono ?_
        rintro e w1 ⟨rfl, hb⟩
        go_wp2_with fail
        go_ret
        exact ⟨by rw [Hls.out]; simp, hb⟩
  · rw [cut_one_no (by omega)]
    rw [show Lib.indexByte l 47 = -1 from by omega] at hidx
    have Hidx := Lib.hid hidx
    clear hidx hasc hls htt h0 hge
    go_enter Tryd.func19, Tryd.ntmps19
    go_wp2_with fail
    refine Hidx.out.mono ?_
    rintro e w1 ⟨rfl, rfl⟩
    go_wp2_with fail
    go_ret
    exact ⟨by simp, Below.refl _ _⟩
end Go.Proofs.YtdhmmepcnladcaaDoor
