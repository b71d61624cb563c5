import Derived.Test.YtdhmmepcnladcaaDoorQsR
import Derived.Test.YtdhmmepcnladcaaDoorQsW
import Derived.Test.YtdhmmepcnladcaaDoorQuoteK
namespace Go.Proofs.YtdhmmepcnladcaaDoor
open Go.RowKit

set_option maxRecDepth 100000 in
set_option maxHeartbeats 1000000 in
theorem QuoteSays_walk (A : Option Addr) (n c : Nat) (l s : List UInt8) (w : World) (hb : By w w.heap.size A n l) (hn : n ≤ c) (hm : c ≤ maxLen) (hs : s.length ≤ maxLen) (hM : MaxLenOk w) (hD : DeOk w) :
    Calls Tryd.prog 10 #[.slice A n c, str s] w fun e w' => e = .returned (.bool true) ∧ Below w.heap.size w w' := by
  have hlen := readQ_len s
  obtain ⟨r, hr⟩ : ∃ r, r = readQ s := ⟨_, rfl⟩
  have k1 := fun X => quoteRead_any s X (by unfold maxLen at hs; exact hs)
  have k2 := fun X (h : MaxLenOk X) => RQRead_any s X h
  rw [← hr] at k1 k2 hlen
  clear hr
  obtain ⟨x, k⟩ := r
  unfold BytesRes at k1 k2
  simp only at k1 k2 hlen
  have K1 := Lib.hid k1
  have K2 := Lib.hid k2
  have KQ := Lib.hid (fun X => quoted_any X)
  have HM := Lib.hid hM
  have HD := Lib.hid hD
  have HB := Lib.hid hb
  clear k1 k2 hM hD hb
  have ekk : ((k : Int) != (k : Int)) = false := by simp
  by_cases h4 : n ≤ 4000
  · have KW := Lib.hid (quoteWrite_ok A n c l w HB.out hn h4)
    have KT := Lib.hid (fun X (hb : By X X.heap.size A n l) (h : DeOk X) => RQText_any A n c l X hb hn h4 h)
    have d4 : decide ((4000 : Int) < (n : Int)) = false := decide_eq_false (by omega)
    have d5 : (n : Int) ≤ 4000 := by omega
    generalize encQ 0 l = t at KW KT
    have et : (t == t) = true := by simp
    go_enter Tryd.func10, Tryd.ntmps10
    go_wp2_with fail
    refine KW.out.mono ?_
    rintro e w1 ⟨rfl, hb1⟩
    go_wp2_with fail
    refine (K1.out _).mono ?_
    rintro e w2 ⟨A2, c2, rfl, hby2, hc2, hb2⟩
    have hbel2 := hb1.trans (hb2.mono hb1.size)
    go_wp2_with fail
    refine (K2.out _ (HM.out.below hbel2)).mono ?_
    rintro e w3 ⟨A3, c3, rfl, hby3, hc3, hb3⟩
    have hbel3 := hbel2.trans (hb3.mono hbel2.size)
    have hby2' := hby2.below hb3
    clear hby2 hb1 hb2 hbel2
    go_wp2_with fail
    refine (KQ.out _).mono ?_
    rintro e w4 ⟨rfl, hb4⟩
    have hbel4 := hbel3.trans (hb4.mono hbel3.size)
    have hq2 := hby2'.belowN hb4 hb3.size
    have hq3 := hby3.below hb4
    clear hby3 hby2' hb3 hb4
    have hE := Equal_bytes A2 A3 x.length c2 x.length c3 _ _ x x w4 hq2 hq3 (by unfold maxLen; omega)
    rw [show (x == x) = true by simp] at hE
    have KE := Lib.hid hE
    clear hE hq2 hq3
    go_wp2_with fail
    refine KE.out.mono ?_
    rintro e w5 ⟨rfl, q, rfl⟩
    have hbel5 := belN hbel4 q
    generalize w4.drewN q = w5 at hbel5 ⊢
    go_wp2_with fail
    refine (KT.out _ ((HB.out.below hbel5).more hbel5.size) (HD.out.below hbel5)).mono ?_
    rintro e w6 ⟨rfl, hb6⟩
    have hbel6 := hbel5.trans (hb6.mono hbel5.size)
    go_wp2_with fail
    go_ret
    exact ⟨rfl, hbel6⟩
  · have KW := Lib.hid (quoteWrite_many A n c w h4 (by omega))
    have d4 : decide ((4000 : Int) < (n : Int)) = true := decide_eq_true (by omega)
    go_enter Tryd.func10, Tryd.ntmps10
    go_wp2_with fail
    refine KW.out.mono ?_
    rintro e w1 ⟨rfl, rfl⟩
    go_wp2_with fail
    refine (K1.out _).mono ?_
    rintro e w2 ⟨A2, c2, rfl, hby2, hc2, hb2⟩
    have hbel2 := hb2
    go_wp2_with fail
    refine (K2.out _ (HM.out.below hbel2)).mono ?_
    rintro e w3 ⟨A3, c3, rfl, hby3, hc3, hb3⟩
    have hbel3 := hbel2.trans (hb3.mono hbel2.size)
    have hby2' := hby2.below hb3
    clear hby2 hb2 hbel2
    go_wp2_with fail
    refine (KQ.out _).mono ?_
    rintro e w4 ⟨rfl, hb4⟩
    have hbel4 := hbel3.trans (hb4.mono hbel3.size)
    have hq2 := hby2'.belowN hb4 hb3.size
    have hq3 := hby3.below hb4
    clear hby3 hby2' hb3 hb4
    have hE := Equal_bytes A2 A3 x.length c2 x.length c3 _ _ x x w4 hq2 hq3 (by unfold maxLen; omega)
    rw [show (x == x) = true by simp] at hE
    have KE := Lib.hid hE
    clear hE hq2 hq3
    go_wp2_with fail
    refine KE.out.mono ?_
    rintro e w5 ⟨rfl, q, rfl⟩
    have hbel5 := belN hbel4 q
    generalize w4.drewN q = w5 at hbel5 ⊢
    go_wp2_with fail
    go_ret
    exact ⟨rfl, hbel5⟩
end Go.Proofs.YtdhmmepcnladcaaDoor
