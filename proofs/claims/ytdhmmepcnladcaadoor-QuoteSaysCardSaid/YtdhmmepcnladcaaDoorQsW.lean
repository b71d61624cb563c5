import Derived.Test.YtdhmmepcnladcaaDoorQsT
import Derived.Test.YtdhmmepcnladcaaDoorBase
namespace Go.Proofs.YtdhmmepcnladcaaDoor
open Go.RowKit

/-- The state of QuoteText's loop. -/
def QtRel (w : World) (n : Nat) (l T : List UInt8) (ov lv iv : Value) (wr : World) : Prop :=
  ∃ (i : Nat) (out line : List UInt8), iv = .int .i64 (i : Nat) ∧ ov = str out ∧ lv = str line ∧ i ≤ n ∧ line.length ≤ 75 ∧ Hid (out ++ line ++ encQ line.length (l.drop i) = T) ∧ Below w.heap.size w wr
theorem i64_of (x : Nat) (hx : x < 256) : IntKind.i64.wrap (x : Int) = (x : Int) := IntWalk.i64_in _ (by omega)
set_option maxRecDepth 100000 in
set_option maxHeartbeats 4000000 in
theorem RQText_any (A : Option Addr) (n c : Nat) (l : List UInt8) (w : World) (hb : By w w.heap.size A n l) (hn : n ≤ c) (hc : n ≤ 4000) (hD : DeOk w) :
    Calls Tryd.prog 74 #[.slice A n c] w fun e w' => e = .returned (str (encQ 0 l)) ∧ Below w.heap.size w w' := by
  obtain ⟨T, hT⟩ : ∃ T, T = encQ 0 l := ⟨_, rfl⟩
  have hl := hb.len
  have hTl : T.length ≤ 24000 := by
    have := encQ_len l 0
    rw [hT]; omega
  rw [← hT]
  have HT := Lib.hid hT; have Hl := Lib.hid hl; clear hT hl
  have HD := Lib.hid hD
  clear hD
  go_enter Tryd.func74, Tryd.ntmps74
  go_wp2_with fail
  go_loopw [3, 4, 10] (QtRel w n l T) (fun _ _ iv _ => n - (intOf iv).toNat)
  case atStart => exact ⟨0, [], [], rfl, rfl, rfl, by omega, by simp, by show [] ++ [] ++ encQ 0 l = T; rw [HT.out]; rfl, Below.refl _ _⟩
  case round =>
    obtain ⟨i, out, line, rfl, rfl, rfl, hi, hw, hE, hbel⟩ := hrel
    by_cases hin : i < n
    · have hby := hb.below hbel
      obtain ⟨b, off, rfl, _, hcell⟩ := hby.at_ hin
      obtain ⟨x, hx, hd⟩ : ∃ x : UInt8, x.toNat = nth l i ∧ l.drop i = x :: l.drop (i + 1) :=
        ⟨l[i]'(by rw [Hl.out]; exact hin), by rw [nth_of l i (by rw [Hl.out]; exact hin)], List.drop_eq_getElem_cons (by rw [Hl.out]; exact hin)⟩
      rw [← hx] at hcell
      have hE2 : out ++ line ++ encQ line.length (x :: l.drop (i + 1)) = T := by rw [← hd]; exact hE.out
      have hol : out.length + line.length ≤ 24000 := by have := congrArg List.length hE2; simp at this; omega
      have hts := run_toStr (P := Tryd.prog) (wr.alloc (.cells #[.int .u8 (x.toNat : Int)] 5)) 22 9 5 _ _ 1 1 [x] (By.block wr [x] rfl) Tryd.underlying22 Tryd.underlying5 Tryd.underlying9
      have h75 := encQ_wide T out line x (l.drop (i + 1)) hE2
      have h76 := encQ_fits T out line x (l.drop (i + 1)) hE2
      have hx256 := x.toNat_lt
      have h64 := i64_of x.toNat hx256
      have hp1 := one_plainQ x
      have ho1 := one_out1 x
      have ho2 := one_out2 x
      have hone := oneQ_len x
      have hpq : plainQ x.toNat = (decide (32 < x.toNat) && decide (x.toNat ≤ 126) && !(x.toNat == 61)) := rfl
      have KF := Lib.hid (fun X (h : DeOk X) => FormatInt_16 x.toNat hx256 X h)
      have KU := Lib.hid (fun X => ToUpper_any (fmtQ x.toNat) X (by rw [fmt_len]; split <;> omega) (fmt_ascii ⟨x.toNat, hx256⟩))
      have hfl : (Lib.toUpperA (fmtQ x.toNat)).length = if x.toNat < 16 then 1 else 2 := by rw [up_len, fmt_len]
      generalize Lib.toUpperA (fmtQ x.toNat) = f at *
      generalize fmtQ x.toNat = f0 at *
      have hsz0 : Below w.heap.size w (wr.alloc (.cells #[.int .u8 (x.toNat : Int)] 5)) := hbel.alloc hbel.size _
      have HB0 := Lib.hid hsz0
      clear hE hx hd hE2 hsz0
      obtain ⟨q, hq⟩ : ∃ q, q = oneQ x := ⟨_, rfl⟩
      rw [← hq] at h75 h76 hp1 ho1 ho2 hone
      obtain ⟨R, hR⟩ : ∃ R, R = l.drop (i + 1) := ⟨_, rfl⟩
      rw [← hR] at h75 h76
      have HR := Lib.hid hR
      clear hq hR
      have hts' := hts
      generalize x.toNat = y at *
      have fin75 : 75 < line.length + q.length → Hid ((out ++ (line ++ [61, 13, 10])) ++ q ++ encQ q.length (l.drop (i + 1)) = T) := fun h => by show _ = _; rw [← HR.out, ← List.append_assoc out]; exact h75 h
      have fin76 : ¬ 75 < line.length + q.length → Hid (out ++ (line ++ q) ++ encQ (line ++ q).length (l.drop (i + 1)) = T) := fun h => by show _ = _; rw [← HR.out]; exact h76 h
      clear h75 h76 HR
      by_cases hpl : plainQ y = true
      · obtain rfl := hp1 hpl
        rw [hpq] at hpl
        clear ho1 ho2 hfl hts' hpq hp1 hone
        simp only [Bool.and_eq_true, decide_eq_true_eq, Bool.not_eq_true', beq_eq_false_iff_ne] at hpl
        obtain ⟨⟨p1, p2⟩, p3⟩ := hpl
        have d1 : decide ((y : Int) < 33) = false := decide_eq_false (by omega)
        have d2 : decide ((126 : Int) < (y : Int)) = false := decide_eq_false (by omega)
        have d3 : ((y : Int) == 61) = false := by rw [beq_eq_false_iff_ne]; omega
        by_cases hw75 : 75 < line.length + 1
        · have d4 : decide ((75 : Int) < (line.length : Int) + 1) = true := decide_eq_true (by omega)
          have Hf := fin75 hw75
          clear fin75 fin76
          go_wp2_with fail
          exact ⟨⟨i + 1, _, [x], by go_num, rfl, rfl, by omega, by simp, Hf, HB0.out⟩, by simp [intOf]; omega⟩
        · have d4 : decide ((75 : Int) < (line.length : Int) + 1) = false := decide_eq_false (by omega)
          have d5 : (line.length : Int) + 1 ≤ 75 := by omega
          have Hf := fin76 hw75
          clear fin75 fin76
          go_wp2_with fail
          exact ⟨⟨i + 1, _, line ++ [x], by go_num, rfl, rfl, by omega, by simp; omega, Hf, HB0.out⟩, by simp [intOf]; omega⟩
      · have hpl : plainQ y = false := by simpa using hpl
        have ways : y < 33 ∨ (33 ≤ y ∧ 126 < y) ∨ (33 ≤ y ∧ y ≤ 126 ∧ y = 61) := by
          rw [hpq] at hpl
          by_cases a1 : y < 33
          · exact .inl a1
          · by_cases a2 : 126 < y
            · exact .inr (.inl ⟨by omega, a2⟩)
            · refine .inr (.inr ⟨by omega, by omega, ?_⟩)
              have b1 : decide (32 < y) = true := decide_eq_true (by omega)
              have b2 : decide (y ≤ 126) = true := decide_eq_true (by omega)
              rw [b1, b2] at hpl
              simpa using hpl
        have ho1 := ho1 hpl
        have ho2 := ho2 hpl
        have hq13 : q.length ≤ 3 := by omega
        clear hpq hp1 hone hpl
        rcases ways with a1 | ⟨a0, a1⟩ | ⟨a0, a2, a1⟩
        case' inl =>
          have d1 : decide ((y : Int) < 33) = true := decide_eq_true (by omega)
          clear hts'
          go_wp2_with fail
        case' inr.inl =>
          have d1 : decide ((y : Int) < 33) = false := decide_eq_false (by omega)
          have d2 : decide ((126 : Int) < (y : Int)) = true := decide_eq_true (by omega)
          clear hts'
          go_wp2_with fail
        case' inr.inr =>
          have d1 : decide ((y : Int) < 33) = false := decide_eq_false (by omega)
          have d2 : decide ((126 : Int) < (y : Int)) = false := decide_eq_false (by omega)
          have d3 : ((y : Int) == 61) = true := by rw [beq_iff_eq]; omega
          clear hts' a1
          go_wp2_with fail
        all_goals
          refine (KF.out _ (HD.out.below HB0.out)).mono ?_
          rintro e w1 ⟨rfl, hb1⟩
          have hbel1 := HB0.out.trans (hb1.mono HB0.out.size)
          go_wp2_with fail
          refine (KU.out _).mono ?_
          rintro e w2 ⟨rfl, hb2⟩
          have hbel2 := hbel1.trans (hb2.mono hbel1.size)
          clear hb1 hb2 hbel1
          by_cases h16 : y < 16
          · have hq := ho1 h16
            have hfl : f.length = 1 := by rw [hfl, if_pos h16]
            have HQ := Lib.hid (show 61 :: 48 :: f = q from hq)
            have hql : q.length = 3 := by rw [← hq]; simp [hfl]
            clear ho1 ho2 hq hts
            by_cases hw75 : 75 < line.length + q.length
            · have d4 : decide ((75 : Int) < (line.length : Int) + 3) = true := decide_eq_true (by omega)
              have Hf := fin75 hw75
              rw [hql] at hw75
              clear fin75 fin76
              go_wp2_with fail
              try rw [HQ.out]
              exact ⟨⟨i + 1, _, q, by go_num, rfl, rfl, by omega, by omega, Hf, hbel2⟩, by simp [intOf]; omega⟩
            · have d4 : decide ((75 : Int) < (line.length : Int) + 3) = false := decide_eq_false (by omega)
              have d5 : (line.length : Int) + 3 ≤ 75 := by omega
              have Hf := fin76 hw75
              rw [hql] at hw75
              clear fin75 fin76
              go_wp2_with fail
              try rw [HQ.out]
              exact ⟨⟨i + 1, _, line ++ q, by go_num, rfl, rfl, by omega, by rw [List.length_append]; omega, Hf, hbel2⟩, by simp [intOf]; omega⟩
          · have hq := ho2 h16
            have hfl : f.length = 2 := by rw [hfl, if_neg h16]
            have HQ := Lib.hid (show 61 :: f = q from hq)
            have hql : q.length = 3 := by rw [← hq]; simp [hfl]
            clear ho1 ho2 hq hts
            by_cases hw75 : 75 < line.length + q.length
            · have d4 : decide ((75 : Int) < (line.length : Int) + 3) = true := decide_eq_true (by omega)
              have Hf := fin75 hw75
              rw [hql] at hw75
              clear fin75 fin76
              go_wp2_with fail
              try rw [HQ.out]
              exact ⟨⟨i + 1, _, q, by go_num, rfl, rfl, by omega, by omega, Hf, hbel2⟩, by simp [intOf]; omega⟩
            · have d4 : decide ((75 : Int) < (line.length : Int) + 3) = false := decide_eq_false (by omega)
              have d5 : (line.length : Int) + 3 ≤ 75 := by omega
              have Hf := fin76 hw75
              rw [hql] at hw75
              clear fin75 fin76
              go_wp2_with fail
              try rw [HQ.out]
              exact ⟨⟨i + 1, _, line ++ q, by go_num, rfl, rfl, by omega, by rw [List.length_append]; omega, Hf, hbel2⟩, by simp [intOf]; omega⟩
    · have ho : out ++ line = T := by
        have h := hE.out
        rw [List.drop_of_length_le (by rw [Hl.out]; omega)] at h
        simpa [encQ] using h
      have hol : out.length + line.length ≤ 24000 := by rw [← List.length_append, ho]; exact hTl
      have HO := Lib.hid ho
      clear ho
      go_wp2_with fail
      go_ret
      exact ⟨by rw [HO.out]; rfl, hbel⟩
end Go.Proofs.YtdhmmepcnladcaaDoor
