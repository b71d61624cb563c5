import Derived.Test.YtdhmmepcnladcaaDoorQsF
namespace Go.Proofs.YtdhmmepcnladcaaDoor
open Go.RowKit

theorem u64_of (c : Nat) (hc : c < 256) : IntKind.u64.wrap (c : Int) = (c : Int) := by
  have h := (by decide +kernel : ∀ x : Fin 256, IntKind.u64.wrap ((x.val : Nat) : Int) = ((x.val : Nat) : Int)) ⟨c, hc⟩
  exact h
set_option maxRecDepth 100000 in
set_option maxHeartbeats 1000000 in
theorem iFormatInt_16 (c : Nat) (hc : c < 256) (w : World) (h : DeOk w) : Calls Tryd.prog 208 #[.int .i64 (c : Nat), .int .i64 16] w fun e w' => e = .returned (str (fmtQ c)) ∧ Below w.heap.size w w' := by
  have hu := u64_of c hc
  have d1 : decide ((c : Int) < 0) = false := decide_eq_false (by omega)
  have K := Lib.hid (fun X (h : DeOk X) => formatBits_16 c hc X h)
  have HD := Lib.hid h
  clear h
  go_enter Tryd.func208, Tryd.ntmps208
  go_wp2_with fail
  refine (K.out _ HD.out).mono ?_
  rintro e w1 ⟨rfl, hb1⟩
  go_wp2_with fail
  go_ret
  exact ⟨rfl, hb1⟩
set_option maxRecDepth 100000 in
set_option maxHeartbeats 1000000 in
theorem FormatInt_16 (c : Nat) (hc : c < 256) (w : World) (h : DeOk w) : Calls Tryd.prog 155 #[.int .i64 (c : Nat), .int .i64 16] w fun e w' => e = .returned (str (fmtQ c)) ∧ Below w.heap.size w w' := by
  have K := Lib.hid (fun X (h : DeOk X) => iFormatInt_16 c hc X h)
  have HD := Lib.hid h
  clear h
  go_enter Tryd.func155, Tryd.ntmps155
  go_wp2_with fail
  refine (K.out _ HD.out).mono ?_
  rintro e w1 ⟨rfl, hb1⟩
  go_wp2_with fail
  go_ret
  exact ⟨rfl, hb1⟩
theorem or32 : ∀ x : Fin 256, bits .or .u8 ((x.val : Nat) : Int) 32 = (((x.val ||| 32) : Nat) : Int) := by decide +kernel
theorem lower_u8 (x : Nat) (hx : x < 256) (w : World) : Calls Tryd.prog 228 #[.int .u8 (x : Int)] w fun e w' => e = .returned (.int .u8 (((x ||| 32) : Nat) : Int)) ∧ w = w' := by
  have h := or32 ⟨x, hx⟩
  simp only at h
  generalize x ||| 32 = y at *
  go_enter Tryd.func228, Tryd.ntmps228
  go_wp2_with fail
  go_ret
  exact ⟨rfl, rfl⟩
theorem val_big : ∀ x : Fin 256, decide (0 ≤ hexQ x.val) = true → (decide (48 ≤ x.val) && decide (x.val ≤ 57)) = false → 57 < x.val := by decide +kernel
/-- The state of the loop. -/
def PuRel (l : List UInt8) (W : World) (iv nv uv : Value) (wr : World) : Prop :=
  uv = .bool false ∧ ∃ i n : Nat, iv = .int .i64 (i : Nat) ∧ i ≤ 2 ∧ nv = .int .u64 (n : Nat) ∧ wr = W ∧ Hid ((i = 0 → n = 0) ∧ (i = 1 → n = valQ (nth l 0)) ∧ (i = 2 → n = valQ (nth l 0) * 16 + valQ (nth l 1)))
set_option maxRecDepth 100000 in
set_option maxHeartbeats 2000000 in
theorem iParseUint_hex (l : List UInt8) (w : World) (hl : l.length = 2) (h0 : 0 ≤ hexQ (nth l 0)) (h1 : 0 ≤ hexQ (nth l 1)) :
    Calls Tryd.prog 206 #[str l, .int .i64 16, .int .i64 8] w fun e w' => e = .returned (.tuple #[.int .u64 ((valQ (nth l 0) * 16 + valQ (nth l 1) : Nat) : Int), .nilIface]) ∧ Below w.heap.size w w' := by
  have e0 : (l == []) = false := by cases l with | nil => simp at hl | cons a r => rfl
  have s8 : IntKind.u64.wrap (IntKind.u64.wrap (1 * 2 ^ 8) - 1) = 255 := by decide +kernel
  obtain ⟨A, c, w1, hconv, hby, hnc, hb1, hlt1⟩ := run_toBytes (P := Tryd.prog) w 9 22 5 l Tryd.underlying9 Tryd.underlying22 Tryd.underlying5
  have Hb1 := Lib.hid hb1
  have H0 := Lib.hid h0
  have H1 := Lib.hid h1
  rw [hl] at hconv hby
  clear hb1 h0 h1 hl
  go_enter Tryd.func206, Tryd.ntmps206
  go_wp2_with fail
  obtain ⟨cu, hcu⟩ : ∃ cu : Int, cu = 1152921504606846976 := ⟨_, rfl⟩
  rw [← hcu]
  have HCU := Lib.hid hcu
  clear hcu
  go_loopw [101, 13, 12] (fun iv nv uv wr => PuRel l w1 iv nv uv wr) (fun iv _ _ _ => 2 - (intOf iv).toNat)
  case atStart => exact ⟨rfl, 0, 0, rfl, by omega, rfl, rfl, fun _ => rfl, fun h => absurd h (by omega), fun h => absurd h (by omega)⟩
  case round =>
    obtain ⟨rfl, i, n, rfl, hi, rfl, rfl, hn⟩ := hrel
    by_cases hi2 : i < 2
    · have hn15 : n < 16 := by
        have h3 : i = 0 ∨ i = 1 := by omega
        rcases h3 with rfl | rfl
        · have := hn.out.1 rfl; omega
        · have := hn.out.2.1 rfl
          have h4 := val_lt ⟨nth l 0, nth_lt l 0⟩
          simp only at h4
          omega
      have hx0 : 0 ≤ hexQ (nth l i) := by
        have h3 : i = 0 ∨ i = 1 := by omega
        rcases h3 with rfl | rfl
        · exact H0.out
        · exact H1.out
      have hnx : Hid ((i + 1 = 0 → n * 16 + valQ (nth l i) = 0) ∧ (i + 1 = 1 → n * 16 + valQ (nth l i) = valQ (nth l 0)) ∧ (i + 1 = 2 → n * 16 + valQ (nth l i) = valQ (nth l 0) * 16 + valQ (nth l 1))) := by
        refine ⟨fun h => absurd h (by omega), fun h => ?_, fun h => ?_⟩
        · obtain rfl : i = 0 := by omega
          rw [hn.out.1 rfl]; omega
        · obtain rfl : i = 1 := by omega
          rw [hn.out.2.1 rfl]
      obtain ⟨b, off, rfl, _, hc⟩ := hby.at_ hi2
      have hx := nth_lt l i
      have hd16 := val_lt ⟨nth l i, hx⟩
      have hdig := val_dig ⟨nth l i, hx⟩ (decide_eq_true hx0)
      have hlet := val_let ⟨nth l i, hx⟩ (decide_eq_true hx0)
      have hbig := val_big ⟨nth l i, hx⟩ (decide_eq_true hx0)
      simp only at hd16 hdig hlet hbig
      have KL := Lib.hid (fun X => lower_u8 (nth l i) hx X)
      clear hx0 hn
      generalize valQ (nth l i) = d at *
      generalize nth l i = x at *
      have cc1 : decide (cu ≤ (n : Int)) = false := decide_eq_false (by have := HCU.out; omega)
      have cc2 : (n : Int) < cu := by have := HCU.out; omega
      have m1 : IntKind.u64.wrap ((n : Int) * 16) = ((n * 16 : Nat) : Int) := by
        have := u64_of (n * 16) (by omega)
        rw [← this]; congr 1
      have m2 : IntKind.u64.wrap (((n * 16 : Nat) : Int) + (d : Int)) = ((n * 16 + d : Nat) : Int) := by
        have := u64_of (n * 16 + d) (by omega)
        rw [← this]; congr 1
      have m3 : decide (((n * 16 + d : Nat) : Int) < ((n * 16 : Nat) : Int)) = false := decide_eq_false (by omega)
      have m4 : decide ((255 : Int) < ((n * 16 + d : Nat) : Int)) = false := decide_eq_false (by omega)
      have m3' : ((n * 16 : Nat) : Int) ≤ ((n * 16 + d : Nat) : Int) := by omega
      have m4' : ((n * 16 + d : Nat) : Int) ≤ 255 := by omega
      have m5 : IntKind.u64.wrap (d : Int) = (d : Int) := u64_of d (by omega)
      have m6 : decide ((16 : Int) ≤ (d : Int)) = false := decide_eq_false (by omega)
      have m7 : (d : Int) < 16 := by omega
      generalize n * 16 + d = n2 at *
      generalize n * 16 = n1 at *
      cases hq : (decide (48 ≤ x) && decide (x ≤ 57)) with
      | true =>
        have hv := hdig hq
        simp only [Bool.and_eq_true, decide_eq_true_eq] at hq
        have e95 : ((x : Int) == 95) = false := by rw [beq_eq_false_iff_ne]; omega
        have q1 : decide ((48 : Int) ≤ (x : Int)) = true := decide_eq_true (by omega)
        have q2 : decide ((x : Int) ≤ 57) = true := decide_eq_true (by omega)
        have q3 : IntKind.u8.wrap ((x : Int) - 48) = (d : Int) := by
          have := wrap_u8N d (by omega)
          rw [← this]; congr 1; omega
        clear hdig hlet hv hq hbig
        go_wp2_with fail
        exact ⟨⟨rfl, i + 1, n2, by go_num, by omega, rfl, rfl, hnx⟩, by simp [intOf]; omega⟩
      | false =>
        obtain ⟨l1, l2, hv⟩ := hlet hq
        clear hdig hlet
        have hx57 := hbig hq
        have q2 : decide ((x : Int) ≤ 57) = false := decide_eq_false (by omega)
        have q1 : decide ((48 : Int) ≤ (x : Int)) = true := decide_eq_true (by omega)
        have e95 : ((x : Int) == 95) = false := by
          rw [beq_eq_false_iff_ne]
          intro e
          have e2 : x = 95 := by omega
          rw [e2] at l2
          revert l2
          decide
        generalize x ||| 32 = y at *
        have q4 : decide ((97 : Int) ≤ (y : Int)) = true := decide_eq_true (by omega)
        have q5 : decide ((y : Int) ≤ 122) = true := decide_eq_true (by omega)
        have q6 : IntKind.u8.wrap ((y : Int) - 97) = ((y - 97 : Nat) : Int) := by
          have := wrap_u8N (y - 97) (by omega)
          rw [← this]; congr 1; omega
        have q7 : IntKind.u8.wrap (((y - 97 : Nat) : Int) + 10) = (d : Int) := by
          have := wrap_u8N d (by omega)
          rw [← this]; congr 1; omega
        generalize y - 97 = z at *
        clear hv hq hbig
        go_wp2_with fail
        refine (KL.out _).mono ?_
        rintro e wL ⟨rfl, rfl⟩
        go_wp2_with fail
        refine (KL.out _).mono ?_
        rintro e wL ⟨rfl, rfl⟩
        go_wp2_with fail
        refine (KL.out _).mono ?_
        rintro e wL ⟨rfl, rfl⟩
        go_wp2_with fail
        exact ⟨⟨rfl, i + 1, n2, by go_num, by omega, rfl, rfl, hnx⟩, by simp [intOf]; omega⟩
    · obtain rfl : i = 2 := by omega
      have hnn := hn.out.2.2 rfl
      have HN := Lib.hid hnn
      clear hnn hn
      go_wp2_with fail
      refine bodyPost_ret (v := .tuple #[.int .u64 (n : Nat), .nilIface]) (by simp [results, Tryd.results206, go_sem]) rfl ⟨by rw [HN.out], Hb1.out⟩
end Go.Proofs.YtdhmmepcnladcaaDoor
