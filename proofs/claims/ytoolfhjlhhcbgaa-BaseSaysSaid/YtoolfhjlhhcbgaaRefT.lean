import Derived.Test.YtoolfhjlhhcbgaaRead
import Derived.Test.YtoolfhjlhhcbgaaRefM
namespace Go.Proofs.Ytoolfhjlhhcbgaa
open Go.RowKit

theorem slice_letters (w : World) (v : Nat) (h : v < 64) :
    (Instr.sliceAt 9 (.string ⟨#[65, 66, 67, 68, 69, 70, 71, 72, 73, 74, 75, 76, 77, 78, 79, 80, 81, 82, 83, 84, 85, 86, 87, 88, 89, 90, 97, 98, 99, 100, 101, 102, 103, 104, 105, 106, 107, 108, 109, 110, 111, 112, 113, 114, 115, 116, 117, 118, 119, 120, 121, 122, 48, 49, 50, 51, 52, 53, 54, 55, 56, 57, 43, 47]⟩) (some (.int .i64 (v : Int))) (some (.int .i64 ((v : Int) + 1))) none).run Try.prog w = .ok (str [UInt8.ofNat (nth letters v)]) w := by
  have e : (letters.take ((v : Int) + 1).toNat).drop (v : Int).toNat = [UInt8.ofNat (nth letters v)] := by
    have hv : v < letters.length := by rw [letters_len]; exact h
    rw [show ((v : Int) + 1).toNat = v + 1 by omega, Int.toNat_natCast, List.take_succ_eq_append_getElem hv, List.drop_append_of_le_length (by simp; omega)]
    simp [nth_of _ _ hv]
  rw [run_sliceAt_string w _ _ _ _ _ Try.underlying9]
  exact e ▸ run_slice_str_lh w 9 letters .i64 .i64 v (v + 1) Try.underlying9 (by omega) (by omega) (by rw [letters_len]; omega)

def RefRel (w : World) (n : Nat) (l T : List UInt8) (ov av : Value) : Prop :=
  ∃ a out, ov = str out ∧ av = .int .i64 (a : Nat) ∧ a ≤ n + 2 ∧ a % 3 = 0 ∧ Hid (out ++ enc (wd a) (l.drop a) = T)
def RefBit (a k n : Nat) (rest : List UInt8) (vv tv bv : Value) : Prop :=
  ∃ t th, bv = .int .i64 (t : Nat) ∧ 6 * k ≤ t ∧ t ≤ 6 * k + 6 ∧ vv = .int .i64 (bitsTo rest k (t - 6 * k) : Nat) ∧ tv = .bool th ∧ Hid (th = decide (6 * k < t ∧ a + 6 * k / 8 < n))

set_option maxRecDepth 100000 in
set_option maxHeartbeats 1000000 in
theorem BaseText_any (A : Option Addr) (n c : Nat) (l : List UInt8) (w : World) (hb : By w w.heap.size A n l) (hc : n ≤ 4000) :
    Calls Try.prog 15 #[.slice A n c] w fun e w' => e = .returned (str (enc 0 l)) ∧ w = w' := by
  obtain ⟨T, hT⟩ : ∃ T, T = enc 0 l := ⟨_, rfl⟩
  have hl := hb.len
  have hTl : T.length ≤ 24000 := by
    have := enc_len l.length 0 l (Nat.le_refl _)
    rw [hT]; omega
  rw [← hT]
  have HT := Lib.hid hT; have Hl := Lib.hid hl; clear hT hl
  go_enter Try.func15, Try.ntmps15
  go_wp2_with fail
  go_loop [3, 4] (RefRel w n l T) (fun _ av => n + 3 - (intOf av).toNat)
  case atStart => exact ⟨0, [], rfl, rfl, by omega, rfl, by show [] ++ enc 0 l = T; rw [HT.out]; rfl⟩
  case round =>
    obtain ⟨a, out, rfl, rfl, ha, ha3, hE⟩ := hrel
    by_cases han : a < n
    · obtain ⟨b, off, rfl, _, hcell⟩ := hb.opn (by omega)
      have hol : out.length ≤ 24000 := by have := congrArg List.length hE.out; simp at this; omega
      have hE2 : Hid (out ++ brk (wd a) ++ quad (l.drop a) ++ enc (wd (a + 3)) (l.drop (a + 3)) = T) := by
        have h := hE.out
        rw [enc_step (wd a) (l.drop a) (by simp [Hl.out]; omega), wd_step a ha3, List.drop_drop] at h
        have e : List.drop (a + min 3 (l.drop a).length) l = List.drop (a + 3) l := by
          have : (l.drop a).length = n - a := by simp [Hl.out]
          rcases (by omega : 3 ≤ n - a ∨ n - a < 3) with h3 | h3
          · rw [this, Nat.min_eq_left h3]
          · rw [List.drop_of_length_le (by rw [Hl.out]; omega), List.drop_of_length_le (by rw [Hl.out]; omega)]
        rw [e] at h
        show _ = _
        rw [← h]; simp
      clear hE
      rcases (by omega : (0 < a ∧ a % 57 = 0) ∨ (0 < a ∧ a % 57 ≠ 0) ∨ a = 0) with ⟨hb0, hb57⟩ | ⟨hb0, hb57⟩ | hb0
      case' inl =>
        have hbt : ((a : Int) % 57 == 0) = true := by simp; omega
        obtain ⟨out1, ho1⟩ : ∃ o, o = out ++ [13, 10] := ⟨_, rfl⟩
        have hE1 : Hid (out1 ++ quad (l.drop a) ++ enc (wd (a + 3)) (l.drop (a + 3)) = T) := by
          have h := hE2.out
          rw [wd_brk, if_pos ⟨hb0, hb57⟩] at h
          rw [ho1]; exact h
        have hol1 : out1.length ≤ 24002 := by rw [ho1]; simp; omega
        clear hE2 hb57
        go_wp2_with fail
        rw [← ho1]
        clear ho1
      case' inr.inl =>
        have hbt : ((a : Int) % 57 == 0) = false := by simp; omega
        obtain ⟨out1, rfl⟩ : ∃ o, o = out := ⟨_, rfl⟩
        have hE1 : Hid (out1 ++ quad (l.drop a) ++ enc (wd (a + 3)) (l.drop (a + 3)) = T) := by
          have h := hE2.out
          rw [wd_brk, if_neg (by omega)] at h
          show _ = _; rw [← h]; simp
        have hol1 : out1.length ≤ 24002 := by omega
        clear hE2 hb57
        go_wp2_with fail
      case' inr.inr =>
        have hle : a ≤ 0 := by omega
        obtain ⟨out1, rfl⟩ : ∃ o, o = out := ⟨_, rfl⟩
        have hE1 : Hid (out1 ++ quad (l.drop a) ++ enc (wd (a + 3)) (l.drop (a + 3)) = T) := by
          have h := hE2.out
          rw [wd_brk, if_neg (by omega)] at h
          show _ = _; rw [← h]; simp
        have hol1 : out1.length ≤ 24002 := by omega
        clear hE2 hb0
        go_wp2_with fail
      all_goals
        go_loop [3, 25] (fun ov kv => ∃ k : Nat, k ≤ 4 ∧ kv = .int .i64 k ∧ ov = str (out1 ++ (quad (l.drop a)).take k)) (fun _ kv => 4 - (intOf kv).toNat)
        case atStart => exact ⟨0, by omega, rfl, by simp⟩
        case round =>
          obtain ⟨k, hk, rfl, rfl⟩ := hrel
          by_cases hk4 : k < 4
          · go_wp2_with fail
            go_loop [6, 7, 8] (RefBit a k n (l.drop a)) (fun _ _ bv => 6 * k + 6 - (intOf bv).toNat)
            case atStart => exact ⟨6 * k, false, by go_num, by omega, by omega, by simp [bitsTo], rfl, by show false = _; simp⟩
            case round =>
              obtain ⟨t, th, rfl, ht1, ht2, rfl, rfl, hth⟩ := hrel
              by_cases ht6 : t < 6 * k + 6
              · have hvb : bitsTo (l.drop a) k (t - 6 * k) < 64 := by
                  have h1 := bitsTo_lt (l.drop a) k (t - 6 * k)
                  have h2 : 2 ^ (t - 6 * k) ≤ 2 ^ 6 := Nat.pow_le_pow_right (by omega) (by omega)
                  omega
                have hst : Hid (bitsTo (l.drop a) k (t + 1 - 6 * k) = bitsTo (l.drop a) k (t - 6 * k) * 2 + bitAt (l.drop a) t) := by
                  show _ = _
                  rw [show t + 1 - 6 * k = (t - 6 * k) + 1 by omega]
                  show bitsTo (l.drop a) k (t - 6 * k) * 2 + bitAt (l.drop a) (6 * k + (t - 6 * k)) = _
                  rw [show 6 * k + (t - 6 * k) = t by omega]
                have hbd : bitAt (l.drop a) t = nth l (a + t / 8) / 2 ^ (7 - t % 8) % 2 := by unfold bitAt; rw [nth_drop]
                have Hbd := Lib.hid hbd; clear hbd
                by_cases hi : a + t / 8 < n
                · have hci := hcell (a + t / 8) hi
                  have hn8 := nth_lt l (a + t / 8)
                  obtain ⟨q, hq⟩ : ∃ q, q = nth l (a + t / 8) / 2 ^ (7 - t % 8) % 2 := ⟨_, rfl⟩
                  have hq2 : q < 2 := by rw [hq]; exact Nat.mod_lt _ (by omega)
                  have hand : bits .and .i64 ((nth l (a + t / 8) : Int) / 2 ^ (7 - t % 8)) 1 = (q : Int) := by
                    have h := i64_and (nth l (a + t / 8) / 2 ^ (7 - t % 8)) 1 (Nat.lt_of_le_of_lt (Nat.div_le_self _ _) (by omega)) (by omega)
                    rw [Nat.and_one_is_mod, ← hq] at h
                    simpa using h
                  have Hq := Lib.hid hq; clear hq
                  generalize bitsTo (l.drop a) k (t - 6 * k) = v at hst hvb ⊢
                  go_wp2_with fail
                  refine ⟨⟨t + 1, true, by go_num, by omega, by omega, ?_, rfl, ?_⟩, by simp [intOf]; omega⟩
                  · rw [hst.out, Hbd.out, ← Hq.out]; go_num
                  · show true = decide _
                    simp; omega
                · have h0 : bitAt (l.drop a) t = 0 := by
                    rw [Hbd.out, nth_ge l _ (by rw [Hl.out]; omega)]; simp
                  have H0 := Lib.hid h0; clear h0
                  generalize bitsTo (l.drop a) k (t - 6 * k) = v at hst hvb ⊢
                  go_wp2_with fail
                  refine ⟨⟨t + 1, th, by go_num, by omega, by omega, ?_, rfl, ?_⟩, by simp [intOf]; omega⟩
                  · rw [hst.out, H0.out]; go_num
                  · show th = decide _
                    rw [hth.out]
                    congr 1
                    simp only [eq_iff_iff]
                    omega
              · have hte : t - 6 * k = 6 := by omega
                have hq6 := bits_six (l.drop a) k hk4
                have hql := bitsTo_lt (l.drop a) k 6
                rw [hte]
                generalize bitsTo (l.drop a) k 6 = v at hq6 hql ⊢
                have hth2 : Hid (th = decide (a + 6 * k / 8 < n)) := by
                  have h := hth.out
                  show th = _
                  rw [h]; simp; omega
                have Hq6 := Lib.hid hq6
                have hv64 : v < 64 := by omega
                clear hte hth hq6 hql
                cases th
                · have hgt : ¬ a + 6 * k / 8 < n := by have := hth2.out; simp at this; omega
                  have hqt := quad_take (l.drop a) k hk4
                  rw [quadL_gt (by simp [Hl.out]; omega)] at hqt
                  have Hqt := Lib.hid hqt; clear hqt
                  have htl : ((quad (l.drop a)).take k).length ≤ 4 := by simp; omega
                  go_wp2_with fail
                  exact ⟨⟨k + 1, by omega, by go_num, by rw [Hqt.out]⟩, by simp [intOf]; omega⟩
                · have hgt : a + 6 * k / 8 < n := by have := hth2.out; simp at this; omega
                  have hsl := fun W => slice_letters W v hv64
                  have htl : ((quad (l.drop a)).take k).length ≤ 4 := by simp; omega
                  go_wp2_with ((with_reducible refine wpList_slice rfl 9 (.const _) (some (.tmp 64)) (some (.tmp 66)) none rfl ?hs ?_); case hs => exact hsl _)
                  refine ⟨⟨k + 1, by omega, by go_num, ?_⟩, by simp [intOf]; omega⟩
                  have hqt := quad_take (l.drop a) k hk4
                  rw [quadL_le (by simp [Hl.out]; omega), ← Hq6.out] at hqt
                  rw [hqt]
          · have hk44 : k = 4 := by omega
            have HK := Lib.hid hk44; clear hk44
            go_wp2_with fail
            refine ⟨⟨a + 3, out1 ++ quad (l.drop a), ?_, by go_num, by omega, by omega, hE1⟩, by simp [intOf]; omega⟩
            rw [HK.out, List.take_of_length_le (Nat.le_of_eq (quad_len _))]
    · have ho : out = T := by
        have h := hE.out
        rw [List.drop_of_length_le (by rw [Hl.out]; omega), enc_nil] at h
        simpa using h
      subst ho
      go_wp2_with fail
      go_ret
      exact ⟨rfl, rfl⟩
end Go.Proofs.Ytoolfhjlhhcbgaa
