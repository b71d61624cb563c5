import Derived.Test.YtoolfhjlhhcbgaaDoorBuild
import Derived.Test.YtoolfhjlhhcbgaaDoorBaseM
namespace Go.Proofs.YtoolfhjlhhcbgaaDoor
open Go.RowKit

/-- 'b[k:]' at []byte. -/
theorem cut_bytes (w : World) (A : Option Addr) (n c : Nat) (ki : IntKind) (k : Int) (h0 : 0 ≤ k) (h1 : k ≤ n) :
    (Instr.slice 22 (.slice A n c) (some (.int ki k)) none none).run Tryd.prog w = .ok (.slice (cutA A c k.toNat 1) (n - k.toNat) (c - k.toNat)) w :=
  run_cut w _ _ 1 Tryd.underlying22 (Tryd.sizeOf5 w) A n c ki k h0 h1

attribute [local go_sem high] cut_bytes

def TextRel (w : World) (T : List UInt8) (bv wv : Value) (wr : World) : Prop :=
  ∃ A' m c' rest out wide, bv = .slice A' m c' ∧ m ≤ c' ∧ m ≤ 4000 ∧ By wr w.heap.size A' m rest ∧ wv = .int .i64 (wide : Nat) ∧ wide ≤ 76 ∧ wide % 4 = 0 ∧ Hid (out ++ enc wide rest = T) ∧ Bld w.heap.size out wr ∧ Below w.heap.size w wr

set_option maxRecDepth 100000 in
set_option maxHeartbeats 1000000 in
theorem Text_any (A : Option Addr) (n c : Nat) (l : List UInt8) (w : World) (hb : By w w.heap.size A n l) (hn : n ≤ c) (hc : n ≤ 4000) :
    Calls Tryd.prog 46 #[.slice A n c] w fun e w' => e = .returned (str (enc 0 l)) ∧ Below w.heap.size w w' := by
  obtain ⟨T, hT⟩ : ∃ T, T = enc 0 l := ⟨_, rfl⟩
  have hTl : T.length ≤ 24000 := by
    have := enc_len l.length 0 l (Nat.le_refl _)
    have := hb.len
    rw [hT]; omega
  rw [← hT]
  have HT := Lib.hid hT; clear hT
  go_enter Tryd.func46, Tryd.ntmps46
  go_wp2_with fail
  go_loopw [0, 4] (TextRel w T) (fun bv _ _ => lenOf bv)
  case atStart => exact ⟨A, n, c, l, [], 0, rfl, hn, hc, (hb.alloc (Nat.le_refl _) _), rfl, by omega, rfl, by simpa [Hid] using HT.out.symm, Bld.fresh w, (Below.refl _ _).alloc (Nat.le_refl _) _⟩
  case round =>
    obtain ⟨A', m, c', rest, out, wide, rfl, hm, hm4, hby, rfl, hwd, hw4, hE, hB, hbel⟩ := hrel
    by_cases hm0 : m = 0
    · subst hm0
      go_wp2_with fail
      have hr0 : rest = [] := List.eq_nil_of_length_eq_zero hby.len
      obtain rfl : out = T := by have := hE.out; rw [hr0, enc_nil] at this; simpa using this
      refine (String_any w.heap.size out _ hB).mono ?_
      rintro e w1 ⟨rfl, hb1⟩
      go_wp2_with fail
      go_ret
      exact ⟨rfl, hbel.trans hb1⟩
    · have hmp : 0 < m := by omega
      have hol : out.length ≤ 24000 := by have := congrArg List.length hE.out; simp at this; omega
      obtain ⟨b', off', rfl, hb', hcell⟩ := hby.opn hmp
      have hlen := hby.len
      have hE2 : Hid (out ++ brk wide ++ quad rest ++ enc (after wide) (rest.drop (min 3 m)) = T) := by
        have h := hE.out
        rw [enc_step wide rest (by omega), hlen] at h
        show _ = _
        rw [← h]; simp
      clear hE
      have HLen := Lib.hid hlen; clear hlen
      by_cases hw7 : wide = 76
      case' pos =>
        subst hw7
        go_wp2_with fail
        refine (WriteString_any w.heap.size out [13, 10] _ hB (by simp; omega)).mono ?_
        rintro e w1 ⟨rfl, hB1, hb1⟩
        have hby1 := hby.below hb1
        have hbel1 := hbel.trans hb1
        obtain ⟨out1, ho1⟩ : ∃ o, o = out ++ [13, 10] := ⟨_, rfl⟩
        rw [← ho1] at hB1
        have hE1 : Hid (out1 ++ quad rest ++ enc (after 76) (rest.drop (min 3 m)) = T) := by rw [ho1]; exact hE2.out
        have hol1 : out1.length ≤ 24002 := by rw [ho1]; simp; omega
        have hc1 : ∀ k, k < m → w1.cell? ⟨b', off' + k, none⟩ = some (.int .u8 (nth rest k)) := fun k hk => (hb1.cell (p := ⟨b', _, none⟩) hb').trans (hcell k hk)
        clear hc hcell hB hby hbel hb1 ho1 hE2
        obtain ⟨x4, hx4, hx4b, hx4c, haft⟩ : ∃ x4 : Nat, Hid ((4 : Int) = x4) ∧ x4 ≤ 76 ∧ x4 % 4 = 0 ∧ Hid (after 76 = x4) := ⟨4, rfl, by omega, rfl, rfl⟩
        go_wp2_with fail
      case' neg =>
        have hw7' : ((wide : Int) == 76) = false := by simp; omega
        go_wp2_with fail
        obtain ⟨w1, rfl⟩ : ∃ w1 : World, w1 = wr := ⟨_, rfl⟩
        obtain ⟨out1, rfl⟩ : ∃ o, o = out := ⟨_, rfl⟩
        have hB1 := hB
        have hby1 := hby
        have hbel1 := hbel
        have hE1 : Hid (out1 ++ quad rest ++ enc (after wide) (rest.drop (min 3 m)) = T) := by
          have h := hE2.out
          unfold brk at h
          rw [if_neg hw7] at h
          show _ = _
          rw [← h]; simp
        have hol1 : out1.length ≤ 24002 := by omega
        have hc1 : ∀ k, k < m → w1.cell? ⟨b', off' + k, none⟩ = some (.int .u8 (nth rest k)) := hcell
        clear hc hcell hB hby hbel hE2 hol
        obtain ⟨x4, hx4, hx4b, hx4c, haft⟩ : ∃ x4 : Nat, Hid ((wide : Int) + 4 = x4) ∧ x4 ≤ 76 ∧ x4 % 4 = 0 ∧ Hid (after wide = x4) :=
          ⟨wide + 4, by show _ = _; omega, by omega, by omega, by show after wide = _; unfold after; rw [if_neg hw7]⟩
      all_goals
        go_loop [6, 18] (fun vv iv => ∃ i : Nat, i ≤ 3 ∧ iv = .int .i64 i ∧ vv = .int .i64 (valTo rest i : Nat)) (fun _ iv => 3 - (intOf iv).toNat)
        case atStart => exact ⟨0, by omega, rfl, rfl⟩
        case round =>
          obtain ⟨i, hi, rfl, rfl⟩ := hrel
          have hv := valTo_lt rest i
          by_cases hi3 : i < 3
          · have hv2 : valTo rest i < 65536 := by
              rcases (by omega : i = 0 ∨ i = 1 ∨ i = 2) with rfl | rfl | rfl <;> omega
            by_cases him : i < m
            · have hci := hc1 i him
              have hn8 := nth_lt rest i
              have hor : bits .or .i64 ((valTo rest i : Int) * 256) (nth rest i : Int) = ((valTo rest (i + 1) : Nat) : Int) := by
                have := i64_or (valTo rest i * 256) (nth rest i) (by omega) (by omega)
                rw [or_low8 (valTo rest i) (nth rest i) (by omega), Int.natCast_mul] at this
                exact this
              go_wp2_with fail
              exact ⟨⟨i + 1, by omega, by go_num, rfl⟩, by simp [intOf]; omega⟩
            · have hnx : Hid (valTo rest (i + 1) = valTo rest i * 256) := by
                show valTo rest i * 256 + nth rest i = _
                rw [nth_ge rest i (by rw [HLen.out]; omega)]; omega
              go_wp2_with fail
              exact ⟨⟨i + 1, by omega, by go_num, by rw [hnx.out]; go_num⟩, by simp [intOf]; omega⟩
          · obtain rfl : i = 3 := by omega
            have hk0 : 0 ≤ min 3 (m : Int) := by omega
            have hk1 : min 3 (m : Int) ≤ m := by omega
            go_wp2_with fail
            go_loopw [34] (fun iv wr => ∃ i : Nat, i ≤ 4 ∧ iv = .int .i64 i ∧ Bld w.heap.size (out1 ++ (quad rest).take i) wr ∧ Below w.heap.size w1 wr) (fun iv _ => 4 - (intOf iv).toNat)
            case atStart => exact ⟨0, by omega, rfl, by simpa using hB1, Below.refl _ _⟩
            case round =>
              obtain ⟨i, hi, rfl, hBi, hbi⟩ := hrel
              by_cases hi4 : i < 4
              · have hqt : ∀ x : UInt8, x = quadL (min 3 rest.length) (val3 rest) i → out1 ++ (quad rest).take i ++ [x] = out1 ++ (quad rest).take (i + 1) := fun x hx => by rw [hx, quad_take rest i hi4]; simp
                have Hqt := Lib.hid hqt; clear hqt
                have htl : ((quad rest).take i).length ≤ 4 := by simp; omega
                by_cases hgt : min 3 m < i
                · go_wp2_with fail
                  refine (WriteByte_any w.heap.size _ 61 _ hBi (by omega) (by omega) (by simp only [List.length_append]; omega)).mono ?_
                  rintro e w2 ⟨rfl, hB2, hb2⟩
                  go_wp2_with fail
                  refine ⟨⟨i + 1, by omega, by go_num, ?_, hbi.trans hb2⟩, by simp [intOf]; omega⟩
                  exact Hqt.out 61 (by rw [quadL_gt (by rw [HLen.out]; exact hgt)]) ▸ hB2
                · obtain ⟨q, hq⟩ : ∃ q, q = valTo rest 3 / 2 ^ (18 - 6 * i) % 64 := ⟨_, rfl⟩
                  have hq64 : q < 64 := by omega
                  have hand : bits .and .i64 ((valTo rest 3 : Int) / 2 ^ (18 - 6 * i)) 63 = (q : Int) := by
                    have h := i64_and (valTo rest 3 / 2 ^ (18 - 6 * i)) 63 (Nat.lt_of_le_of_lt (Nat.div_le_self _ _) (by have := valTo_lt rest 3; omega)) (by omega)
                    rw [and_63, ← hq] at h
                    simpa using h
                  have Hq := Lib.hid hq; clear hq
                  have hn8 := nth_lt letters q
                  go_wp2_with fail
                  refine (WriteByte_any w.heap.size _ _ _ hBi (Int.natCast_nonneg _) (Int.ofNat_lt.2 (nth_lt _ _)) (by simp only [List.length_append]; omega)).mono ?_
                  rintro e w2 ⟨rfl, hB2, hb2⟩
                  go_wp2_with fail
                  refine ⟨⟨i + 1, by omega, by go_num, ?_, hbi.trans hb2⟩, by simp [intOf]; omega⟩
                  exact Hqt.out (UInt8.ofNat (nth letters q)) (by rw [quadL_le (by rw [HLen.out]; exact hgt), Hq.out, valTo_three]) ▸ hB2
              · obtain rfl : i = 4 := by omega
                go_wp2_with fail
                have hk3 : (min 3 (m : Int)).toNat = min 3 m := by omega
                refine ⟨?rel, ?measure⟩
                case rel =>
                  refine ⟨_, _, _, rest.drop (min 3 m), out1 ++ quad rest, x4, rfl, by omega, by omega, ?_, by rw [← hx4.out], hx4b, hx4c, ?_, ?_, hbel1.trans hbi⟩
                  · rw [hk3]; exact (hby1.below hbi).cut (by omega) hm
                  · have h := hE1.out; have ha := haft.out; rw [ha] at h; exact h
                  · rw [← List.take_of_length_le (Nat.le_of_eq (quad_len rest))]; exact hBi
                case measure => simp only [lenOf]; omega

set_option maxHeartbeats 400000 in
theorem Write_ok (A : Option Addr) (n c : Nat) (l : List UInt8) (w : World) (hb : By w w.heap.size A n l) (hn : n ≤ c) (hc : n ≤ 4000) :
    Calls Tryd.prog 10 #[.slice A n c] w fun e w' => e = .returned (.tuple #[str (enc 0 l), .int .i64 0]) ∧ Below w.heap.size w w' := by
  go_enter Tryd.func10, Tryd.ntmps10
  go_wp2_with fail
  refine (Text_any A n c l w hb hn hc).mono ?_
  rintro e w1 ⟨rfl, hb1⟩
  go_wp2_with fail
  go_ret2
  exact ⟨rfl, hb1⟩
set_option maxHeartbeats 400000 in
theorem Write_many (A : Option Addr) (n c : Nat) (w : World) (hc : ¬ n ≤ 4000) (hm : n ≤ maxLen) :
    Calls Tryd.prog 10 #[.slice A n c] w fun e w' => e = .returned (.tuple #[str [], .int .i64 2]) ∧ w = w' := by
  unfold maxLen at hm
  go_enter Tryd.func10, Tryd.ntmps10
  go_wp2_with fail
  go_ret2
  exact ⟨rfl, rfl⟩

/-! ### slices.Equal at []byte -/
theorem take_step (l l' : List UInt8) (k : Nat) (h : k < l.length) (h' : k < l'.length) (ht : l.take k = l'.take k) (hn : nth l k = nth l' k) : l.take (k + 1) = l'.take (k + 1) := by
  rw [List.take_succ_eq_append_getElem h, List.take_succ_eq_append_getElem h', ht]
  rw [nth_of l k h, nth_of l' k h'] at hn
  rw [UInt8.toNat_inj.1 hn]
theorem ne_of_nth (l l' : List UInt8) (k : Nat) (hn : nth l k ≠ nth l' k) : (l == l') = false := by
  rw [beq_eq_false_iff_ne]; rintro rfl; exact hn rfl
set_option maxHeartbeats 400000 in
theorem Equal_bytes (A A' : Option Addr) (n c n' c' : Nat) (B B' : Nat) (l l' : List UInt8) (w : World) (hb : By w B A n l) (hb' : By w B' A' n' l') (hm : n ≤ maxLen) :
    Calls Tryd.prog 11 #[.slice A n c, .slice A' n' c'] w fun e w' => e = .returned (.bool (l == l')) ∧ ∃ q, w' = w.drewN q := by
  unfold maxLen at hm
  by_cases hnn : n = n'
  · subst hnn
    have hl := hb.len
    have hl' := hb'.len
    have Hl := Lib.hid hl; have Hl' := Lib.hid hl'
    clear hl hl'
    go_enter Tryd.func11, Tryd.ntmps11
    go_wp2_with fail
    go_loopw [13] (fun iv wr => ∃ k q : Nat, k ≤ n ∧ iv = .int .i64 k ∧ Hid (l.take k = l'.take k) ∧ wr = w.drewN q) (fun iv _ => n - (intOf iv).toNat)
    case atStart => exact ⟨0, 0, by omega, rfl, rfl, rfl⟩
    case round =>
      obtain ⟨k, q, hk, rfl, ht, rfl⟩ := hrel
      by_cases hkn : k < n
      · obtain ⟨b, off, rfl, _, hc⟩ := hb.at_ hkn
        obtain ⟨b', off', rfl, _, hc'⟩ := hb'.at_ hkn
        by_cases hx : nth l k = nth l' k
        · have hd : ((nth l k : Int) != (nth l' k : Int)) = false := by simp [hx]
          have Hx := Lib.hid hx; clear hx
          go_wp2_with fail
          go_quiet (fail)
          go_wp2_with fail
          exact ⟨⟨k + 1, _, by omega, by go_num, take_step l l' k (by rw [Hl.out]; exact hkn) (by rw [Hl'.out]; exact hkn) ht.out Hx.out, rfl⟩, by simp [intOf]; omega⟩
        · have hd : ((nth l k : Int) != (nth l' k : Int)) = true := by simp; omega
          have Hx := Lib.hid (ne_of_nth l l' k hx)
          clear hx
          go_wp2_with fail
          go_quiet (fail)
          go_wp2_with fail
          go_ret
          exact ⟨by rw [Hx.out]; rfl, _, World.drewN_drewN _ _ _⟩
      · go_wp2_with fail
        go_ret
        have : l = l' := by
          have h := ht.out
          rwa [List.take_of_length_le (by rw [Hl.out]; omega), List.take_of_length_le (by rw [Hl'.out]; omega)] at h
        exact ⟨by rw [this]; simp, _, rfl⟩
  · have hd : ((n : Int) != (n' : Int)) = true := by simp; omega
    have hll : (l == l') = false := by
      rw [beq_eq_false_iff_ne]
      rintro rfl
      exact hnn (hb.len.symm.trans hb'.len)
    have Hll := Lib.hid hll; clear hll
    go_enter Tryd.func11, Tryd.ntmps11
    go_wp2_with fail
    go_ret
    exact ⟨by rw [Hll.out]; rfl, 0, rfl⟩
end Go.Proofs.YtoolfhjlhhcbgaaDoor
