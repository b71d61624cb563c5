import Derived.Test.YtdhmmepcnladcaaDoorLk2
import Derived.Test.YtdhmmepcnladcaaDoorUrl1
namespace Go.Proofs.YtdhmmepcnladcaaDoor
open Go.RowKit

/-! ### The document's small, isScheme, between -/
def capsL : List UInt8 := [65, 66, 67, 68, 69, 70, 71, 72, 73, 74, 75, 76, 77, 78, 79, 80, 81, 82, 83, 84, 85, 86, 87, 88, 89, 90]
theorem caps_is : ∀ x : Fin 256, decide (0 ≤ Lib.indexByte capsL (UInt8.ofNat x.val)) = (decide (65 ≤ x.val) && decide (x.val ≤ 90)) := by decide +kernel
set_option maxRecDepth 100000 in
set_option maxHeartbeats 1000000 in
theorem small_any (l : List UInt8) (w : World) (hl : l.length ≤ maxLen) : Calls Tryd.prog 114 #[str l] w fun e w' => e = .returned (str (lowL l)) ∧ Below w.heap.size w w' := by
  unfold maxLen at hl
  obtain ⟨c, w1, hconv, hown, hc, hb1, hsz⟩ := run_toOwn (P := Tryd.prog) w 9 22 5 l Tryd.underlying9 Tryd.underlying22 Tryd.underlying5 rfl
  obtain ⟨n, hn⟩ : ∃ n, n = l.length := ⟨_, rfl⟩
  rw [← hn] at hconv hl hc
  have Hn := Lib.hid hn
  have Hown := Lib.hid hown
  have Hsz := Lib.hid hsz
  clear hn hown hsz
  go_enter Tryd.func114, Tryd.ntmps114
  go_wp2_with fail
  go_loopw [4, 9] (fun _ iv wr => LowRel w n l iv wr) (fun _ iv _ => n - (intOf iv).toNat)
  case atStart => exact ⟨0, by omega, rfl, hb1, by simpa using Hown.out⟩
  case round =>
    obtain ⟨k, hk, rfl, hbel, hO⟩ := hrel
    have hlen : ((l.take k).map lowB ++ l.drop k).length = n := by
      simp only [List.length_append, List.length_map, List.length_take, List.length_drop]; have := Hn.out; omega
    by_cases hkn : k < n
    · have hkl : k < l.length := by rw [← Hn.out]; exact hkn
      have hfz := hO.fz k (by rw [hlen]; exact hkn)
      have hcell : wr.cell? ⟨w.heap.size, k, none⟩ = some (.int .u8 (nth l k)) := by
        obtain ⟨b, off, hA, _, hc⟩ := hO.by_.opn (by rw [hlen]; omega)
        injection hA with hA
        injection hA with hA hB _
        subst hA
        subst hB
        have := hc k (by rw [hlen]; exact hkn)
        rw [Nat.zero_add] at this
        rw [this]
        have e : nth ((l.take k).map lowB ++ l.drop k) k = nth l k := by
          have : ((l.take k).map lowB).length = k := by simp; omega
          unfold nth
          simp only [List.getD]
          rw [List.getElem?_append_right (by omega), this, Nat.sub_self, List.getElem?_drop, Nat.add_zero]
        rw [e]
      have hx := nth_lt l k
      have hset := (low_at l k hkl).2
      have hnk : l[k].toNat = nth l k := (nth_of l k hkl).symm
      have hO2 := hO.set k (lowB l[k])
      rw [← hset] at hO2
      have hI := fun W => IndexByte_any capsL (nth l k) W
      have hcap := caps_is ⟨nth l k, hx⟩
      simp only at hcap
      generalize Lib.indexByte capsL (UInt8.ofNat (nth l k)) = z at hI hcap
      have hI2 : ∀ W, Calls Tryd.prog 93 #[.string ⟨#[65, 66, 67, 68, 69, 70, 71, 72, 73, 74, 75, 76, 77, 78, 79, 80, 81, 82, 83, 84, 85, 86, 87, 88, 89, 90]⟩, .int .u8 (nth l k : Nat)] W fun e w' => e = .returned (.int .i64 z) ∧ W = w' := hI
      have HI := Lib.hid hI2
      have HO := Lib.hid hO
      have HO2 := Lib.hid hO2
      have Hset := Lib.hid hset
      have Hnk := Lib.hid hnk
      have Hlen := Lib.hid hlen
      clear hset hnk hO hO2 hlen hI hI2
      by_cases h12 : 65 ≤ nth l k ∧ nth l k ≤ 90
      · have hz : decide (0 ≤ z) = true := by rw [hcap]; simp [h12.1, h12.2]
        have hw32 : IntKind.u8.wrap (((nth l k : Nat) : Int) + 32) = ((nth l k + 32 : Nat) : Int) := by rw [IntKind.wrap_u8]; omega
        have Hz12 := Lib.hid h12
        have Hcap := Lib.hid hcap
        clear hcap h12
        go_wp2_with fail
        refine (HI.out _).mono ?_
        rintro e w2 ⟨rfl, rfl⟩
        go_wp2_with fail
        refine ⟨⟨k + 1, by omega, by go_num, hbel.setCell (Nat.le_refl _) _, ?_⟩, by simp [intOf]; omega⟩
        have e : (lowB l[k]).toNat = nth l k + 32 := by
          unfold lowB
          rw [if_pos ⟨UInt8.le_iff_toNat_le.2 (by rw [Hnk.out]; exact Hz12.out.1), UInt8.le_iff_toNat_le.2 (by rw [Hnk.out]; exact Hz12.out.2)⟩, UInt8.toNat_add, Hnk.out]
          show (nth l k + 32) % 256 = _
          have := Hz12.out
          omega
        have HO3 := HO2.out
        rw [e] at HO3
        first | exact HO3 | (push_cast at HO3; exact HO3)
      · have hz : decide (0 ≤ z) = false := by
          rw [hcap]
          rw [Bool.and_eq_false_iff, decide_eq_false_iff_not, decide_eq_false_iff_not]
          omega
        have hs : LowRel w n l (.int .i64 ((k + 1 : Nat) : Int)) wr := by
          refine ⟨k + 1, by omega, rfl, hbel, ?_⟩
          have e : lowB l[k] = l[k] := lowB_same (by rw [Hnk.out]; exact h12)
          rw [Hset.out, e]
          have e2 : ((l.take k).map lowB ++ l.drop k)[k]'(by rw [Hlen.out]; exact hkn) = l[k] := by
            have : ((l.take k).map lowB).length = k := by simp; omega
            rw [List.getElem_append_right (by omega)]
            simp only [List.getElem_drop]
            congr 1
            omega
          rw [← e2, List.set_getElem_self]
          exact HO.out
        have Hs := Lib.hid hs
        have Hcap := Lib.hid hcap
        clear hcap hs h12
        go_wp2_with fail
        refine (HI.out _).mono ?_
        rintro e w2 ⟨rfl, rfl⟩
        go_wp2_with fail
        exact ⟨by have := Hs.out; simpa using this, by simp [intOf]; omega⟩
    · have hkn' : k = n := by omega
      have hM : (l.take k).map lowB ++ l.drop k = lowL l := by
        rw [hkn', List.take_of_length_le (by rw [← Hn.out]; omega), List.drop_of_length_le (by rw [← Hn.out]; omega), List.append_nil]; rfl
      rw [hM] at hO hlen
      have hts := run_toStr (P := Tryd.prog) wr 22 9 5 _ (some ⟨w.heap.size, 0, none⟩) n c (lowL l) (by have := hO.by_; rw [hlen] at this; exact this) Tryd.underlying22 Tryd.underlying5 Tryd.underlying9
      clear hO hM hlen hkn'
      go_wp2_with fail
      go_ret
      exact ⟨rfl, hbel⟩
end Go.Proofs.YtdhmmepcnladcaaDoor
