import Derived.Test.YtdhmmepcnladcaaDoorBuild
import Derived.Test.YtdhmmepcnladcaaDoorBaseM
namespace Go.Proofs.YtdhmmepcnladcaaDoor
open Go.RowKit

/-- 'b[k:]' at []byte. -/
theorem cut_bytes (w : World) (A : Option Addr) (n c : Nat) (ki : IntKind) (k : Int) (h0 : 0 ≤ k) (h1 : k ≤ n) :
    (Instr.slice 22 (.slice A n c) (some (.int ki k)) none none).run Tryd.prog w = .ok (.slice (cutA A c k.toNat 1) (n - k.toNat) (c - k.toNat)) w :=
  run_cut w _ _ 1 Tryd.underlying22 (Tryd.sizeOf5 w) A n c ki k h0 h1

attribute [local go_sem high] cut_bytes

/-! ### slices.Equal at []byte -/
theorem take_step (l l' : List UInt8) (k : Nat) (h : k < l.length) (h' : k < l'.length) (ht : l.take k = l'.take k) (hn : nth l k = nth l' k) : l.take (k + 1) = l'.take (k + 1) := by
  rw [List.take_succ_eq_append_getElem h, List.take_succ_eq_append_getElem h', ht]
  rw [nth_of l k h, nth_of l' k h'] at hn
  rw [UInt8.toNat_inj.1 hn]
theorem ne_of_nth (l l' : List UInt8) (k : Nat) (hn : nth l k ≠ nth l' k) : (l == l') = false := by
  rw [beq_eq_false_iff_ne]; rintro rfl; exact hn rfl
set_option maxHeartbeats 400000 in
theorem Equal_bytes (A A' : Option Addr) (n c n' c' : Nat) (B B' : Nat) (l l' : List UInt8) (w : World) (hb : By w B A n l) (hb' : By w B' A' n' l') (hm : n ≤ maxLen) :
    Calls Tryd.prog 54 #[.slice A n c, .slice A' n' c'] w fun e w' => e = .returned (.bool (l == l')) ∧ ∃ q, w' = w.drewN q := by
  unfold maxLen at hm
  by_cases hnn : n = n'
  · subst hnn
    have hl := hb.len
    have hl' := hb'.len
    have Hl := Lib.hid hl; have Hl' := Lib.hid hl'
    clear hl hl'
    go_enter Tryd.func54, Tryd.ntmps54
    go_wp2_with fail
    go_loopw [13] (fun iv wr => ∃ k q : Nat, k ≤ n ∧ iv = .int .i64 k ∧ Hid (l.take k = l'.take k) ∧ wr = w.drewN q) (fun iv _ => n - (intOf iv).toNat)
    case atStart => exact ⟨0, 0, by omega, rfl, rfl, rfl⟩
    case round =>
      obtain ⟨k, q, hk, rfl, ht, rfl⟩ := hrel
      by_cases hkn : k < n
      · obtain ⟨b, off, rfl, _, hc⟩ := hb.at_ hkn
        obtain ⟨b', off', rfl, _, hc'⟩ := hb'.at_ hkn
        by_cases hx : nth l k = nth l' k
        · have hd : ((nth l k : Int) != (nth l' k : Int)) = false := by simp [hx]
          have Hx := Lib.hid hx; clear hx
          go_wp2_with fail
          go_quiet (fail)
          go_wp2_with fail
          exact ⟨⟨k + 1, _, by omega, by go_num, take_step l l' k (by rw [Hl.out]; exact hkn) (by rw [Hl'.out]; exact hkn) ht.out Hx.out, rfl⟩, by simp [intOf]; omega⟩
        · have hd : ((nth l k : Int) != (nth l' k : Int)) = true := by simp; omega
          have Hx := Lib.hid (ne_of_nth l l' k hx)
          clear hx
          go_wp2_with fail
          go_quiet (fail)
          go_wp2_with fail
          go_ret
          exact ⟨by rw [Hx.out]; rfl, _, World.drewN_drewN _ _ _⟩
      · go_wp2_with fail
        go_ret
        have : l = l' := by
          have h := ht.out
          rwa [List.take_of_length_le (by rw [Hl.out]; omega), List.take_of_length_le (by rw [Hl'.out]; omega)] at h
        exact ⟨by rw [this]; simp, _, rfl⟩
  · have hd : ((n : Int) != (n' : Int)) = true := by simp; omega
    have hll : (l == l') = false := by
      rw [beq_eq_false_iff_ne]
      rintro rfl
      exact hnn (hb.len.symm.trans hb'.len)
    have Hll := Lib.hid hll; clear hll
    go_enter Tryd.func54, Tryd.ntmps54
    go_wp2_with fail
    go_ret
    exact ⟨by rw [Hll.out]; rfl, 0, rfl⟩
end Go.Proofs.YtdhmmepcnladcaaDoor
