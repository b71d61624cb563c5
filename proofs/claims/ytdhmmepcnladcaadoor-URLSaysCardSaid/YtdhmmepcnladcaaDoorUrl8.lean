import Derived.Test.YtdhmmepcnladcaaDoorUrlB
import Derived.Test.YtdhmmepcnladcaaDoorUrlW
namespace Go.Proofs.YtdhmmepcnladcaaDoor
open Go.RowKit

theorem LastIndexByte_any (l : List UInt8) (w : World) (hl : l.length ≤ 1000000) : Calls Tryd.prog 175 #[str l, .int .u8 47] w fun e w' => e = .returned (.int .i64 (Lib.lastIndexByte ⟨l.toArray⟩ 47)) ∧ w' = w :=
  Go.Proofs.Tryd.strings_LastIndexByte ⟨l.toArray⟩ 47 (by simp [ByteArray.size]; omega) w
set_option maxRecDepth 100000 in
set_option maxHeartbeats 1000000 in
theorem merged_any (b : UrlD) (p : List UInt8) (w : World) (hb : b.path.length ≤ 1000) (hp : p.length ≤ 1000) : Calls Tryd.prog 111 #[b.val, str p] w fun e w' => e = .returned (str (mergedU b p)) ∧ Below w.heap.size w w' := by
  obtain ⟨W, hW⟩ : ∃ W, W = w.alloc (.cells #[str b.scheme, .bool b.hasHost, str b.host, str b.path, .bool b.hasQuery, str b.query, .bool b.hasFrag, str b.frag] 59) := ⟨_, rfl⟩
  have hbW : Below w.heap.size w W := by rw [hW]; exact (Below.refl _ w).alloc (Nat.le_refl _) _
  have hbx : Box8 W w.heap.size (str b.scheme) (.bool b.hasHost) (str b.host) (str b.path) (.bool b.hasQuery) (str b.query) (.bool b.hasFrag) (str b.frag) := by rw [hW]; exact Box8.new w _ _ _ _ _ _ _ _ _
  have HbW := Lib.hid hbW
  clear hbW
  obtain ⟨c0, c1, c2, c3, c4, c5, c6, c7⟩ := hbx
  obtain ⟨r, hr⟩ : ∃ r, r = mergedU b p := ⟨_, rfl⟩
  rw [← hr]
  unfold mergedU at hr
  have hX := fun X => LastIndexByte_any b.path X (by omega)
  obtain ⟨v1, v2⟩ := lastIdx_range b.path
  generalize Lib.lastIndexByte ⟨b.path.toArray⟩ 47 = v at hr hX v1 v2
  have HX := Lib.hid hX
  have hval : b.val = .agg #[str b.scheme, .bool b.hasHost, str b.host, str b.path, .bool b.hasQuery, str b.query, .bool b.hasFrag, str b.frag] := rfl
  rw [hval]
  clear hX hval
  obtain ⟨sc, hh, ho, pa, hq, qu, hf, fr⟩ := b
  simp only at *
  by_cases hc : (hh && pa == []) = true
  · rw [if_pos hc] at hr
    rw [Bool.and_eq_true, beq_iff_eq] at hc
    obtain ⟨rfl, rfl⟩ := hc
    have HR := Lib.hid hr
    clear hr
    go_enter Tryd.func111, Tryd.ntmps111
    go_wp2_with fail
    go_ret
    rw [← hW]
    exact ⟨by rw [HR.out]; rfl, HbW.out⟩
  · rw [if_neg hc] at hr
    have i1 : IntKind.i64.wrap (v + 1) = v + 1 := IntWalk.i64_in _ (by omega)
    have i2 : 0 ≤ v + 1 := by omega
    have i3 : v + 1 ≤ (pa.length : Int) := by omega
    have i4 : (pa.take (v + 1).toNat).length + p.length ≤ 9223372036854775807 := by rw [List.length_take]; omega
    have HR := Lib.hid hr
    have HI := Lib.hid hc
    clear hr hc
    cases hh
    · go_enter Tryd.func111, Tryd.ntmps111
      go_wp2_with fail
      go_quiet ((go_at_call 175; exact Calls.quiet_of_same (HX.out _)))
      go_wp2_with fail
      go_ret
      rw [← hW]
      exact ⟨by rw [HR.out]; rfl, belN HbW.out _⟩
    · have e1 : (pa == []) = false := by
        have := HI.out
        rw [Bool.true_and, Bool.not_eq_true] at this
        exact this
      go_enter Tryd.func111, Tryd.ntmps111
      go_wp2_with fail
      go_quiet ((go_at_call 175; exact Calls.quiet_of_same (HX.out _)))
      go_wp2_with fail
      go_ret
      rw [← hW]
      exact ⟨by rw [HR.out]; rfl, belN HbW.out _⟩
end Go.Proofs.YtdhmmepcnladcaaDoor
