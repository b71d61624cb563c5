import Derived.Test.YtdhmmepcnladcaaDoorStr
import Derived.WalkSpells
namespace Go.Proofs.YtdhmmepcnladcaaDoor
open Go.RowKit

theorem cloInfobyte : (Tryd.prog.info? 5).map (fun i => (i.zero, i.size, i.bytes)) = some (some (Value.int .u8 0), 1, 1) := by kernel_rfl
def CloResbyte (xs : List Value) (n : Nat) (w : World) (e : Ending) (w' : World) : Prop := ∃ S c, e = .returned (.slice S n c) ∧ w'.ownsRow w.heap.size 5 1 (.slice S n c) n xs ∧ Below w.heap.size w w'
set_option maxRecDepth 100000 in
set_option maxHeartbeats 1000000 in
theorem Clone_byte (A : Option Addr) (n c B : Nat) (xs : List Value) (w : World) (hx : Sl w B 1 A n xs) (hB : B ≤ w.heap.size) (h1x : ∀ u ∈ xs, u.oneCell' = true) (hn : n ≤ 1000000000) :
    Calls Tryd.prog 156 #[.slice A n c] w (CloResbyte xs n w) := by
  obtain ⟨i0, hi, hz0, hz1, hz2⟩ := info_parts cloInfobyte
  have hnil : ∀ (w : World) (a : Option Addr) (n c n' c' : Nat), (binOp .eql 22 (.slice a n c) (.slice none n' c')).run Tryd.prog w = .ok (.bool a.isNone) w := fun w a n c n' c' => Lib.run_eql_slice_nil w _ _ a n c n' c' Tryd.underlying22
  cases A with
  | none =>
    have hn0 : n = 0 := by
      rcases Nat.eq_zero_or_pos n with h | h
      · exact h
      · obtain ⟨_, _, h', _⟩ := hx.2 h; cases h'
    subst hn0
    have hx0 : xs = [] := List.eq_nil_of_length_eq_zero (by simpa using hx.1)
    subst hx0
    clear hx h1x
    go_enter Tryd.func156, Tryd.ntmps156
    go_wp2_with fail
    go_ret
    exact ⟨none, 0, rfl, World.ownsRow_nil _ _ _ _, Below.refl _ _⟩
  | some a =>
    have hW : Below w.heap.size w (w.alloc (.cells #[] 5)) := (Below.refl _ w).alloc (Nat.le_refl _) _
    have hxW := hx.belowN hW hB
    have hown := World.ownsRow_made (base := w.heap.size) (e := 5) (size := 1) w #[] 0 (Nat.le_refl _) (Nat.zero_le _) rfl
    have H1 := Lib.hid h1x
    have h63 : 0 + n ≤ maxLen := by unfold maxLen; omega
    have h47 : (0 + n) * 1 ≤ 140737488355328 := by omega
    clear hx h1x
    go_enter Tryd.func156, Tryd.ntmps156
    go_wp2_with (at_builtin; refine wpList_app rfl _ _ 22 rfl w.heap.size 5 i0 (Value.int .u8 0) 1 1 Tryd.underlying22 hi hz0 hz1 hz2 rfl (by decide) _ 0 0 [] rfl hown _ (some a) n c xs rfl hxW H1.out h63 h47 hW.size ?_)
    intro S' c' w4 hown4 hb4 _
    go_wp2_with fail
    go_ret
    refine ⟨S', c', by simp, ?_, hW.trans hb4⟩
    simpa using hown4
end Go.Proofs.YtdhmmepcnladcaaDoor
