import Derived.Test.YtdhmmepcnladcaaDoorStr
import Derived.WalkSpells
namespace Go.Proofs.YtdhmmepcnladcaaDoor
open Go.RowKit

theorem cloInfoPart : (Tryd.prog.info? 25).map (fun i => (i.zero, i.size, i.bytes)) = some (some (Value.agg #[.string ⟨#[]⟩, .string ⟨#[]⟩, .string ⟨#[]⟩, .string ⟨#[]⟩, .int .i64 0, .slice none 0 0, .slice none 0 0]), 7, 120) := by kernel_rfl
def CloResPart (xs : List Value) (n : Nat) (w : World) (e : Ending) (w' : World) : Prop := ∃ S c, e = .returned (.slice S n c) ∧ w'.ownsRow w.heap.size 25 7 (.slice S n c) n xs ∧ Below w.heap.size w w'
set_option maxRecDepth 100000 in
set_option maxHeartbeats 1000000 in
theorem Clone_Part (A : Option Addr) (n c B : Nat) (xs : List Value) (w : World) (hx : Sl w B 7 A n xs) (hB : B ≤ w.heap.size) (h1x : ∀ u ∈ xs, u.oneCell' = true) (hn : n ≤ 1000000000) :
    Calls Tryd.prog 157 #[.slice A n c] w (CloResPart xs n w) := by
  obtain ⟨i0, hi, hz0, hz1, hz2⟩ := info_parts cloInfoPart
  have hnil : ∀ (w : World) (a : Option Addr) (n c n' c' : Nat), (binOp .eql 23 (.slice a n c) (.slice none n' c')).run Tryd.prog w = .ok (.bool a.isNone) w := fun w a n c n' c' => Lib.run_eql_slice_nil w _ _ a n c n' c' Tryd.underlying23
  cases A with
  | none =>
    have hn0 : n = 0 := by
      rcases Nat.eq_zero_or_pos n with h | h
      · exact h
      · obtain ⟨_, _, h', _⟩ := hx.2 h; cases h'
    subst hn0
    have hx0 : xs = [] := List.eq_nil_of_length_eq_zero (by simpa using hx.1)
    subst hx0
    clear hx h1x
    go_enter Tryd.func157, Tryd.ntmps157
    go_wp2_with fail
    go_ret
    exact ⟨none, 0, rfl, World.ownsRow_nil _ _ _ _, Below.refl _ _⟩
  | some a =>
    have hW : Below w.heap.size w (w.alloc (.cells #[] 25)) := (Below.refl _ w).alloc (Nat.le_refl _) _
    have hxW := hx.belowN hW hB
    have hown := World.ownsRow_made (base := w.heap.size) (e := 25) (size := 7) w #[] 0 (Nat.le_refl _) (Nat.zero_le _) rfl
    have H1 := Lib.hid h1x
    have h63 : 0 + n ≤ maxLen := by unfold maxLen; omega
    have h47 : (0 + n) * 120 ≤ 140737488355328 := by omega
    clear hx h1x
    go_enter Tryd.func157, Tryd.ntmps157
    go_wp2_with (at_builtin; refine wpList_app rfl _ _ 23 rfl w.heap.size 25 i0 (Value.agg #[.string ⟨#[]⟩, .string ⟨#[]⟩, .string ⟨#[]⟩, .string ⟨#[]⟩, .int .i64 0, .slice none 0 0, .slice none 0 0]) 7 120 Tryd.underlying23 hi hz0 hz1 hz2 rfl (by decide) _ 0 0 [] rfl hown _ (some a) n c xs rfl hxW H1.out h63 h47 hW.size ?_)
    intro S' c' w4 hown4 hb4 _
    go_wp2_with fail
    go_ret
    refine ⟨S', c', by simp, ?_, hW.trans hb4⟩
    simpa using hown4
end Go.Proofs.YtdhmmepcnladcaaDoor
