import Derived.Test.YtdhmmepcnladcaaDoorTokM
import Derived.Test.YtdhmmepcnladcaaDoorFun
import Derived.Test.YtdhmmepcnladcaaDoorStr
namespace Go.Proofs.YtdhmmepcnladcaaDoor
open Go.RowKit

theorem IndexByte_tspec (x : Nat) (w : World) :
    Calls Tryd.prog 93 #[.string ⟨#[40, 41, 60, 62, 64, 44, 59, 58, 92, 34, 47, 91, 93, 63, 61]⟩, .int .u8 (x : Int)] w fun e w' => e = .returned (.int .i64 (idxB tspec x)) ∧ w = w' := by
  refine (Go.Proofs.Tryd.strings_IndexByte ⟨tspec.toArray⟩ (x : Int) w).mono ?_
  rintro e w' ⟨rfl, rfl⟩
  exact ⟨rfl, rfl⟩
set_option maxRecDepth 100000 in
set_option maxHeartbeats 400000 in
theorem token1_any (x : Nat) (hx : x < 256) (w : World) : Calls Tryd.prog 92 #[.int .u8 (x : Int)] w fun e w' => e = .returned (.bool (badTok x)) ∧ w = w' := by
  by_cases h1 : x ≤ 32
  · rw [show badTok x = true by simp [badTok, h1]]
    go_enter Tryd.func92, Tryd.ntmps92
    go_wp2_with fail
    go_ret
    exact ⟨rfl, rfl⟩
  · by_cases h2 : 126 < x
    · rw [show badTok x = true by simp [badTok, h2]]
      go_enter Tryd.func92, Tryd.ntmps92
      go_wp2_with fail
      go_ret
      exact ⟨rfl, rfl⟩
    · have e : badTok x = decide (0 ≤ idxB tspec x) := by simp [badTok, h1, h2]
      have d1 : decide ((x : Int) ≤ 32) = false := by simp; omega
      have d2 : decide ((126 : Int) < x) = false := by simp; omega
      rw [e]
      clear e
      go_enter Tryd.func92, Tryd.ntmps92
      go_wp2_with fail
      refine (IndexByte_tspec x _).mono ?_
      rintro e w1 ⟨rfl, rfl⟩
      go_wp2_with fail
      all_goals
        go_ret
        exact ⟨rfl, rfl⟩
theorem predTok (w : World) : PredB 92 #[] badTok w := fun W x hx _ =>
  (token1_any x hx W).mono fun e w' ⟨h1, h2⟩ => ⟨h1, h2 ▸ Below.refl _ _⟩
set_option maxRecDepth 100000 in
set_option maxHeartbeats 400000 in
theorem Token_any (l : List UInt8) (w : World) (hl : l.length ≤ maxLen) : Calls Tryd.prog 29 #[str l] w fun e w' => e = .returned (.bool (tokB l)) ∧ Below w.heap.size w w' := by
  unfold maxLen at hl
  by_cases h0 : l = []
  · subst h0
    rw [show tokB [] = false from rfl]
    go_enter Tryd.func29, Tryd.ntmps29
    go_wp2_with fail
    go_ret
    exact ⟨rfl, Below.refl _ _⟩
  · have h1 : (l == []) = false := by simpa using h0
    by_cases h30 : l.length ≤ 30
    · have e : tokB l = !l.any (fun b => badTok b.toNat) := by simp [tokB, h1, h30]
      rw [e]
      clear e h0
      obtain ⟨A, c, w1, hconv, hby, hnc, hb1, hlt1⟩ := run_toBytes (P := Tryd.prog) w 9 22 5 l Tryd.underlying9 Tryd.underlying22 Tryd.underlying5
      have hcf := ContainsFunc_bytes 92 #[] (enters_of Tryd.func92 (by kernel_rfl) rfl) badTok A l.length c _ l w1 hby (Nat.le_refl _) (by unfold maxLen; omega) (predTok w1)
      generalize l.any (fun b => badTok b.toNat) = r at hcf ⊢
      have Hcf := Lib.hid hcf
      clear hcf hby
      go_enter Tryd.func29, Tryd.ntmps29
      go_wp2_with fail
      refine Hcf.out.mono ?_
      rintro e w2 ⟨rfl, hb2⟩
      go_wp2_with fail
      go_ret
      exact ⟨rfl, hb1.trans (hb2.mono hb1.size)⟩
    · have e : tokB l = false := by simp [tokB, h30]
      rw [e]
      clear e h0
      go_enter Tryd.func29, Tryd.ntmps29
      go_wp2_with fail
      go_ret
      exact ⟨rfl, Below.refl _ _⟩
end Go.Proofs.YtdhmmepcnladcaaDoor
