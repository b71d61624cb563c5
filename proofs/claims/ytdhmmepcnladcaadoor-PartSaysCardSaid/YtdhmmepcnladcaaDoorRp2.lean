import Derived.Test.YtdhmmepcnladcaaDoorRp1
namespace Go.Proofs.YtdhmmepcnladcaaDoor
open Go.RowKit

theorem okP_tok (x : Nat) (hx : x < 256) : okP 33 126 tspec x = !badTok x := by
  unfold okP badTok idxB
  rw [show (x : Int).toNat.toUInt8 = UInt8.ofNat x from rfl]
  congr 3
  simp; omega
theorem all_not (l : List UInt8) (p q : Nat → Bool) (h : ∀ x, x < 256 → p x = !q x) : l.all (fun b => p b.toNat) = !l.any (fun b => q b.toNat) := by
  induction l with
  | nil => rfl
  | cons a l ih => rw [List.all_cons, List.any_cons, ih, h _ a.toNat_lt]; simp
set_option maxRecDepth 100000 in
set_option maxHeartbeats 1000000 in
theorem IsToken_any (l : List UInt8) (w : World) (hl : l.length ≤ maxLen) : Calls Tryd.prog 57 #[str l] w fun e w' => e = .returned (.bool (tokB l)) ∧ w' = w := by
  have hb := betweenP_any l 33 126 ⟨#[40, 41, 60, 62, 64, 44, 59, 58, 92, 34, 47, 91, 93, 63, 61]⟩ w hl (by omega) (by omega)
  rw [show (ByteArray.mk #[40, 41, 60, 62, 64, 44, 59, 58, 92, 34, 47, 91, 93, 63, 61]).data.toList = tspec from rfl, all_not l (okP 33 126 tspec) badTok okP_tok] at hb
  have ht : tokB l = (decide (1 ≤ l.length) && decide (l.length ≤ 30) && !l.any (fun b => badTok b.toNat)) := by
    unfold tokB
    cases l <;> simp
  rw [ht]
  generalize l.any (fun b => badTok b.toNat) = r at hb ⊢
  have Hb := Lib.hid hb
  unfold maxLen at hl
  clear hb ht
  go_enter Tryd.func57, Tryd.ntmps57
  go_wp2_with fail
  case' _ =>
    refine Hb.out.mono ?_
    rintro e w1 ⟨rfl, rfl⟩
    go_wp2_with fail
    go_ret
    have e1 : decide (1 ≤ l.length) = true := by simp; omega
    have e2 : decide (l.length ≤ 30) = true := by simp; omega
    exact ⟨by rw [e1, e2]; simp, rfl⟩
  case' _ =>
    go_ret
    have e2 : decide (l.length ≤ 30) = false := by simp; omega
    exact ⟨by rw [e2]; simp, rfl⟩
  go_ret
  have e1 : decide (1 ≤ l.length) = false := by rw [decide_eq_false_iff_not]; omega
  exact ⟨by rw [e1]; simp, rfl⟩
end Go.Proofs.YtdhmmepcnladcaaDoor
