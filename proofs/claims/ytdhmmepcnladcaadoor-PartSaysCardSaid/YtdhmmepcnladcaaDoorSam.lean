import Derived.Test.YtdhmmepcnladcaaDoorSame
import Derived.Test.YtdhmmepcnladcaaDoorBase
namespace Go.Proofs.YtdhmmepcnladcaaDoor
open Go.RowKit

set_option maxRecDepth 100000 in
set_option maxHeartbeats 1000000 in
theorem Same_any (k : Nat) : ∀ (p q : PartD) (v u : List Value) (w : World), (flatD p).length ≤ k → PartAt (· < w.heap.size) w p v → PartAt (· < w.heap.size) w q u →
    Calls Tryd.prog 16 #[.agg v.toArray, .agg u.toArray] w fun e w' => e = .returned (.bool (sameD p q)) ∧ Below w.heap.size w w' := by
  induction k with
  | zero => intro p q v u w h; rw [flatD_eq] at h; simp at h
  | succ k ih =>
    intro p q v u w hk hp hq
    have hs := sameD_eq p q
    have hfl : ∀ x ∈ p.parts, (flatD x).length ≤ k := by
      intro x hx
      obtain ⟨i, hi, rfl⟩ := List.getElem_of_mem hx
      have h1 := (flatsD_get p.parts i hi).1
      rw [flatD_eq] at hk
      simp at hk
      omega
    obtain ⟨A, c, A2, c2, rfl, hbd, hby, hbc, hcm, hP, hc2, hcm2⟩ := hp.open
    obtain ⟨A', c', A2', c2', rfl, hbd', hby', hbc', hcm', hP', hc2', hcm2'⟩ := hq.open
    have cE := fun (W : World) (hb : Below w.heap.size w W) => Equal_bytes A A' p.body.length c q.body.length c' w.heap.size w.heap.size p.body q.body W (Sl.below hby hb) (Sl.below hby' hb) (Nat.le_trans hbc hcm)
    have cF := fun (W : World) (hb : Below w.heap.size w W) => EqualFunc_parts 16 (enters_of Tryd.func16 (by kernel_rfl) rfl) sameD A2 A2' p.parts.length c2 q.parts.length c2' w.heap.size p.parts q.parts W (hP.below hb) (hP'.below hb) hb.size (Nat.le_trans hc2 hcm2)
      (fun W1 i x y vx vy hx hy hxa hya hb1 => ih x y vx vy W1 (hfl x (List.mem_of_getElem? hx)) hxa hya)
    rw [hs]
    unfold oneSame
    generalize all2 sameD p.parts q.parts = r7 at cF ⊢
    have CE := Lib.hid cE
    have CF := Lib.hid cF
    clear ih hfl hk hs cE cF hp hq hP hP' hby hby' hbd hbd'
    go_enter Tryd.func16, Tryd.ntmps16
    go_wp2_with fail
    case' _ =>
      refine (CE.out _ (((Below.refl _ w).alloc (Nat.le_refl _) _).alloc (by simp) _)).mono ?_
      generalize h6 : (p.body == q.body) = r6
      have H6 := Lib.hid h6
      clear h6
      rintro e w1 ⟨rfl, q1, rfl⟩
      cases r6
    all_goals try go_wp2_with fail
    case' _ =>
      go_ret
      exact ⟨by rw [H6.out]; simp, belN (((Below.refl _ w).alloc (Nat.le_refl _) _).alloc (by simp) _) q1⟩
    case' _ =>
      have hb := belN (((Below.refl _ w).alloc (Nat.le_refl _) (.cells #[str q.type, str q.cs, str q.id, str q.loc, .int .i64 q.how, .slice A p.body.length c, .slice A2 p.parts.length c2] 25)).alloc (by simp) (.cells #[str q.type, str q.cs, str q.id, str q.loc, .int .i64 q.how, .slice A' q.body.length c', .slice A2' q.parts.length c2'] 25)) q1
      refine (CF.out _ hb).mono ?_
      rintro e w2 ⟨rfl, hb2⟩
      go_wp2_with fail
      go_ret
      refine ⟨?_, hb.trans (hb2.mono hb.size)⟩
      rw [H6.out]
      simp [*]
    all_goals
      go_ret
      refine ⟨?_, (((Below.refl _ w).alloc (Nat.le_refl _) _).alloc (by simp) _)⟩
      simp [*]
end Go.Proofs.YtdhmmepcnladcaaDoor
