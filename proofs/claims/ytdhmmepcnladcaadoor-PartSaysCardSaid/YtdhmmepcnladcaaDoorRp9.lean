import Derived.Test.YtdhmmepcnladcaaDoorSam
import Derived.Deep.RegionHeld
namespace Go.Proofs.YtdhmmepcnladcaaDoor
open Go.RowKit

theorem boxes2 (w : World) (v0 v1 v2 v3 v4 v5 v6 u0 u1 u2 u3 u4 u5 u6 : Value) :
    Box7 ((w.alloc (.cells #[v0, v1, v2, v3, v4, v5, v6] 25)).alloc (.cells #[u0, u1, u2, u3, u4, u5, u6] 25)) (w.heap.size + 1) u0 u1 u2 u3 u4 u5 u6 := by
  have := Box7.new (w.alloc (.cells #[v0, v1, v2, v3, v4, v5, v6] 25)) 25 u0 u1 u2 u3 u4 u5 u6
  rw [show (w.alloc (.cells #[v0, v1, v2, v3, v4, v5, v6] 25)).heap.size = w.heap.size + 1 by simp] at this
  exact this
def SamRel (f : PartD → PartD → Bool) (ps qs : List PartD) (n : Nat) (W : World) (iv : Value) (wr : World) : Prop :=
  ∃ i : Nat, iv = .int .i64 (i : Nat) ∧ i ≤ n ∧ Below W.heap.size W wr ∧ Hid (∀ (j : Nat) (p q : PartD), j < i → ps[j]? = some p → qs[j]? = some q → f p q = true)
set_option maxRecDepth 100000 in
set_option maxHeartbeats 2000000 in
theorem SamePart_any (k : Nat) : ∀ (p q : PartD) (v u : List Value) (w : World), (flatD p).length ≤ k → PartAt (· < w.heap.size) w p v → PartAt (· < w.heap.size) w q u →
    Calls Tryd.prog 17 #[.agg v.toArray, .agg u.toArray] w fun e w' => e = .returned (.bool (sameD p q)) ∧ Below w.heap.size w w' := by
  induction k with
  | zero => intro p q v u w h; rw [flatD_eq] at h; simp at h
  | succ k ih =>
    intro p q v u w hk hp hq
    have hs := sameD_eq p q
    have hfl : ∀ x ∈ p.parts, (flatD x).length ≤ k := by
      intro x hx
      obtain ⟨i, hi, rfl⟩ := List.getElem_of_mem hx
      have h1 := (flatsD_get p.parts i hi).1
      rw [flatD_eq] at hk
      simp at hk
      omega
    obtain ⟨A, c, A2, c2, rfl, hbd, hby, hbc, hcm, hP, hc2, hcm2⟩ := hp.open
    obtain ⟨A', c', A2', c2', rfl, hbd', hby', hbc', hcm', hP', hc2', hcm2'⟩ := hq.open
    obtain ⟨W, hW⟩ : ∃ W, W = (w.alloc (.cells #[str p.type, str p.cs, str p.id, str p.loc, .int .i64 p.how, .slice A p.body.length c, .slice A2 p.parts.length c2] 25)).alloc (.cells #[str q.type, str q.cs, str q.id, str q.loc, .int .i64 q.how, .slice A' q.body.length c', .slice A2' q.parts.length c2'] 25) := ⟨_, rfl⟩
    have hbW : Below w.heap.size w W := by rw [hW]; exact ((Below.refl _ w).alloc (Nat.le_refl _) _).alloc (by simp) _
    have hx : Box7 W w.heap.size (str p.type) (str p.cs) (str p.id) (str p.loc) (.int .i64 p.how) (.slice A p.body.length c) (.slice A2 p.parts.length c2) := by
      rw [hW]; exact (Box7.new w _ _ _ _ _ _ _ _).below ((Below.refl _ _).alloc (Nat.le_refl _) _)
    have hy : Box7 W (w.heap.size + 1) (str q.type) (str q.cs) (str q.id) (str q.loc) (.int .i64 q.how) (.slice A' q.body.length c') (.slice A2' q.parts.length c2') := by
      rw [hW]; exact boxes2 w _ _ _ _ _ _ _ _ _ _ _ _ _ _
    have cE := Equal_bytes A A' p.body.length c q.body.length c' w.heap.size w.heap.size p.body q.body W (Sl.below hby hbW) (Sl.below hby' hbW) (Nat.le_trans hbc hcm)
    have a1 := all2_len sameD p.parts q.parts
    have a2 := all2_miss sameD p.parts q.parts
    have a3 := all2_hit sameD p.parts q.parts
    rw [hs]
    unfold oneSame
    generalize all2 sameD p.parts q.parts = r7 at a1 a2 a3 ⊢
    obtain ⟨n, hn⟩ : ∃ n, n = p.parts.length := ⟨_, rfl⟩
    obtain ⟨n', hn'⟩ : ∃ n', n' = q.parts.length := ⟨_, rfl⟩
    rw [← hn, ← hn'] at a1
    rw [← hn] at hx hP hc2 hW ⊢
    rw [← hn'] at hy hP' hc2' hW ⊢
    have hnm : n ≤ 9223372036854775807 := by unfold maxLen at hcm2; omega
    generalize h6 : (p.body == q.body) = r6 at cE
    have CE := Lib.hid cE
    have A2H := Lib.hid a2
    have A3H := Lib.hid a3
    have Hih := Lib.hid ih
    have Hfl := Lib.hid hfl
    have HP := Lib.hid hP
    have HP' := Lib.hid hP'
    have Hn := Lib.hid hn
    have Hn' := Lib.hid hn'
    have H6 := Lib.hid h6
    have ⟨x0, x1, x2, x3, x4, x5, x6⟩ := hx
    have ⟨y0, y1, y2, y3, y4, y5, y6⟩ := hy
    clear ih hfl hk hs cE hp hq hP hP' hby hby' hbd hbd' a2 a3 hn hn' h6
    cases e1 : (p.type == q.type)
    case false =>
      clear CE A2H A3H Hih Hfl HP HP' hx hy H6
      go_enter Tryd.func17, Tryd.ntmps17
      go_wp2_with fail
      go_ret
      rw [← hW]
      exact ⟨by simp, hbW⟩
    case true =>
      cases e2 : (p.cs == q.cs)
      case false =>
        clear CE A2H A3H Hih Hfl HP HP' hx hy H6
        go_enter Tryd.func17, Tryd.ntmps17
        go_wp2_with fail
        go_ret
        rw [← hW]
        exact ⟨by simp, hbW⟩
      case true =>
        cases e3 : (p.id == q.id)
        case false =>
          clear CE A2H A3H Hih Hfl HP HP' hx hy H6
          go_enter Tryd.func17, Tryd.ntmps17
          go_wp2_with fail
          go_ret
          rw [← hW]
          exact ⟨by simp, hbW⟩
        case true =>
          cases e4 : (p.loc == q.loc)
          case false =>
            clear CE A2H A3H Hih Hfl HP HP' hx hy H6
            go_enter Tryd.func17, Tryd.ntmps17
            go_wp2_with fail
            go_ret
            rw [← hW]
            exact ⟨by simp, hbW⟩
          case true =>
            cases e5 : (p.how == q.how)
            case false =>
              have e5b : (p.how != q.how) = true := by rw [bne, e5]; rfl
              clear CE A2H A3H Hih Hfl HP HP' hx hy H6
              go_enter Tryd.func17, Tryd.ntmps17
              go_wp2_with fail
              go_ret
              rw [← hW]
              exact ⟨by simp, hbW⟩
            case true =>
              have e5b : (p.how != q.how) = false := by rw [bne, e5]; rfl
              cases r6
              case false =>
                clear A2H A3H Hih Hfl HP HP' hx hy H6
                go_enter Tryd.func17, Tryd.ntmps17
                go_wp2_with fail
                rw [← hW]
                clear hW
                refine CE.out.mono ?_
                rintro e w1 ⟨rfl, q1, rfl⟩
                go_wp2_with fail
                go_ret
                exact ⟨by simp, belN hbW q1⟩
              case true =>
                by_cases hnn : n = n'
                · subst hnn
                  have hne : ((n : Int) != n) = false := by simp
                  have h3 : Hid ((∀ (i : Nat) (p_1 q_1 : PartD), p.parts[i]? = some p_1 → q.parts[i]? = some q_1 → sameD p_1 q_1 = true) → r7 = true) := A3H.out (by rw [← Hn.out, ← Hn'.out])
                  clear A3H a1 H6
                  go_enter Tryd.func17, Tryd.ntmps17
                  go_wp2_with fail
                  rw [← hW]
                  refine CE.out.mono ?_
                  rintro e w1 ⟨rfl, q1, rfl⟩
                  have hb1 := belN (Below.refl W.heap.size W) q1
                  have hbel1 := belN hbW q1
                  generalize W.drewN q1 = W1 at hb1 hbel1 ⊢
                  have hx1 := hx.below hb1
                  have hy1 := hy.below hb1
                  clear x0 x1 x2 x3 x4 x5 x6 y0 y1 y2 y3 y4 y5 y6 hx hy hW CE hbW hb1
                  have ⟨x0, x1, x2, x3, x4, x5, x6⟩ := hx1
                  have ⟨y0, y1, y2, y3, y4, y5, y6⟩ := hy1
                  go_wp2_with fail
                  clear x0 x1 x2 x3 x4 x5 x6 y0 y1 y2 y3 y4 y5 y6
                  go_loopw [60] (SamRel sameD p.parts q.parts n W1) (fun iv _ => n - (intOf iv).toNat)
                  case atStart => exact ⟨0, rfl, Nat.zero_le _, Below.refl _ _, Lib.hid fun j p q h => absurd h (by omega)⟩
                  case round =>
                    obtain ⟨i, rfl, hi, hbel, hz⟩ := hrel
                    have hbw := hbel1.trans (hbel.mono hbel1.size)
                    by_cases hin : i < n
                    · have hPr := HP.out.below hbw
                      obtain ⟨b, off, k1, B1, m1, d1, B2, m2, d2, rfl, hbS, hk1, hk1a, z0, z1, z2, z3, z4, z5, z6⟩ := hPr.cells7 hin
                      have hbA := (Below.refl wr.heap.size wr).alloc (Nat.le_refl _) (.cells #[str k1.type, str k1.cs, str k1.id, str k1.loc, .int .i64 k1.how, .slice B1 m1 d1, .slice B2 m2 d2] 25)
                      have hbwA := hbw.trans (hbA.mono hbw.size)
                      have hQr := HP'.out.below hbwA
                      obtain ⟨b', off', k2, B3, m3, d3, B4, m4, d4, rfl, hbS', hk2, hk2a, y0, y1, y2, y3, y4, y5, y6⟩ := hQr.cells7 hin
                      have hk1 := drop_get hk1
                      have hk2 := drop_get hk2
                      have hbx := Box7.new wr 25 (str k1.type) (str k1.cs) (str k1.id) (str k1.loc) (.int .i64 k1.how) (.slice B1 m1 d1) (.slice B2 m2 d2)
                      have hyA := (hy1.below hbel).below hbA
                      obtain ⟨_, _, _, _, _, _, q6⟩ := hyA
                      have hcl := Hih.out k1 k2 _ _ (wr.alloc (.cells #[str k1.type, str k1.cs, str k1.id, str k1.loc, .int .i64 k1.how, .slice B1 m1 d1, .slice B2 m2 d2] 25)).drew (Hfl.out k1 (List.mem_of_getElem? hk1)) ((hk1a.belowN hbA.drew hbw.size).more (Nat.le_trans hbw.size hbA.size)) ((hk2a.below (Below.refl _ _).drew).more (Nat.le_trans hbw.size hbA.size))
                      have hmiss := A2H.out i k1 k2 hk1 hk2
                      have hi0 : (0 : Int) ≤ i := by omega
                      have hi1 : (i : Int) < n := by omega
                      generalize hss : sameD k1 k2 = ss at hcl hmiss
                      have Hcl := Lib.hid hcl
                      have Hk1 := Lib.hid hk1
                      have Hk2 := Lib.hid hk2
                      have Hss := Lib.hid hss
                      clear hcl hk1 hk2 hk1a hk2a hPr hQr hss
                      go_wp2_with fail
                      clear z0 z1 z2 z3 z4 z5 z6
                      have ⟨x0, x1, x2, x3, x4, x5, x6⟩ := hbx
                      have hbelA := (hbel.alloc hbel.size (.cells #[str k1.type, str k1.cs, str k1.id, str k1.loc, .int .i64 k1.how, .slice B1 m1 d1, .slice B2 m2 d2] 25)).drew
                      go_region_with (go_at_call 17; refine Hcl.out.mono ?_; rintro e w1 ⟨rfl, hb1⟩; have hbelA1 := hbelA.trans (hb1.mono hbelA.size))
                      all_goals
                        clear q6 x0 x1 x2 x3 x4 x5 x6 y0 y1 y2 y3 y4 y5 y6
                        cases ss
                        · have hr : Hid (r7 = false) := hmiss rfl
                          go_wp2_with fail
                          go_ret
                          exact ⟨by first | rfl | (rw [hr.out]; rfl) | (rw [hr.out]; simp), hbel1.trans (hbelA1.mono hbel1.size)⟩
                        · clear hmiss
                          go_wp2_with fail
                          refine ⟨⟨i + 1, by go_num, by omega, hbelA1, Lib.hid fun j a b hj ha hb => ?_⟩, by simp [intOf]; omega⟩
                          rcases Nat.lt_or_ge j i with h | h
                          · exact hz.out j a b h ha hb
                          · obtain rfl : j = i := by omega
                            rw [Hk1.out] at ha
                            rw [Hk2.out] at hb
                            injection ha with ha
                            injection hb with hb
                            rw [← ha, ← hb]; exact Hss.out
                    · obtain rfl : i = n := by omega
                      have hr : Hid (r7 = true) := h3.out fun j a b ha hb => hz.out j a b (by
                        rcases Nat.lt_or_ge j p.parts.length with h | h
                        · rw [← Hn.out] at h; exact h
                        · rw [List.getElem?_eq_none h] at ha; cases ha) ha hb
                      go_wp2_with fail
                      go_ret
                      exact ⟨by first | rfl | (rw [hr.out]; rfl) | (rw [hr.out]; simp), hbw⟩
                · have hr : Hid (r7 = false) := a1 hnn
                  have hne : ((n : Int) != n') = true := by simp; omega
                  clear A2H A3H Hih Hfl HP HP' hx hy H6 a1
                  go_enter Tryd.func17, Tryd.ntmps17
                  go_wp2_with fail
                  rw [← hW]
                  clear hW
                  refine CE.out.mono ?_
                  rintro e w1 ⟨rfl, q1, rfl⟩
                  go_wp2_with fail
                  go_ret
                  exact ⟨by first | rfl | (rw [hr.out]; rfl) | (rw [hr.out]; simp), belN hbW q1⟩
end Go.Proofs.YtdhmmepcnladcaaDoor
