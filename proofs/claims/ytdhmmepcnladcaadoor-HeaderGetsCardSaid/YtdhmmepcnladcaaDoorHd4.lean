import Derived.Test.YtdhmmepcnladcaaDoorHd3
namespace Go.Proofs.YtdhmmepcnladcaaDoor
open Go.RowKit

set_option maxRecDepth 100000 in
set_option maxHeartbeats 4000000 in
theorem Parse_fields (b : List UInt8) (A : Option Addr) (n c : Nat) (w : World) (hb : By w w.heap.size A n b) (hn : n ≤ c) (hm : n ≤ maxLen) :
    Calls Tryd.prog 37 #[.slice A n c] w (ParseRes (parseF b) w) := by
  obtain ⟨i0, hi0, hz0, hz1, hz2⟩ := info_parts infoField
  have hl := hb.len
  by_cases h4 : 40000 < n
  · rw [show parseF b = ([], 0, 2) from parse_many (by omega)]
    have d : decide ((40000 : Int) < n) = true := by simp; omega
    unfold maxLen at hm
    clear hb hl
    go_enter Tryd.func37, Tryd.ntmps37
    go_wp2_with fail
    go_ret3
    exact ParseRes.fail 2 (Below.refl _ _)
  · have d : decide ((40000 : Int) < n) = false := by simp; omega
    rw [parseF_fin (by omega), hl]
    obtain ⟨R, hR⟩ : ∃ R, linesF (n + 1) b [] = R := ⟨_, rfl⟩
    rw [hR]
    have hts := run_toStr (P := Tryd.prog) w 22 9 5 _ A n c b hb Tryd.underlying22 Tryd.underlying5 Tryd.underlying9
    have HR := Lib.hid hR
    have Hl := Lib.hid hl
    obtain ⟨r, hr⟩ : ∃ r, r = finF n R := ⟨_, rfl⟩
    rw [← hr]
    have Hr := Lib.hid hr
    have hn4 : n ≤ 40000 := by omega
    clear hR hl hb hr hm
    go_enter Tryd.func37, Tryd.ntmps37
    go_wp2_with fail
    go_loopw [2, 6] (PLRel n R w) (fun _ sv _ => strLn sv)
    case atStart => exact ⟨n + 1, b, [], none, 0, 0, rfl, rfl, ⟨HR.out, by rw [Hl.out]; omega, rfl, by simp [wtF, Hl.out]⟩, by rw [Hl.out]; exact Nat.le_refl _, Nat.zero_le _, Nat.le_refl _, World.ownsRow_nil _ _ _ _, Below.refl _ _⟩
    case round =>
      clear HR
      obtain ⟨k, s, out, S, m, cS, rfl, rfl, hE, hsn, hm20, hmc, hown, hbel⟩ := hrel
      obtain ⟨k, rfl⟩ : ∃ k', k = k' + 1 := ⟨k - 1, by have := hE.out.2.1; omega⟩
      have hcut := Cut_one s 10 wr (by unfold maxLen; omega)
      have hsum := @cut_sum s 10
      have l1 := @lines_no k s out
      have l2 := @lines_end k s out
      have l3 := @lines_bad k s out
      have l4 := fun m' => @lines_go k s out m'
      generalize Lib.cut s [10] = x at hcut hsum l1 l2 l3 l4
      obtain ⟨line0, rest, whole⟩ := x
      simp only at hcut hsum l1 l2 l3 l4
      have Hcut := Lib.hid hcut
      cases whole
      case false =>
        have hr1 : Hid (r = ([], 0, 1)) := by show r = _; rw [Hr.out, ← hE.out.1, l1 rfl]; rfl
        clear hcut hsum l1 l2 l3 l4 hE hown
        go_wp2_with fail
        refine Hcut.out.mono ?_
        rintro e w1 ⟨rfl, q, rfl⟩
        go_wp2_with fail
        refine (pfail_any 1 _).mono ?_
        rintro e w2 ⟨rfl, rfl⟩
        go_wp2_with fail
        go_ret3
        rw [hr1.out]
        exact ParseRes.fail 1 (belN hbel q)
      case true =>
        have hsl := hsum rfl
        have hcl := chop_len line0
        have hTs := fun W => TrimSuffix13 line0 W (by unfold maxLen; omega)
        generalize hline : chopF line0 = line at hTs hcl l2 l3 l4
        have HTs := Lib.hid hTs
        have hline4 : line.length ≤ 40000 := by omega
        have hrest : rest.length ≤ n ∧ rest.length < s.length := by omega
        obtain ⟨hrest1, hrest2⟩ := hrest
        by_cases hl0 : line = []
        · -- the empty line
          have hRv : R = if chkF out = 0 then (out, rest, 0) else ([], [], chkF out) := by rw [← hE.out.1]; exact l2 rfl hl0
          have hol := hE.out.2.2.1
          have hwt := hE.out.2.2.2
          have hsm : smallF out := wtF_small (N := 40000) (by omega) (by unfold maxLen; omega)
          have d0 : (line == []) = true := by simpa using hl0
          have hck := fun W (hW : Below wr.heap.size wr W) => FCheck_any out S m cS wr.heap.size W ((Sl.of_own hown).below hW) hW.size hsm (by unfold maxLen; omega)
          have hslw := Sl.of_own hown
          have hcm := own_capF hown
          have hrS : r = if chkF out = 0 then (out, n - rest.length, 0) else ([], 0, chkF out) := by
            rw [Hr.out, hRv]
            unfold finF
            by_cases h0 : chkF out = 0
            · rw [if_pos h0, if_pos h0, if_pos rfl]
            · rw [if_neg h0, if_neg h0, if_neg (by simpa using h0)]
          generalize chkF out = e0 at hck hrS
          have Hck := Lib.hid hck
          have Hslw := Lib.hid hslw
          have Hsm := Lib.hid hsm
          have Hol := Lib.hid hol
          have hnr : ((n : Int) - (rest.length : Int)) = ((n - rest.length : Nat) : Int) := by omega
          clear hcut hsum l1 l2 l3 l4 hE hown hRv hck hslw hsm hol hwt hTs hline hl0
          by_cases he0 : e0 = 0
          · subst he0
            have hr1 : Hid (r = (out, n - rest.length, 0)) := by show r = _; rw [hrS, if_pos rfl]
            clear hrS
            go_wp2_with fail
            refine Hcut.out.mono ?_
            rintro e w1 ⟨rfl, q, rfl⟩
            have hb1 := belN (Below.refl wr.heap.size wr) q
            have hbel1 := belN hbel q
            go_wp2_with fail
            refine (HTs.out _).mono ?_
            rintro e w2 ⟨rfl, rfl⟩
            go_wp2_with fail
            refine (Hck.out _ hb1).mono ?_
            rintro e w3 ⟨rfl, hb3⟩
            go_wp2_with fail
            go_ret3
            rw [hr1.out]
            have hbw := hb1.trans (hb3.mono hb1.size)
            exact ⟨S, cS, by rw [← Hol.out]; rfl, by rw [show (out, n - rest.length, 0).1.length = m from Hol.out]; exact (Hslw.out.below hbw).more hbw.size, Hsm.out, by show out.length ≤ cS; rw [Hol.out]; exact hmc, hcm, hbel1.trans (hb3.mono hbel1.size)⟩
          · have hr1 : Hid (r = ([], 0, e0)) := by show r = _; rw [hrS, if_neg he0]
            have de : ((e0 : Int) != 0) = true := by simp; omega
            clear hrS he0
            go_wp2_with fail
            refine Hcut.out.mono ?_
            rintro e w1 ⟨rfl, q, rfl⟩
            have hb1 := belN (Below.refl wr.heap.size wr) q
            have hbel1 := belN hbel q
            go_wp2_with fail
            refine (HTs.out _).mono ?_
            rintro e w2 ⟨rfl, rfl⟩
            go_wp2_with fail
            refine (Hck.out _ hb1).mono ?_
            rintro e w3 ⟨rfl, hb3⟩
            go_wp2_with fail
            refine (pfail_any e0 _).mono ?_
            rintro e w2 ⟨rfl, rfl⟩
            go_wp2_with fail
            go_ret3
            rw [hr1.out]
            exact ParseRes.fail e0 (hbel1.trans (hb3.mono hbel1.size))
        · have d0 : (line == []) = false := by simpa using hl0
          have hll : 0 < line.length := List.length_pos_iff.2 hl0
          have hi0' : (0 : Int) ≤ 0 := by omega
          have hi1' : (0 : Int) < line.length := by omega
          have l3 := l3 rfl hl0
          have l4 := fun m' => l4 m' rfl hl0
          clear hsum l1 l2 hcut
          by_cases h32 : nth line 0 = 32
          · have t1 : ((nth line 0 : Int) == 32) = true := by simp [h32]
            have hbl : blankF (nth line 0) = true := blank_32 h32
            by_cases hm0 : m = 0
            · have hout : out = [] := List.eq_nil_of_length_eq_zero (by rw [hE.out.2.2.1]; exact hm0)
              have hr1 : Hid (r = ([], 0, 1)) := by show r = _; rw [Hr.out, ← hE.out.1, l3 (goF_blank0 hbl hout)]; rfl
              subst hm0
              clear l3 l4 hE hown hbl
              go_wp2_with fail
              refine Hcut.out.mono ?_
              rintro e w1 ⟨rfl, q, rfl⟩
              go_wp2_with fail
              refine (HTs.out _).mono ?_
              rintro e w2 ⟨rfl, rfl⟩
              go_wp2_with fail
              refine (pfail_any 1 _).mono ?_
              rintro e w3 ⟨rfl, rfl⟩
              go_wp2_with fail
              go_ret3
              rw [hr1.out]
              exact ParseRes.fail 1 (belN hbel q)
            · have hout : out ≠ [] := fun e => hm0 (by rw [← hE.out.2.2.1, e]; rfl)
              obtain ⟨init, f, rfl⟩ : ∃ init f, out = init ++ [f] := ⟨out.dropLast, out.getLast hout, (List.dropLast_concat_getLast hout).symm⟩
              have hmi : m = init.length + 1 := by rw [← hE.out.2.2.1]; simp
              have hgo := l4 _ (goF_blank hbl hout)
              have hwt := more_wt init f line
              have hms := more_snoc init f line
              obtain ⟨g, cap, hv, hgb, hgl⟩ := hown.form (by omega)
              injection hv with hS2 _ hcap
              subst hS2
              subst hcap
              have hj : m - 1 = init.length := by omega
              have q1 : wr.cell? ⟨g, (m - 1) * 2 + 1, none⟩ = some (str f.value) := by
                rw [hown.cellAt _ (by omega), fieldC_app, List.getElem?_append_right (by rw [fieldC_len]; omega), fieldC_len, hj, show init.length * 2 + 1 - init.length * 2 = 1 from by omega]
                rfl
              have f1 : wr.frozen? ⟨g, (m - 1) * 2 + 1, none⟩ = false := hown.frozenAt _
              have htl := trim_len line [32, 9]
              have hT1 := fun W => Trim_any line [32, 9] W (by unfold maxLen; omega) (by decide) (by decide)
              have hfv : f.value.length ≤ 40000 := by
                have h1 := hE.out.2.2.2
                have h2 := @wtF_mem (init ++ [f]) f (by simp)
                omega
              generalize hT1d : Lib.trimS line [32, 9] = t1 at hT1 htl hms
              have hT2 := fun W => Trim_any (f.value ++ 32 :: t1) [32] W (by unfold maxLen; simp only [List.length_append, List.length_cons]; omega) (by decide) (by decide)
              generalize hT2d : Lib.trimS (f.value ++ 32 :: t1) [32] = t2 at hT2 hms
              have HT1 := Lib.hid hT1
              have HT2 := Lib.hid hT2
              have hownS := fun (u : Value) => (hown.stored ((m - 1) * 2 + 1) u).1
              have hput : (fieldC (init ++ [f])).set ((m - 1) * 2 + 1) (str t2) = fieldC (moreF (init ++ [f]) line) := by rw [hj, fieldC_put, hms]
              have hml : (moreF (init ++ [f]) line).length = m := by rw [hms, hmi]; simp
              have hR2 : Hid (R = if 20 < m then ([], [], 2) else linesF k rest (moreF (init ++ [f]) line)) := by show R = _; rw [← hE.out.1, hgo, hml]
              have hwt2 : Hid (wtF (moreF (init ++ [f]) line) + rest.length ≤ n) := by
                show _ ≤ _
                have := hE.out.2.2.2
                omega
              have hk2 : Hid (rest.length < k) := by show _ < _; have := hE.out.2.1; omega
              generalize moreF (init ++ [f]) line = out2 at hput hml hR2 hwt2
              have Hown := Lib.hid hown
              have Hput := Lib.hid hput
              have Hml := Lib.hid hml
              have Hmi := Lib.hid hmi
              have hm1 : 0 < m := by omega
              clear l3 l4 hE hown hbl hgo hwt hms hT1 hT2 hput hml hT1d hT2d hownS hm0 hmi hj
              go_wp2_with fail
              refine Hcut.out.mono ?_
              rintro e w1 ⟨rfl, q, rfl⟩
              go_wp2_with fail
              refine (HTs.out _).mono ?_
              rintro e w2 ⟨rfl, rfl⟩
              have q1d : (wr.drewN q).cell? ⟨g, (m - 1) * 2 + 1, none⟩ = some (str f.value) := q1
              have f1d : (wr.drewN q).frozen? ⟨g, (m - 1) * 2 + 1, none⟩ = false := f1
              have hb1 := belN (Below.refl wr.heap.size wr) (q + 1)
              have hszd : g < (wr.drewN q).drew.heap.size := hgl
              go_wp2_with fail
              go_region_with (first
                | (go_at_call 94; (with_reducible refine (HT1.out _).mono ?_); rintro e w4 ⟨rfl, hb4⟩; have q4 := (hb4.cell (p := ⟨g, (m - 1) * 2 + 1, none⟩) hszd).trans q1d; have f4 := (hb4.frozen (p := ⟨g, (m - 1) * 2 + 1, none⟩) hszd).trans f1d; have hsz4 := Nat.lt_of_lt_of_le hszd hb4.size)
                | (go_at_call 94; (with_reducible refine (HT2.out _).mono ?_); rintro e w5 ⟨rfl, hb5⟩; have q5 := (hb5.cell (p := ⟨g, (m - 1) * 2 + 1, none⟩) hsz4).trans q4; have f5 := (hb5.frozen (p := ⟨g, (m - 1) * 2 + 1, none⟩) hsz4).trans f4))
              all_goals
                have hbw := hb1.trans ((hb4.trans (hb5.mono hb4.size)).mono (show wr.heap.size ≤ (wr.drewN q).drew.heap.size from Nat.le_refl _))
                have hown5 := (own_below Hown.out hbw).stored ((m - 1) * 2 + 1) (str t2) |>.1
                rw [Hput.out] at hown5
                have hbel5 := (hbel.trans (hbw.mono hbel.size)).setCell (p := ⟨g, (m - 1) * 2 + 1, none⟩) hgb (str t2)
                have d20 : decide ((20 : Int) < (m : Int)) = false := by simp; omega
                have hR3 : Hid (linesF k rest out2 = R) := by show _ = R; rw [hR2.out, if_neg (by omega)]
                have Hown5 := Lib.hid hown5
                clear hown5 q1 f1 q1d f1d q4 f4 q5 f5 hb1 hb4 hb5 hbw
                go_wp2_with fail
                exact ⟨⟨k, rest, out2, some ⟨g, 0, none⟩, m, cS, rfl, rfl, ⟨hR3.out, hk2.out, Hml.out, hwt2.out⟩, hrest1, hm20, hmc, Hown5.out, hbel5⟩, by rw [strLn_str, strLn_str]; exact hrest2⟩
          · have t1 : ((nth line 0 : Int) == 32) = false := by simp; omega
            by_cases h9 : nth line 0 = 9
            · have t2 : ((nth line 0 : Int) == 9) = true := by simp [h9]
              have hbl : blankF (nth line 0) = true := blank_9 h9
              by_cases hm0 : m = 0
              · have hout : out = [] := List.eq_nil_of_length_eq_zero (by rw [hE.out.2.2.1]; exact hm0)
                have hr1 : Hid (r = ([], 0, 1)) := by show r = _; rw [Hr.out, ← hE.out.1, l3 (goF_blank0 hbl hout)]; rfl
                subst hm0
                clear l3 l4 hE hown hbl
                go_wp2_with fail
                refine Hcut.out.mono ?_
                rintro e w1 ⟨rfl, q, rfl⟩
                go_wp2_with fail
                refine (HTs.out _).mono ?_
                rintro e w2 ⟨rfl, rfl⟩
                go_wp2_with fail
                refine (pfail_any 1 _).mono ?_
                rintro e w3 ⟨rfl, rfl⟩
                go_wp2_with fail
                go_ret3
                rw [hr1.out]
                exact ParseRes.fail 1 (belN hbel q)
              · have hout : out ≠ [] := fun e => hm0 (by rw [← hE.out.2.2.1, e]; rfl)
                obtain ⟨init, f, rfl⟩ : ∃ init f, out = init ++ [f] := ⟨out.dropLast, out.getLast hout, (List.dropLast_concat_getLast hout).symm⟩
                have hmi : m = init.length + 1 := by rw [← hE.out.2.2.1]; simp
                have hgo := l4 _ (goF_blank hbl hout)
                have hwt := more_wt init f line
                have hms := more_snoc init f line
                obtain ⟨g, cap, hv, hgb, hgl⟩ := hown.form (by omega)
                injection hv with hS2 _ hcap
                subst hS2
                subst hcap
                have hj : m - 1 = init.length := by omega
                have q1 : wr.cell? ⟨g, (m - 1) * 2 + 1, none⟩ = some (str f.value) := by
                  rw [hown.cellAt _ (by omega), fieldC_app, List.getElem?_append_right (by rw [fieldC_len]; omega), fieldC_len, hj, show init.length * 2 + 1 - init.length * 2 = 1 from by omega]
                  rfl
                have f1 : wr.frozen? ⟨g, (m - 1) * 2 + 1, none⟩ = false := hown.frozenAt _
                have htl := trim_len line [32, 9]
                have hT1 := fun W => Trim_any line [32, 9] W (by unfold maxLen; omega) (by decide) (by decide)
                have hfv : f.value.length ≤ 40000 := by
                  have h1 := hE.out.2.2.2
                  have h2 := @wtF_mem (init ++ [f]) f (by simp)
                  omega
                generalize hT1d : Lib.trimS line [32, 9] = t1 at hT1 htl hms
                have hT2 := fun W => Trim_any (f.value ++ 32 :: t1) [32] W (by unfold maxLen; simp only [List.length_append, List.length_cons]; omega) (by decide) (by decide)
                generalize hT2d : Lib.trimS (f.value ++ 32 :: t1) [32] = t2 at hT2 hms
                have HT1 := Lib.hid hT1
                have HT2 := Lib.hid hT2
                have hownS := fun (u : Value) => (hown.stored ((m - 1) * 2 + 1) u).1
                have hput : (fieldC (init ++ [f])).set ((m - 1) * 2 + 1) (str t2) = fieldC (moreF (init ++ [f]) line) := by rw [hj, fieldC_put, hms]
                have hml : (moreF (init ++ [f]) line).length = m := by rw [hms, hmi]; simp
                have hR2 : Hid (R = if 20 < m then ([], [], 2) else linesF k rest (moreF (init ++ [f]) line)) := by show R = _; rw [← hE.out.1, hgo, hml]
                have hwt2 : Hid (wtF (moreF (init ++ [f]) line) + rest.length ≤ n) := by
                  show _ ≤ _
                  have := hE.out.2.2.2
                  omega
                have hk2 : Hid (rest.length < k) := by show _ < _; have := hE.out.2.1; omega
                generalize moreF (init ++ [f]) line = out2 at hput hml hR2 hwt2
                have Hown := Lib.hid hown
                have Hput := Lib.hid hput
                have Hml := Lib.hid hml
                have Hmi := Lib.hid hmi
                have hm1 : 0 < m := by omega
                clear l3 l4 hE hown hbl hgo hwt hms hT1 hT2 hput hml hT1d hT2d hownS hm0 hmi hj
                go_wp2_with fail
                refine Hcut.out.mono ?_
                rintro e w1 ⟨rfl, q, rfl⟩
                go_wp2_with fail
                refine (HTs.out _).mono ?_
                rintro e w2 ⟨rfl, rfl⟩
                have q1d : (wr.drewN q).cell? ⟨g, (m - 1) * 2 + 1, none⟩ = some (str f.value) := q1
                have f1d : (wr.drewN q).frozen? ⟨g, (m - 1) * 2 + 1, none⟩ = false := f1
                have hb1 := belN (Below.refl wr.heap.size wr) (q + 1)
                have hszd : g < (wr.drewN q).drew.heap.size := hgl
                go_wp2_with fail
                go_region_with (first
                  | (go_at_call 94; (with_reducible refine (HT1.out _).mono ?_); rintro e w4 ⟨rfl, hb4⟩; have q4 := (hb4.cell (p := ⟨g, (m - 1) * 2 + 1, none⟩) hszd).trans q1d; have f4 := (hb4.frozen (p := ⟨g, (m - 1) * 2 + 1, none⟩) hszd).trans f1d; have hsz4 := Nat.lt_of_lt_of_le hszd hb4.size)
                  | (go_at_call 94; (with_reducible refine (HT2.out _).mono ?_); rintro e w5 ⟨rfl, hb5⟩; have q5 := (hb5.cell (p := ⟨g, (m - 1) * 2 + 1, none⟩) hsz4).trans q4; have f5 := (hb5.frozen (p := ⟨g, (m - 1) * 2 + 1, none⟩) hsz4).trans f4))
                all_goals
                  have hbw := hb1.trans ((hb4.trans (hb5.mono hb4.size)).mono (show wr.heap.size ≤ (wr.drewN q).drew.heap.size from Nat.le_refl _))
                  have hown5 := (own_below Hown.out hbw).stored ((m - 1) * 2 + 1) (str t2) |>.1
                  rw [Hput.out] at hown5
                  have hbel5 := (hbel.trans (hbw.mono hbel.size)).setCell (p := ⟨g, (m - 1) * 2 + 1, none⟩) hgb (str t2)
                  have d20 : decide ((20 : Int) < (m : Int)) = false := by simp; omega
                  have hR3 : Hid (linesF k rest out2 = R) := by show _ = R; rw [hR2.out, if_neg (by omega)]
                  have Hown5 := Lib.hid hown5
                  clear hown5 q1 f1 q1d f1d q4 f4 q5 f5 hb1 hb4 hb5 hbw
                  go_wp2_with fail
                  exact ⟨⟨k, rest, out2, some ⟨g, 0, none⟩, m, cS, rfl, rfl, ⟨hR3.out, hk2.out, Hml.out, hwt2.out⟩, hrest1, hm20, hmc, Hown5.out, hbel5⟩, by rw [strLn_str, strLn_str]; exact hrest2⟩
            · have t2 : ((nth line 0 : Int) == 9) = false := by simp; omega
              have hbl : blankF (nth line 0) = false := blank_no h32 h9
              have hcut2 := fun W => Cut_one line 58 W (by unfold maxLen; omega)
              have hc1 := @goF_none out line hbl
              have hc2 := @goF_new out line hbl
              have hc3 := new_wt out line
              have hcs := @cut_sum line 58
              generalize Lib.cut line [58] = y at hcut2 hc1 hc2 hc3 hcs
              obtain ⟨name, value, ok⟩ := y
              simp only at hcut2 hc1 hc2 hc3 hcs
              have Hcut2 := Lib.hid hcut2
              cases ok
              case false =>
                have hr1 : Hid (r = ([], 0, 1)) := by show r = _; rw [Hr.out, ← hE.out.1, l3 (hc1 rfl)]; rfl
                clear l3 l4 hE hown hbl hcut2 hc1 hc2 hc3 hcs
                go_wp2_with fail
                refine Hcut.out.mono ?_
                rintro e w1 ⟨rfl, q, rfl⟩
                go_wp2_with fail
                refine (HTs.out _).mono ?_
                rintro e w2 ⟨rfl, rfl⟩
                go_wp2_with fail
                refine (Hcut2.out _).mono ?_
                rintro e w3 ⟨rfl, q3, rfl⟩
                go_wp2_with fail
                refine (pfail_any 1 _).mono ?_
                rintro e w4 ⟨rfl, rfl⟩
                go_wp2_with fail
                go_ret3
                rw [hr1.out]
                exact ParseRes.fail 1 (belN hbel (q + q3))
              case true =>
                have hgo := l4 _ (hc2 rfl)
                have hwt := hc3 rfl
                have hls := hcs rfl
                have hT1 := fun W => Trim_any value [32, 9] W (by unfold maxLen; omega) (by decide) (by decide)
                have hR2 : Hid (R = if 20 < m + 1 then ([], [], 2) else linesF k rest (out ++ [⟨name, Lib.trimS value [32, 9]⟩])) := by
                  show R = _
                  rw [← hE.out.1, hgo]
                  simp only [List.length_append, List.length_cons, List.length_nil, hE.out.2.2.1, Nat.zero_add]
                have hwt2 : Hid (wtF (out ++ [⟨name, Lib.trimS value [32, 9]⟩]) + rest.length ≤ n) := by
                  show _ ≤ _
                  have := hE.out.2.2.2
                  omega
                generalize Lib.trimS value [32, 9] = t at hT1 hR2 hwt2
                have hml : Hid ((out ++ [FieldD.mk name t]).length = m + 1) := by show _ = _; simp [hE.out.2.2.1]
                have hk2 : Hid (rest.length < k) := by show _ < _; have := hE.out.2.1; omega
                have HT1 := Lib.hid hT1
                have Hown := Lib.hid hown
                have h63 : m + 1 ≤ maxLen := by unfold maxLen; omega
                have h47 : (m + 1) * 32 ≤ 140737488355328 := by omega
                have hone : ∀ u ∈ [str name, str t], u.oneCell' = true := by intro u hu; simp at hu; rcases hu with rfl | rfl <;> rfl
                have Hone := Lib.hid hone
                clear l3 l4 hE hown hbl hcut2 hc1 hc2 hc3 hcs hgo hwt hT1 hone
                go_wp2_with fail
                refine Hcut.out.mono ?_
                rintro e w1 ⟨rfl, q, rfl⟩
                go_wp2_with fail
                refine (HTs.out _).mono ?_
                rintro e w2 ⟨rfl, rfl⟩
                go_wp2_with fail
                refine (Hcut2.out _).mono ?_
                rintro e w3 ⟨rfl, q3, rfl⟩
                have hb1 := belN (Below.refl wr.heap.size wr) (q + q3)
                go_wp2_with fail
                refine (HT1.out _).mono ?_
                rintro e w4 ⟨rfl, hb4⟩
                have hbw := hb1.trans (hb4.mono hb1.size)
                have hbel4 := hbel.trans (hbw.mono hbel.size)
                have hown4 := own_below Hown.out hbw
                have hsz4 := hbel4.size
                clear hb1 hb4 hbw
                go_wp2_with (at_builtin; refine wpList_app rfl _ _ 42 rfl w.heap.size 46 i0 (.agg #[.string ⟨#[]⟩, .string ⟨#[]⟩]) 2 32 Tryd.underlying42 hi0 hz0 hz1 hz2 rfl (by decide) S m cS (fieldC out) rfl (hown4.alloc _) _ _ 1 1 [str name, str t] rfl (Sl.row _ _ 2 1 _ rfl) Hone.out h63 h47 ?c2 ?_)
                case c2 => simp; omega
                intro S' c' w5 hown5 hb5 _
                have hc' := own_cap hown5
                have hbel5 := (hbel4.alloc hsz4 (.cells #[str name, str t] 46)).trans hb5
                rw [show fieldC out ++ [str name, str t] = fieldC (out ++ [⟨name, t⟩]) from by rw [fieldC_app]; rfl] at hown5
                have Hown5 := Lib.hid hown5
                clear hown4 hown5 hb5
                by_cases h20 : 20 < m + 1
                · have d20 : decide ((20 : Int) < (m : Int) + 1) = true := by simp; omega
                  have hr1 : Hid (r = ([], 0, 2)) := by show r = _; rw [Hr.out, hR2.out, if_pos h20]; rfl
                  go_wp2_with fail
                  refine (pfail_any 2 _).mono ?_
                  rintro e w6 ⟨rfl, rfl⟩
                  go_wp2_with fail
                  go_ret3
                  rw [hr1.out]
                  exact ParseRes.fail 2 hbel5
                · have d20 : decide ((20 : Int) < (m : Int) + 1) = false := by simp; omega
                  have hR3 : Hid (linesF k rest (out ++ [⟨name, t⟩]) = R) := by show _ = R; rw [hR2.out, if_neg h20]
                  go_wp2_with fail
                  exact ⟨⟨k, rest, _, S', m + 1, c', rfl, rfl, ⟨hR3.out, hk2.out, hml.out, hwt2.out⟩, hrest1, by omega, hc', Hown5.out, hbel5⟩, by rw [strLn_str, strLn_str]; exact hrest2⟩
end Go.Proofs.YtdhmmepcnladcaaDoor
