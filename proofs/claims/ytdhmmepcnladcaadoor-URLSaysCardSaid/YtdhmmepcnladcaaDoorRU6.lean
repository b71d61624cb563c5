import Derived.Test.YtdhmmepcnladcaaDoorUrl7
import Derived.Test.YtdhmmepcnladcaaDoorRU3
namespace Go.Proofs.YtdhmmepcnladcaaDoor
open Go.RowKit

/-! ### The document's path without dots -/
def undStep (last : Bool) (out : List (List UInt8)) (s : List UInt8) : List (List UInt8) :=
  if s = [46] then (if last then out ++ [[]] else out)
  else if s = [46, 46] then (if last then out.dropLast ++ [[]] else out.dropLast)
  else out ++ [s]
def undF : List (List UInt8) → List (List UInt8) → List (List UInt8)
  | [], out => out
  | s :: r, out => undF r (undStep r.isEmpty out s)
theorem und_step (last : Bool) (out : List (List UInt8)) (s : List UInt8) : dotStep last ([] :: out) s = [] :: undStep last out s := by
  unfold dotStep undStep
  have hp : popU ([] :: out) = [] :: out.dropLast := by
    unfold popU
    cases out with
    | nil => simp
    | cons a r => simp
  rw [hp]
  split
  · cases last <;> rfl
  · split
    · cases last <;> rfl
    · rfl
theorem und_dots : ∀ (L out : List (List UInt8)), dotsF L ([] :: out) = [] :: undF L out
  | [], _ => rfl
  | s :: r, out => by
    unfold dotsF undF
    rw [und_step, und_dots r]
/-- The two agree on what has a path from the root. -/
theorem dots_und (p : List UInt8) (hp : Lib.hasPrefix p [47] = true) : dotsU p = 47 :: joinC 47 (undF (splitC 47 p).tail []) := by
  obtain ⟨h0, h1⟩ := prefix_one.1 hp
  cases p with
  | nil => exact absurd rfl h0
  | cons a t =>
    have ha : a = 47 := UInt8.toNat_inj.1 h1
    subst ha
    have hs : splitC 47 (47 :: t) = [] :: splitC 47 t := by rw [splitC, if_pos rfl]
    unfold dotsU
    rw [if_neg (by simp), hs, List.tail_cons]
    have h2 : dotsF ([] :: splitC 47 t) [] = [] :: undF (splitC 47 t) [] := by
      rw [dotsF, ← und_dots]
      rfl
    rw [h2]
    unfold slashU
    rw [hp]
    cases undF (splitC 47 t) [] with
    | nil => rfl
    | cons x r => rw [joinC_cons]; rfl
theorem und_wt : ∀ (L out : List (List UInt8)), wtU (undF L out) ≤ wtU L + wtU out
  | [], out => by simp [undF]
  | s :: r, out => by
    have ih := und_wt r (undStep r.isEmpty out s)
    have hd : wtU out.dropLast ≤ wtU out := by
      rcases List.eq_nil_or_concat out with h | ⟨x, y, h⟩
      · rw [h]; simp
      · rw [h, List.concat_eq_append, List.dropLast_concat, wtU_app]; omega
    have hs : wtU (undStep r.isEmpty out s) ≤ wtU out + (s.length + 1) := by
      have h1 : wtU [[]] = 1 := rfl
      unfold undStep
      split
      · split
        · rw [wtU_app]; omega
        · omega
      · split
        · split
          · rw [wtU_app]; omega
          · omega
        · rw [wtU_app]; simp [wtU]
    unfold undF
    have h3 : wtU (s :: r) = (s.length + 1) + wtU r := by simp [wtU]
    omega
attribute [local go_sem high] upto_str
def UndRel (w1 : World) (R : List (List UInt8)) (L : List (List UInt8)) (s4 iv : Value) (wr : World) : Prop :=
  ∃ (i : Nat) (out : List (List UInt8)) (S : Option Addr) (c : Nat), iv = .int .i64 i ∧ i ≤ L.length ∧ s4 = .slice S out.length c ∧ out.length ≤ i ∧ wr.ownsRow w1.heap.size 9 1 (.slice S out.length c) out.length (out.map str) ∧ Below w1.heap.size w1 wr ∧ Hid (undF (L.drop i) out = R)
set_option maxRecDepth 100000 in
set_option maxHeartbeats 4000000 in
theorem undotted_any (p : List UInt8) (w : World) (hM : MaxLenOk w) (hp : p.length ≤ 1000) (h : p = [] ∨ Lib.hasPrefix p [47] = true) : Calls Tryd.prog 118 #[str p] w fun e w' => e = .returned (str (dotsU p)) ∧ Below w.heap.size w w' := by
  obtain ⟨i0, hi0, hz0, hz1, hz2⟩ := info_parts infoStrU
  by_cases h0 : p = []
  · subst h0
    go_enter Tryd.func118, Tryd.ntmps118
    go_wp2_with fail
    go_ret
    exact ⟨rfl, Below.refl _ _⟩
  · have h1 : Lib.hasPrefix p [47] = true := h.resolve_left h0
    rw [dots_und p h1]
    have e0 : (p == []) = false := by simpa using h0
    have hS := Split_one p w hM (by omega)
    have hLl := splitC_len 47 p
    have hw0 := joinC_wt 47 (splitC 47 p) (splitC_ne 47 p)
    rw [join_split] at hw0
    obtain ⟨K, hK⟩ : ∃ K, K = splitC 47 p := ⟨_, rfl⟩
    obtain ⟨k0, L, hKL⟩ : ∃ k0 L, K = k0 :: L := by
      cases hh : K with
      | nil => rw [hh] at hK; exact absurd hK.symm (splitC_ne 47 p)
      | cons a r => exact ⟨a, r, rfl⟩
    rw [← hK, hKL] at hS hLl hw0 ⊢
    have hL0 : L ≠ [] := by
      intro e
      obtain ⟨g0, g1⟩ := prefix_one.1 h1
      cases p with
      | nil => exact g0 rfl
      | cons a t =>
        have ha : a = 47 := UInt8.toNat_inj.1 g1
        subst ha
        rw [splitC, if_pos rfl] at hK
        rw [hKL, e] at hK
        injection hK with _ hK
        exact splitC_ne 47 t hK.symm
    have hw3 : wtU (k0 :: L) = (k0.length + 1) + wtU L := by simp [wtU]
    rw [List.tail_cons]
    obtain ⟨R, hR⟩ : ∃ R, R = undF L [] := ⟨_, rfl⟩
    rw [← hR]
    have hRl : (joinC 47 R).length ≤ p.length + 1 := by
      have a1 := joinC_le 47 R
      have a2 := und_wt L []
      rw [← hR] at a2
      have : wtU [] = 0 := rfl
      omega
    obtain ⟨X, hX⟩ : ∃ X, X = 47 :: joinC 47 R := ⟨_, rfl⟩
    rw [← hX]
    have HX := Lib.hid hX
    clear hX
    have HR := Lib.hid hR
    clear hR hw0 hw3 hK hKL h1 h h0
    obtain ⟨N, hN⟩ : ∃ N, N = L.length := ⟨_, rfl⟩
    rw [List.length_cons, ← hN] at hS hLl
    have hN0 : 0 < N := by rw [hN]; exact List.length_pos_iff.2 hL0
    have HN := Lib.hid hN
    obtain ⟨w1, hw1⟩ : ∃ w1, w1 = w.alloc (.cells ((k0 :: L).map str).toArray 9) := ⟨_, rfl⟩
    rw [← hw1] at hS
    have hb1 : Below w.heap.size w w1 := by rw [hw1]; exact (Below.refl _ w).alloc (Nat.le_refl _) _
    have hsz1 : w1.heap.size = w.heap.size + 1 := by rw [hw1]; simp
    have hcell : ∀ j, (hj : j < N) → w1.cell? ⟨w.heap.size, 1 + j, none⟩ = some (str (L[j]'(by rw [← HN.out]; exact hj))) := by
      intro j hj
      have hjl : j < L.length := by rw [← HN.out]; exact hj
      unfold World.cell?
      rw [hw1, heap_alloc_new, Nat.add_comm 1 j]
      simp [hjl]
    have hcut : ∀ X : World, (Instr.slice 41 (.slice (some ⟨w.heap.size, 0, none⟩) (N + 1) (N + 1)) (some (.int .i64 1)) none none).run Tryd.prog X = .ok (.slice (some ⟨w.heap.size, 1, none⟩) N N) X := fun X => by
      rw [run_cut X _ _ 1 Tryd.underlying41 (Tryd.sizeOf9 X) _ _ _ .i64 1 (by omega) (by omega)]
      unfold cutA
      rw [if_neg (by show ¬ N + 1 = 1; omega)]
      rfl
    have HS := Lib.hid hS
    have Hcell := Lib.hid hcell
    have Hsz1 := Lib.hid hsz1
    have Hcut := Lib.hid hcut
    clear hS hcell hsz1 hw1 hN hM hL0
    go_enter Tryd.func118, Tryd.ntmps118
    go_wp2_with fail
    refine HS.out.mono ?_
    rintro e w1 ⟨rfl, rfl⟩
    go_wp2_with fail
    go_loopw [4, 14] (fun s4 iv wr => UndRel w1 R L s4 iv wr) (fun _ iv _ => N - (intOf iv).toNat)
    case atStart => exact ⟨0, [], none, 0, rfl, Nat.zero_le _, rfl, Nat.le_refl _, World.ownsRow_nil _ _ _ _, Below.refl _ _, HR.out.symm⟩
    case round =>
      obtain ⟨i, out, S, c, rfl, hi, rfl, hol, hown, hbel, hD⟩ := hrel
      rw [← HN.out] at hi
      by_cases hiN : i < N
      · have hil : i < L.length := by rw [← HN.out]; exact hiN
        have hcel0 := (hbel.cell (p := ⟨w.heap.size, 1 + i, none⟩) (by rw [Hsz1.out]; simp)).trans (Hcell.out i hiN)
        have hstep : undF (L.drop (i + 1)) (undStep (L.drop (i + 1)).isEmpty out (L[i]'hil)) = R := by
          have := hD.out
          rw [List.drop_eq_getElem_cons hil] at this
          exact this
        generalize L[i]'hil = s at hcel0 hstep
        clear hD
        by_cases h1 : s = [46]
        · subst h1
          by_cases hl : i + 1 = N
          · skip
            have hlast : i + 1 = N := hl
            have e7 : ((i : Int) == (N : Int) - 1) = true := by rw [beq_iff_eq]; omega
            have hem : (L.drop (i + 1)).isEmpty = true := by rw [List.drop_of_length_le (by rw [← HN.out]; omega)]; rfl
            rw [hem] at hstep
            clear hem hl hlast
            have Hst : Hid (undF (L.drop (i + 1)) (out ++ [[]]) = R) := by
              show _ = R
              rw [← hstep]
              unfold undStep
              rw [if_pos rfl]
              rfl
            clear hstep
            have h63 : out.length + 1 ≤ maxLen := by unfold maxLen; omega
            have h47 : (out.length + 1) * 16 ≤ 140737488355328 := by omega
            go_wp2_with (at_builtin; refine wpList_app rfl _ _ 41 rfl w1.heap.size 9 i0 (.string ⟨#[]⟩) 1 16 Tryd.underlying41 hi0 hz0 hz1 hz2 rfl (by decide) _ out.length _ (out.map str) rfl (hown.alloc _) _ _ 1 1 [str []] rfl (Sl.one _ _ _) (by intro u hu; simp only [List.mem_singleton] at hu; subst hu; rfl) h63 h47 ?c2 ?_)
            case c2 => have := hbel.size; simp; omega
            intro S2 c2 w2 hown2 hb2 _
            have hbel2 := (hbel.alloc hbel.size _).trans hb2
            go_wp2_with fail
            refine ⟨⟨i + 1, out ++ [[]], S2, c2, by go_num, by omega, by rw [List.length_append]; rfl, by rw [List.length_append]; simp only [List.length_nil, List.length_singleton]; omega, by rw [List.length_append, List.map_append]; first | exact hown2 | (rw [List.map_take]; exact hown2), hbel2, Hst.out⟩, by simp [intOf]; omega⟩
          · skip
            have e7 : ((i : Int) == (N : Int) - 1) = false := by rw [beq_eq_false_iff_ne]; omega
            have hem : (L.drop (i + 1)).isEmpty = false := by
              cases h : L.drop (i + 1) with
              | nil => have := congrArg List.length h; rw [List.length_drop, ← HN.out] at this; simp at this; omega
              | cons _ _ => rfl
            rw [hem] at hstep
            clear hem hl
            have Hst : Hid (undF (L.drop (i + 1)) out = R) := by
              show _ = R
              rw [← hstep]
              unfold undStep
              rw [if_pos rfl]
              rfl
            clear hstep
            go_wp2_with fail
            refine ⟨⟨i + 1, out, S, c, by go_num, by omega, rfl, by (try rw [hpl]); (try simp only [List.length_nil]); omega, by (try rw [hpl]); exact hown, hbel, Hst.out⟩, by simp [intOf]; omega⟩
        · by_cases h2 : s = [46, 46]
          · subst h2
            clear h1
            by_cases hn0 : 0 < out.length
            · skip
              have hpop : out.dropLast = out.take (out.length - 1) := List.dropLast_eq_take
              have hpl : (out.take (out.length - 1)).length = out.length - 1 := by rw [List.length_take]; omega
              have hcap := own_cap hown
              have hownP : wr.ownsRow w1.heap.size 9 1 (.slice (cutA S c 0 1) (out.length - 1) c) (out.length - 1) ((out.take (out.length - 1)).map str) := by
                have h := own_shrink hown (k := out.length - 1) (by omega)
                rw [cutA_zero hown, List.map_take]
                rw [Nat.mul_one] at h
                exact h
              have d1 : decide (0 < (out.length : Int)) = true := decide_eq_true (by omega)
              have q1 : (0 : Int) ≤ (out.length : Int) - 1 := by omega
              have q2 : (out.length : Int) - 1 ≤ (out.length : Int) := by omega
              have q4 : ((out.length : Int) - 1).toNat = out.length - 1 := by omega
              have q5 : (1 : Int) ≤ (out.length : Int) := by omega
              have HP := Lib.hid hpop
              have HL := Lib.hid hpl
              by_cases hl : i + 1 = N
              · skip
                have hlast : i + 1 = N := hl
                have e7 : ((i : Int) == (N : Int) - 1) = true := by rw [beq_iff_eq]; omega
                have hem : (L.drop (i + 1)).isEmpty = true := by rw [List.drop_of_length_le (by rw [← HN.out]; omega)]; rfl
                rw [hem] at hstep
                clear hem hl hlast
                have Hst : Hid (undF (L.drop (i + 1)) ((out.take (out.length - 1)) ++ [[]]) = R) := by
                  show _ = R
                  rw [← hstep]
                  unfold undStep
                  rw [if_neg (by decide), if_pos rfl, hpop]
                  rfl
                clear hstep
                have h63 : (out.length - 1) + 1 ≤ maxLen := by unfold maxLen; omega
                have h47 : ((out.length - 1) + 1) * 16 ≤ 140737488355328 := by omega
                go_wp2_with (at_builtin; refine wpList_app rfl _ _ 41 rfl w1.heap.size 9 i0 (.string ⟨#[]⟩) 1 16 Tryd.underlying41 hi0 hz0 hz1 hz2 rfl (by decide) _ (out.length - 1) _ ((out.take (out.length - 1)).map str) rfl (hownP.alloc _) _ _ 1 1 [str []] rfl (Sl.one _ _ _) (by intro u hu; simp only [List.mem_singleton] at hu; subst hu; rfl) h63 h47 ?c2 ?_)
                case c2 => have := hbel.size; simp; omega
                intro S2 c2 w2 hown2 hb2 _
                have hbel2 := (hbel.alloc hbel.size _).trans hb2
                go_wp2_with fail
                refine ⟨⟨i + 1, (out.take (out.length - 1)) ++ [[]], S2, c2, by go_num, by omega, by rw [List.length_append, hpl]; rfl, by rw [List.length_append, hpl]; simp only [List.length_nil, List.length_singleton]; omega, by rw [List.length_append, hpl, List.map_append]; first | exact hown2 | (rw [List.map_take]; exact hown2), hbel2, Hst.out⟩, by simp [intOf]; omega⟩
              · skip
                have e7 : ((i : Int) == (N : Int) - 1) = false := by rw [beq_eq_false_iff_ne]; omega
                have hem : (L.drop (i + 1)).isEmpty = false := by
                  cases h : L.drop (i + 1) with
                  | nil => have := congrArg List.length h; rw [List.length_drop, ← HN.out] at this; simp at this; omega
                  | cons _ _ => rfl
                rw [hem] at hstep
                clear hem hl
                have Hst : Hid (undF (L.drop (i + 1)) (out.take (out.length - 1)) = R) := by
                  show _ = R
                  rw [← hstep]
                  unfold undStep
                  rw [if_neg (by decide), if_pos rfl, hpop]
                  rfl
                clear hstep
                go_wp2_with fail
                refine ⟨⟨i + 1, (out.take (out.length - 1)), cutA S c 0 1, c, by go_num, by omega, by rw [hpl], by (try rw [hpl]); (try simp only [List.length_nil]); omega, by (try rw [hpl]); exact hownP, hbel, Hst.out⟩, by simp [intOf]; omega⟩
            · skip
              obtain rfl : out = [] := List.eq_nil_of_length_eq_zero (by omega)
              simp only [List.length_nil] at hown hol ⊢
              by_cases hl : i + 1 = N
              · skip
                have hlast : i + 1 = N := hl
                have e7 : ((i : Int) == (N : Int) - 1) = true := by rw [beq_iff_eq]; omega
                have hem : (L.drop (i + 1)).isEmpty = true := by rw [List.drop_of_length_le (by rw [← HN.out]; omega)]; rfl
                rw [hem] at hstep
                clear hem hl hlast
                have Hst : Hid (undF (L.drop (i + 1)) (([] : List (List UInt8)) ++ [[]]) = R) := by
                  show _ = R
                  rw [← hstep]
                  unfold undStep
                  rw [if_neg (by decide), if_pos rfl]
                  rfl
                clear hstep
                have h63 : 0 + 1 ≤ maxLen := by unfold maxLen; omega
                have h47 : (0 + 1) * 16 ≤ 140737488355328 := by omega
                go_wp2_with (at_builtin; refine wpList_app rfl _ _ 41 rfl w1.heap.size 9 i0 (.string ⟨#[]⟩) 1 16 Tryd.underlying41 hi0 hz0 hz1 hz2 rfl (by decide) _ 0 _ ([]) rfl (hown.alloc _) _ _ 1 1 [str []] rfl (Sl.one _ _ _) (by intro u hu; simp only [List.mem_singleton] at hu; subst hu; rfl) h63 h47 ?c2 ?_)
                case c2 => have := hbel.size; simp; omega
                intro S2 c2 w2 hown2 hb2 _
                have hbel2 := (hbel.alloc hbel.size _).trans hb2
                go_wp2_with fail
                refine ⟨⟨i + 1, ([] : List (List UInt8)) ++ [[]], S2, c2, by go_num, by omega, by rw [List.length_append]; rfl, by rw [List.length_append]; simp only [List.length_nil, List.length_singleton]; omega, by rw [List.length_append, List.map_append]; first | exact hown2 | (rw [List.map_take]; exact hown2), hbel2, Hst.out⟩, by simp [intOf]; omega⟩
              · skip
                have e7 : ((i : Int) == (N : Int) - 1) = false := by rw [beq_eq_false_iff_ne]; omega
                have hem : (L.drop (i + 1)).isEmpty = false := by
                  cases h : L.drop (i + 1) with
                  | nil => have := congrArg List.length h; rw [List.length_drop, ← HN.out] at this; simp at this; omega
                  | cons _ _ => rfl
                rw [hem] at hstep
                clear hem hl
                have Hst : Hid (undF (L.drop (i + 1)) ([] : List (List UInt8)) = R) := by
                  show _ = R
                  rw [← hstep]
                  unfold undStep
                  rw [if_neg (by decide), if_pos rfl]
                  rfl
                clear hstep
                go_wp2_with fail
                refine ⟨⟨i + 1, ([] : List (List UInt8)), S, c, by go_num, by omega, rfl, by (try rw [hpl]); (try simp only [List.length_nil]); omega, by (try rw [hpl]); exact hown, hbel, Hst.out⟩, by simp [intOf]; omega⟩
          · skip
            have e1 : (s == [46]) = false := by simpa using h1
            have e2 : (s == [46, 46]) = false := by simpa using h2
            have hst : Hid (undF (L.drop (i + 1)) (out ++ [s]) = R) := by
              show _ = R
              rw [← hstep]
              unfold undStep
              rw [if_neg h1, if_neg h2]
            have Hst := hst
            clear hst hstep
            have h63 : out.length + 1 ≤ maxLen := by unfold maxLen; omega
            have h47 : (out.length + 1) * 16 ≤ 140737488355328 := by omega
            go_wp2_with (at_builtin; refine wpList_app rfl _ _ 41 rfl w1.heap.size 9 i0 (.string ⟨#[]⟩) 1 16 Tryd.underlying41 hi0 hz0 hz1 hz2 rfl (by decide) S out.length c (out.map str) rfl (hown.alloc _) _ _ 1 1 [str s] rfl (Sl.one _ _ _) (by intro u hu; simp only [List.mem_singleton] at hu; subst hu; rfl) h63 h47 ?c2 ?_)
            case c2 => have := hbel.size; simp; omega
            intro S2 c2 w2 hown2 hb2 _
            have hbel2 := (hbel.alloc hbel.size _).trans hb2
            go_wp2_with fail
            refine ⟨⟨i + 1, out ++ [s], S2, c2, by go_num, by omega, by rw [List.length_append]; rfl, by rw [List.length_append]; simp only [List.length_singleton]; omega, by rw [List.length_append, List.map_append]; exact hown2, hbel2, Hst.out⟩, by simp [intOf]; omega⟩
      · obtain rfl : i = N := by omega
        have hRo : R = out := by
          have := hD.out
          rw [List.drop_of_length_le (by rw [← HN.out]; exact Nat.le_refl _)] at this
          exact this.symm
        have hJ2 := Join_any out S c wr _ hown (by omega) (by rw [← hRo]; omega)
        have hbw : Below w.heap.size w wr := hb1.trans (hbel.mono hb1.size)
        rw [← hRo] at hJ2
        have hX := HX.out
        generalize joinC 47 R = q at hJ2 hRl hX
        have HX2 := Lib.hid hX
        clear hX
        rw [hRo] at hJ2
        have HJ := Lib.hid hJ2
        clear hJ2 hRo hD HR
        have hq : 1 + q.length ≤ 9223372036854775807 := by omega
        go_wp2_with fail
        refine HJ.out.mono ?_
        rintro e w2 ⟨rfl, hb2⟩
        have hbw2 := hbw.trans (hb2.mono hbw.size)
        go_wp2_with fail
        go_ret
        exact ⟨by rw [HX2.out]; rfl, hbw2⟩
end Go.Proofs.YtdhmmepcnladcaaDoor
