import Derived.Test.YtlbdnohnngkapaaGreatDoorU3
import Derived.Test.YtlbdnohnngkapaaGreatDoorU11
import Derived.Test.YtlbdnohnngkapaaGreatDoorU5
import Derived.Test.YtlbdnohnngkapaaGreatDoorU4
import Derived.Deep.DeepCutAuto
namespace Go.Proofs.YtlbdnohnngkapaaGreatDoor
open Go.RowKit

/-! ### The document's path without dots -/
def undStep (last : Bool) (out : List (List UInt8)) (s : List UInt8) : List (List UInt8) :=
  if s = [46] then (if last then out ++ [[]] else out)
  else if s = [46, 46] then (if last then out.dropLast ++ [[]] else out.dropLast)
  else out ++ [s]
def undF : List (List UInt8) → List (List UInt8) → List (List UInt8)
  | [], out => out
  | s :: r, out => undF r (undStep r.isEmpty out s)
theorem und_step (last : Bool) (out : List (List UInt8)) (s : List UInt8) : dotStep last ([] :: out) s = [] :: undStep last out s := by
  unfold dotStep undStep
  have hp : popU ([] :: out) = [] :: out.dropLast := by
    unfold popU
    cases out with
    | nil => simp
    | cons a r => simp
  rw [hp]
  split
  · cases last <;> rfl
  · split
    · cases last <;> rfl
    · rfl
theorem und_dots : ∀ (L out : List (List UInt8)), dotsF L ([] :: out) = [] :: undF L out
  | [], _ => rfl
  | s :: r, out => by
    unfold dotsF undF
    rw [und_step, und_dots r]
/-- The two agree on what has a path from the root. -/
theorem dots_und (p : List UInt8) (hp : Lib.hasPrefix p [47] = true) : dotsU p = 47 :: joinC 47 (undF (splitC 47 p).tail []) := by
  obtain ⟨h0, h1⟩ := prefix_one.1 hp
  cases p with
  | nil => exact absurd rfl h0
  | cons a t =>
    have ha : a = 47 := UInt8.toNat_inj.1 h1
    subst ha
    have hs : splitC 47 (47 :: t) = [] :: splitC 47 t := by rw [splitC, if_pos rfl]
    unfold dotsU
    rw [if_neg (by simp), hs, List.tail_cons]
    have h2 : dotsF ([] :: splitC 47 t) [] = [] :: undF (splitC 47 t) [] := by
      rw [dotsF, ← und_dots]
      rfl
    rw [h2]
    unfold slashU
    rw [hp]
    cases undF (splitC 47 t) [] with
    | nil => rfl
    | cons x r => rw [joinC_cons]; rfl
theorem und_wt : ∀ (L out : List (List UInt8)), wtU (undF L out) ≤ wtU L + wtU out
  | [], out => by simp [undF]
  | s :: r, out => by
    have ih := und_wt r (undStep r.isEmpty out s)
    have hd : wtU out.dropLast ≤ wtU out := by
      rcases List.eq_nil_or_concat out with h | ⟨x, y, h⟩
      · rw [h]; simp
      · rw [h, List.concat_eq_append, List.dropLast_concat, wtU_app]; omega
    have hs : wtU (undStep r.isEmpty out s) ≤ wtU out + (s.length + 1) := by
      have h1 : wtU [[]] = 1 := rfl
      unfold undStep
      split
      · split
        · rw [wtU_app]; omega
        · omega
      · split
        · split
          · rw [wtU_app]; omega
          · omega
        · rw [wtU_app]; simp [wtU]
    unfold undF
    have h3 : wtU (s :: r) = (s.length + 1) + wtU r := by simp [wtU]
    omega
attribute [local go_sem high] upto_str
def UndRel (w1 : World) (R : List (List UInt8)) (L : List (List UInt8)) (s4 iv : Value) (wr : World) : Prop :=
  ∃ (i : Nat) (out : List (List UInt8)) (S : Option Addr) (c : Nat), iv = .int .i64 i ∧ i ≤ L.length ∧ s4 = .slice S out.length c ∧ out.length ≤ i ∧ wr.ownsRow w1.heap.size 9 1 (.slice S out.length c) out.length (out.map str) ∧ Below w1.heap.size w1 wr ∧ Hid (undF (L.drop i) out = R)
set_option maxRecDepth 100000 in
set_option maxHeartbeats 4000000 in
theorem undotted_any (p : List UInt8) (w : World) (hM : MaxLenOk w) (hp : p.length ≤ 1000) (h : p = [] ∨ Lib.hasPrefix p [47] = true) : Calls Tryz.prog 212 #[str p] w fun e w' => e = .returned (str (dotsU p)) ∧ Below w.heap.size w w' := by
  obtain ⟨i0, hi0, hz0, hz1, hz2⟩ := info_parts infoStrU
  by_cases h0 : p = []
  · subst h0
    go_enter Tryz.func212, Tryz.ntmps212
    go_wp2_with fail
    go_ret
    exact ⟨rfl, Below.refl _ _⟩
  · have h1 : Lib.hasPrefix p [47] = true := h.resolve_left h0
    rw [dots_und p h1]
    have e0 : (p == []) = false := by simpa using h0
    have hS := Split_one p w hM (by omega)
    have hLl := splitC_len 47 p
    have hw0 := joinC_wt 47 (splitC 47 p) (splitC_ne 47 p)
    rw [join_split] at hw0
    obtain ⟨K, hK⟩ : ∃ K, K = splitC 47 p := ⟨_, rfl⟩
    obtain ⟨k0, L, hKL⟩ : ∃ k0 L, K = k0 :: L := by
      cases hh : K with
      | nil => rw [hh] at hK; exact absurd hK.symm (splitC_ne 47 p)
      | cons a r => exact ⟨a, r, rfl⟩
    rw [← hK, hKL] at hS hLl hw0 ⊢
    have hL0 : L ≠ [] := by
      intro e
      obtain ⟨g0, g1⟩ := prefix_one.1 h1
      cases p with
      | nil => exact g0 rfl
      | cons a t =>
        have ha : a = 47 := UInt8.toNat_inj.1 g1
        subst ha
        rw [splitC, if_pos rfl] at hK
        rw [hKL, e] at hK
        injection hK with _ hK
        exact splitC_ne 47 t hK.symm
    have hw3 : wtU (k0 :: L) = (k0.length + 1) + wtU L := by simp [wtU]
    rw [List.tail_cons]
    obtain ⟨R, hR⟩ : ∃ R, R = undF L [] := ⟨_, rfl⟩
    rw [← hR]
    have hRl : (joinC 47 R).length ≤ p.length + 1 := by
      have a1 := joinC_le 47 R
      have a2 := und_wt L []
      rw [← hR] at a2
      have : wtU [] = 0 := rfl
      omega
    obtain ⟨X, hX⟩ : ∃ X, X = 47 :: joinC 47 R := ⟨_, rfl⟩
    rw [← hX]
    have HX := Lib.hid hX
    clear hX
    have HR := Lib.hid hR
    clear hR hw0 hw3 hK hKL h1 h h0
    obtain ⟨N, hN⟩ : ∃ N, N = L.length := ⟨_, rfl⟩
    rw [List.length_cons, ← hN] at hS hLl
    have hN0 : 0 < N := by rw [hN]; exact List.length_pos_iff.2 hL0
    have HN := Lib.hid hN
    obtain ⟨w1, hw1⟩ : ∃ w1, w1 = w.alloc (.cells ((k0 :: L).map str).toArray 9) := ⟨_, rfl⟩
    rw [← hw1] at hS
    have hb1 : Below w.heap.size w w1 := by rw [hw1]; exact (Below.refl _ w).alloc (Nat.le_refl _) _
    have hsz1 : w1.heap.size = w.heap.size + 1 := by rw [hw1]; simp
    have hcell : ∀ j, (hj : j < N) → w1.cell? ⟨w.heap.size, 1 + j, none⟩ = some (str (L[j]'(by rw [← HN.out]; exact hj))) := by
      intro j hj
      have hjl : j < L.length := by rw [← HN.out]; exact hj
      unfold World.cell?
      rw [hw1, heap_alloc_new, Nat.add_comm 1 j]
      simp [hjl]
    have hcut : ∀ X : World, (Instr.slice 57 (.slice (some ⟨w.heap.size, 0, none⟩) (N + 1) (N + 1)) (some (.int .i64 1)) none none).run Tryz.prog X = .ok (.slice (some ⟨w.heap.size, 1, none⟩) N N) X := fun X => by
      rw [run_cut X _ _ 1 Tryz.underlying57 (Tryz.sizeOf9 X) _ _ _ .i64 1 (by omega) (by omega)]
      unfold cutA
      rw [if_neg (by show ¬ N + 1 = 1; omega)]
      rfl
    have HS := Lib.hid hS
    have Hcell := Lib.hid hcell
    have Hsz1 := Lib.hid hsz1
    have Hcut := Lib.hid hcut
    clear hS hcell hsz1 hw1 hN hM hL0
    go_enter Tryz.func212, Tryz.ntmps212
    go_wp2_with fail
    refine HS.out.mono ?_
    rintro e w1 ⟨rfl, rfl⟩
    go_wp2_with fail
    go_loopw [4, 14] (fun s4 iv wr => UndRel w1 R L s4 iv wr) (fun _ iv _ => N - (intOf iv).toNat)
    case atStart => exact ⟨0, [], none, 0, rfl, Nat.zero_le _, rfl, Nat.le_refl _, World.ownsRow_nil _ _ _ _, Below.refl _ _, HR.out.symm⟩
    case round =>
      obtain ⟨i, out, S, c, rfl, hi, rfl, hol, hown, hbel, hD⟩ := hrel
      rw [← HN.out] at hi
      by_cases hiN : i < N
      · have hil : i < L.length := by rw [← HN.out]; exact hiN
        have hcel0 := (hbel.cell (p := ⟨w.heap.size, 1 + i, none⟩) (by rw [Hsz1.out]; simp)).trans (Hcell.out i hiN)
        have hstep : undF (L.drop (i + 1)) (undStep (L.drop (i + 1)).isEmpty out (L[i]'hil)) = R := by
          have := hD.out
          rw [List.drop_eq_getElem_cons hil] at this
          exact this
        generalize L[i]'hil = s at hcel0 hstep
        clear hD
        by_cases h1 : s = [46]
        · subst h1
          by_cases hl : i + 1 = N
          · skip
            have hlast : i + 1 = N := hl
            have e7 : ((i : Int) == (N : Int) - 1) = true := by rw [beq_iff_eq]; omega
            have hem : (L.drop (i + 1)).isEmpty = true := by rw [List.drop_of_length_le (by rw [← HN.out]; omega)]; rfl
            rw [hem] at hstep
            clear hem hl hlast
            have Hst : Hid (undF (L.drop (i + 1)) (out ++ [[]]) = R) := by
              show _ = R
              rw [← hstep]
              unfold undStep
              rw [if_pos rfl]
              rfl
            clear hstep
            have h63 : out.length + 1 ≤ maxLen := by unfold maxLen; omega
            have h47 : (out.length + 1) * 16 ≤ 140737488355328 := by omega
            go_wp2_with (at_builtin; refine wpList_app rfl _ _ 57 rfl w1.heap.size 9 i0 (.string ⟨#[]⟩) 1 16 Tryz.underlying57 hi0 hz0 hz1 hz2 rfl (by decide) _ out.length _ (out.map str) rfl (hown.alloc _) _ _ 1 1 [str []] rfl (Sl.one _ _ _) (by intro u hu; simp only [List.mem_singleton] at hu; subst hu; rfl) h63 h47 ?c2 ?_)
            case c2 => have := hbel.size; simp; omega
            intro S2 c2 w2 hown2 hb2 _
            have hbel2 := (hbel.alloc hbel.size _).trans hb2
            go_wp2_with fail
            refine ⟨⟨i + 1, out ++ [[]], S2, c2, by go_num, by omega, by rw [List.length_append]; rfl, by rw [List.length_append]; simp only [List.length_nil, List.length_singleton]; omega, by rw [List.length_append, List.map_append]; first | exact hown2 | (rw [List.map_take]; exact hown2), hbel2, Hst.out⟩, by simp [intOf]; omega⟩
          · skip
            have e7 : ((i : Int) == (N : Int) - 1) = false := by rw [beq_eq_false_iff_ne]; omega
            have hem : (L.drop (i + 1)).isEmpty = false := by
              cases h : L.drop (i + 1) with
              | nil => have := congrArg List.length h; rw [List.length_drop, ← HN.out] at this; simp at this; omega
              | cons _ _ => rfl
            rw [hem] at hstep
            clear hem hl
            have Hst : Hid (undF (L.drop (i + 1)) out = R) := by
              show _ = R
              rw [← hstep]
              unfold undStep
              rw [if_pos rfl]
              rfl
            clear hstep
            go_wp2_with fail
            refine ⟨⟨i + 1, out, S, c, by go_num, by omega, rfl, by (try rw [hpl]); (try simp only [List.length_nil]); omega, by (try rw [hpl]); exact hown, hbel, Hst.out⟩, by simp [intOf]; omega⟩
        · by_cases h2 : s = [46, 46]
          · subst h2
            clear h1
            by_cases hn0 : 0 < out.length
            · skip
              have hpop : out.dropLast = out.take (out.length - 1) := List.dropLast_eq_take
              have hpl : (out.take (out.length - 1)).length = out.length - 1 := by rw [List.length_take]; omega
              have hcap := own_cap hown
              have hownP : wr.ownsRow w1.heap.size 9 1 (.slice (cutA S c 0 1) (out.length - 1) c) (out.length - 1) ((out.take (out.length - 1)).map str) := by
                have h := own_shrink hown (k := out.length - 1) (by omega)
                rw [cutA_zero hown, List.map_take]
                rw [Nat.mul_one] at h
                exact h
              have d1 : decide (0 < (out.length : Int)) = true := decide_eq_true (by omega)
              have q1 : (0 : Int) ≤ (out.length : Int) - 1 := by omega
              have q2 : (out.length : Int) - 1 ≤ (out.length : Int) := by omega
              have q4 : ((out.length : Int) - 1).toNat = out.length - 1 := by omega
              have q5 : (1 : Int) ≤ (out.length : Int) := by omega
              have HP := Lib.hid hpop
              have HL := Lib.hid hpl
              by_cases hl : i + 1 = N
              · skip
                have hlast : i + 1 = N := hl
                have e7 : ((i : Int) == (N : Int) - 1) = true := by rw [beq_iff_eq]; omega
                have hem : (L.drop (i + 1)).isEmpty = true := by rw [List.drop_of_length_le (by rw [← HN.out]; omega)]; rfl
                rw [hem] at hstep
                clear hem hl hlast
                have Hst : Hid (undF (L.drop (i + 1)) ((out.take (out.length - 1)) ++ [[]]) = R) := by
                  show _ = R
                  rw [← hstep]
                  unfold undStep
                  rw [if_neg (by decide), if_pos rfl, hpop]
                  rfl
                clear hstep
                have h63 : (out.length - 1) + 1 ≤ maxLen := by unfold maxLen; omega
                have h47 : ((out.length - 1) + 1) * 16 ≤ 140737488355328 := by omega
                go_wp2_with (at_builtin; refine wpList_app rfl _ _ 57 rfl w1.heap.size 9 i0 (.string ⟨#[]⟩) 1 16 Tryz.underlying57 hi0 hz0 hz1 hz2 rfl (by decide) _ (out.length - 1) _ ((out.take (out.length - 1)).map str) rfl (hownP.alloc _) _ _ 1 1 [str []] rfl (Sl.one _ _ _) (by intro u hu; simp only [List.mem_singleton] at hu; subst hu; rfl) h63 h47 ?c2 ?_)
                case c2 => have := hbel.size; simp; omega
                intro S2 c2 w2 hown2 hb2 _
                have hbel2 := (hbel.alloc hbel.size _).trans hb2
                go_wp2_with fail
                refine ⟨⟨i + 1, (out.take (out.length - 1)) ++ [[]], S2, c2, by go_num, by omega, by rw [List.length_append, hpl]; rfl, by rw [List.length_append, hpl]; simp only [List.length_nil, List.length_singleton]; omega, by rw [List.length_append, hpl, List.map_append]; first | exact hown2 | (rw [List.map_take]; exact hown2), hbel2, Hst.out⟩, by simp [intOf]; omega⟩
              · skip
                have e7 : ((i : Int) == (N : Int) - 1) = false := by rw [beq_eq_false_iff_ne]; omega
                have hem : (L.drop (i + 1)).isEmpty = false := by
                  cases h : L.drop (i + 1) with
                  | nil => have := congrArg List.length h; rw [List.length_drop, ← HN.out] at this; simp at this; omega
                  | cons _ _ => rfl
                rw [hem] at hstep
                clear hem hl
                have Hst : Hid (undF (L.drop (i + 1)) (out.take (out.length - 1)) = R) := by
                  show _ = R
                  rw [← hstep]
                  unfold undStep
                  rw [if_neg (by decide), if_pos rfl, hpop]
                  rfl
                clear hstep
                go_wp2_with fail
                refine ⟨⟨i + 1, (out.take (out.length - 1)), cutA S c 0 1, c, by go_num, by omega, by rw [hpl], by (try rw [hpl]); (try simp only [List.length_nil]); omega, by (try rw [hpl]); exact hownP, hbel, Hst.out⟩, by simp [intOf]; omega⟩
            · skip
              obtain rfl : out = [] := List.eq_nil_of_length_eq_zero (by omega)
              simp only [List.length_nil] at hown hol ⊢
              by_cases hl : i + 1 = N
              · skip
                have hlast : i + 1 = N := hl
                have e7 : ((i : Int) == (N : Int) - 1) = true := by rw [beq_iff_eq]; omega
                have hem : (L.drop (i + 1)).isEmpty = true := by rw [List.drop_of_length_le (by rw [← HN.out]; omega)]; rfl
                rw [hem] at hstep
                clear hem hl hlast
                have Hst : Hid (undF (L.drop (i + 1)) (([] : List (List UInt8)) ++ [[]]) = R) := by
                  show _ = R
                  rw [← hstep]
                  unfold undStep
                  rw [if_neg (by decide), if_pos rfl]
                  rfl
                clear hstep
                have h63 : 0 + 1 ≤ maxLen := by unfold maxLen; omega
                have h47 : (0 + 1) * 16 ≤ 140737488355328 := by omega
                go_wp2_with (at_builtin; refine wpList_app rfl _ _ 57 rfl w1.heap.size 9 i0 (.string ⟨#[]⟩) 1 16 Tryz.underlying57 hi0 hz0 hz1 hz2 rfl (by decide) _ 0 _ ([]) rfl (hown.alloc _) _ _ 1 1 [str []] rfl (Sl.one _ _ _) (by intro u hu; simp only [List.mem_singleton] at hu; subst hu; rfl) h63 h47 ?c2 ?_)
                case c2 => have := hbel.size; simp; omega
                intro S2 c2 w2 hown2 hb2 _
                have hbel2 := (hbel.alloc hbel.size _).trans hb2
                go_wp2_with fail
                refine ⟨⟨i + 1, ([] : List (List UInt8)) ++ [[]], S2, c2, by go_num, by omega, by rw [List.length_append]; rfl, by rw [List.length_append]; simp only [List.length_nil, List.length_singleton]; omega, by rw [List.length_append, List.map_append]; first | exact hown2 | (rw [List.map_take]; exact hown2), hbel2, Hst.out⟩, by simp [intOf]; omega⟩
              · skip
                have e7 : ((i : Int) == (N : Int) - 1) = false := by rw [beq_eq_false_iff_ne]; omega
                have hem : (L.drop (i + 1)).isEmpty = false := by
                  cases h : L.drop (i + 1) with
                  | nil => have := congrArg List.length h; rw [List.length_drop, ← HN.out] at this; simp at this; omega
                  | cons _ _ => rfl
                rw [hem] at hstep
                clear hem hl
                have Hst : Hid (undF (L.drop (i + 1)) ([] : List (List UInt8)) = R) := by
                  show _ = R
                  rw [← hstep]
                  unfold undStep
                  rw [if_neg (by decide), if_pos rfl]
                  rfl
                clear hstep
                go_wp2_with fail
                refine ⟨⟨i + 1, ([] : List (List UInt8)), S, c, by go_num, by omega, rfl, by (try rw [hpl]); (try simp only [List.length_nil]); omega, by (try rw [hpl]); exact hown, hbel, Hst.out⟩, by simp [intOf]; omega⟩
          · skip
            have e1 : (s == [46]) = false := by simpa using h1
            have e2 : (s == [46, 46]) = false := by simpa using h2
            have hst : Hid (undF (L.drop (i + 1)) (out ++ [s]) = R) := by
              show _ = R
              rw [← hstep]
              unfold undStep
              rw [if_neg h1, if_neg h2]
            have Hst := hst
            clear hst hstep
            have h63 : out.length + 1 ≤ maxLen := by unfold maxLen; omega
            have h47 : (out.length + 1) * 16 ≤ 140737488355328 := by omega
            go_wp2_with (at_builtin; refine wpList_app rfl _ _ 57 rfl w1.heap.size 9 i0 (.string ⟨#[]⟩) 1 16 Tryz.underlying57 hi0 hz0 hz1 hz2 rfl (by decide) S out.length c (out.map str) rfl (hown.alloc _) _ _ 1 1 [str s] rfl (Sl.one _ _ _) (by intro u hu; simp only [List.mem_singleton] at hu; subst hu; rfl) h63 h47 ?c2 ?_)
            case c2 => have := hbel.size; simp; omega
            intro S2 c2 w2 hown2 hb2 _
            have hbel2 := (hbel.alloc hbel.size _).trans hb2
            go_wp2_with fail
            refine ⟨⟨i + 1, out ++ [s], S2, c2, by go_num, by omega, by rw [List.length_append]; rfl, by rw [List.length_append]; simp only [List.length_singleton]; omega, by rw [List.length_append, List.map_append]; exact hown2, hbel2, Hst.out⟩, by simp [intOf]; omega⟩
      · obtain rfl : i = N := by omega
        have hRo : R = out := by
          have := hD.out
          rw [List.drop_of_length_le (by rw [← HN.out]; exact Nat.le_refl _)] at this
          exact this.symm
        have hJ2 := Join_any out S c wr _ hown (by omega) (by rw [← hRo]; omega)
        have hbw : Below w.heap.size w wr := hb1.trans (hbel.mono hb1.size)
        rw [← hRo] at hJ2
        have hX := HX.out
        generalize joinC 47 R = q at hJ2 hRl hX
        have HX2 := Lib.hid hX
        clear hX
        rw [hRo] at hJ2
        have HJ := Lib.hid hJ2
        clear hJ2 hRo hD HR
        have hq : 1 + q.length ≤ 9223372036854775807 := by omega
        go_wp2_with fail
        refine HJ.out.mono ?_
        rintro e w2 ⟨rfl, hb2⟩
        have hbw2 := hbw.trans (hb2.mono hbw.size)
        go_wp2_with fail
        go_ret
        exact ⟨by rw [HX2.out]; rfl, hbw2⟩
end Go.Proofs.YtlbdnohnngkapaaGreatDoor

namespace Go.Proofs.YtlbdnohnngkapaaGreatDoor

/-! ### What the document's LedTo needs of the addresses -/
theorem host_root {u : UrlD} (h : checkU u = 0) (hh : u.hasHost = true) : u.path = [] ∨ Lib.hasPrefix u.path [47] = true := by
  obtain ⟨_, _, _, h1, _⟩ := check_ok h
  unfold formB at h1
  rw [hh] at h1
  simp only [if_true, Bool.and_eq_false_iff, Bool.not_eq_false', beq_iff_eq] at h1
  by_cases e : u.path = []
  · exact .inl e
  · rcases h1 with h1 | h1
    · exact absurd h1 e
    · exact .inr (prefix_one.2 ⟨e, h1⟩)
theorem prefix_app {a b : List UInt8} (h : Lib.hasPrefix a [47] = true) : Lib.hasPrefix (a ++ b) [47] = true := by
  obtain ⟨h0, h1⟩ := prefix_one.1 h
  cases a with
  | nil => exact absurd rfl h0
  | cons x r => exact prefix_one.2 ⟨by simp, h1⟩
theorem prefix_takeU {a : List UInt8} {n : Nat} (h : Lib.hasPrefix a [47] = true) (hn : 0 < n) : Lib.hasPrefix (a.take n) [47] = true := by
  obtain ⟨h0, h1⟩ := prefix_one.1 h
  cases a with
  | nil => exact absurd rfl h0
  | cons x r =>
    cases n with
    | zero => omega
    | succ n => exact prefix_one.2 ⟨by simp, h1⟩
theorem lastIdx_root {x : List UInt8} (h : Lib.hasPrefix x [47] = true) : 0 ≤ Lib.lastIndexByte ⟨x.toArray⟩ 47 := by
  obtain ⟨h0, h1⟩ := prefix_one.1 h
  rcases Lib.lastIndexByte_spec ⟨x.toArray⟩ 47 with ⟨e, hn⟩ | ⟨i, _, e, _⟩
  · exfalso
    cases x with
    | nil => exact h0 rfl
    | cons a r =>
      have := hn 0 (by simp [ByteArray.size])
      apply this
      have h2 : nth (a :: r) 0 = a.toNat := rfl
      rw [h2] at h1
      simp [h1]
  · omega
theorem lastIdx_nil : Lib.lastIndexByte ⟨([] : List UInt8).toArray⟩ 47 = -1 := rfl
theorem merged_root {b : UrlD} (p : List UInt8) (h : checkU b = 0) (hh : b.hasHost = true) : Lib.hasPrefix (mergedU b p) [47] = true := by
  unfold mergedU
  rw [hh]
  rcases host_root h hh with e | e
  · rw [e]
    exact prefix_one.2 ⟨by simp, rfl⟩
  · have h0 : b.path ≠ [] := (prefix_one.1 e).1
    have hb : (b.path == []) = false := by simpa using h0
    rw [hb]
    have := lastIdx_root e
    exact prefix_app (prefix_takeU e (by omega))
theorem led_root {b u : UrlD} (hb : checkU b = 0) (hu : checkU u = 0) (hh : (ledU b u).hasHost = true) : (ledU b u).path = [] ∨ Lib.hasPrefix (ledU b u).path [47] = true := by
  unfold ledU at hh ⊢
  by_cases h1 : u.scheme ≠ []
  · rw [if_pos h1] at hh ⊢; exact host_root (u := u) hu hh
  · rw [if_neg h1] at hh ⊢
    by_cases h2 : u.hasHost = true
    · rw [if_pos h2] at hh ⊢; exact host_root (u := u) hu hh
    · rw [if_neg h2] at hh ⊢
      by_cases h3 : u.path = []
      · rw [if_pos h3] at hh ⊢
        by_cases h4 : u.hasQuery = true
        · rw [if_pos h4] at hh ⊢; exact host_root (u := b) hb hh
        · rw [if_neg h4] at hh ⊢; exact host_root (u := b) hb hh
      · rw [if_neg h3] at hh ⊢
        by_cases h5 : nth u.path 0 = 47
        · rw [if_pos h5] at hh ⊢; exact .inr (prefix_one.2 ⟨h3, h5⟩)
        · rw [if_neg h5] at hh ⊢; exact .inr (merged_root _ hb hh)
theorem end_ref (o : UrlD) : endU o = if checkU o = 0 then (o, 0) else (zeroU, if (!o.hasHost && Lib.hasPrefix o.path [47, 47]) = true then 4 else checkU o) := by
  by_cases h : checkU o = 0
  · rw [if_pos h, end_same h]
  · rw [if_neg h]
    unfold endU
    by_cases h2 : (!o.hasHost && Lib.hasPrefix o.path [47, 47]) = true
    · rw [if_pos h2, if_pos h2]
    · rw [if_neg h2, if_neg h2, if_neg h]
theorem merged_dir (b : UrlD) (p : List UInt8) : (if (b.hasHost && b.path == []) = true then [47] else b.path.take (Lib.lastIndexByte ⟨b.path.toArray⟩ 47 + 1).toNat) ++ p = mergedU b p := by
  unfold mergedU
  split <;> rfl
end Go.Proofs.YtlbdnohnngkapaaGreatDoor

namespace Go.Proofs.YtlbdnohnngkapaaGreatDoor
open Go.RowKit

/-! ### The document's check of an address -/
theorem split_head (c : UInt8) : ∀ l, (splitC c l).head? = some (l.takeWhile (fun b => b != c))
  | [] => rfl
  | b :: l => by
    have ih := split_head c l
    unfold splitC
    by_cases h : b = c
    · rw [if_pos h]; simp [h]
    · rw [if_neg h]
      cases h2 : splitC c l with
      | nil => rw [h2] at ih; cases ih
      | cons x r =>
        rw [h2] at ih
        simp only [List.head?_cons, Option.some.injEq] at ih
        simp [consHead, h, ih]
theorem r_one {b : Bool} (x : Nat) (h : b = false) : (if b = false then 1 else x) = 1 := by rw [h]; rfl
theorem r_two {b a c : Bool} (x : Nat) (h : b = true) (h2 : a = false) (h3 : c = false) : (if b = false then 1 else if (a || c) = true then 4 else x) = x := by rw [h, h2, h3]; simp
theorem r_fourA {b a c : Bool} (x : Nat) (h : b = true) (h2 : a = true) : (if b = false then 1 else if (a || c) = true then 4 else x) = 4 := by rw [h, h2]; simp
theorem r_fourB {b a c : Bool} (x : Nat) (h : b = true) (h2 : c = true) : (if b = false then 1 else if (a || c) = true then 4 else x) = 4 := by rw [h, h2]; simp
set_option maxRecDepth 100000 in
set_option maxHeartbeats 4000000 in
theorem RCheck_any (sc ho pa qu fr : List UInt8) (hh hq hf : Bool) (w : World) (hM : MaxLenOk w) :
    Calls Tryz.prog 209 #[.agg #[str sc, .bool hh, str ho, str pa, .bool hq, str qu, .bool hf, str fr]] w fun e w' => e = .returned (.int .i64 (checkU ⟨sc, hh, ho, pa, hq, qu, hf, fr⟩ : Nat)) ∧ Below w.heap.size w w' := by
  obtain ⟨wA, hwA⟩ : ∃ W, W = w.alloc (.cells #[str sc, .bool hh, str ho, str pa, .bool hq, str qu, .bool hf, str fr] 66) := ⟨_, rfl⟩
  have hbA : Below w.heap.size w wA := by rw [hwA]; exact (Below.refl _ w).alloc (Nat.le_refl _) _
  have hux : UB wA w.heap.size ⟨sc, hh, ho, pa, hq, qu, hf, fr⟩ := by rw [hwA]; exact UB.new w ⟨sc, hh, ho, pa, hq, qu, hf, fr⟩
  have sA : wA.heap.size = w.heap.size + 1 := by rw [hwA]; simp
  obtain ⟨W, hW⟩ : ∃ W, W = wA.alloc (.cells #[str sc, str ho, str pa, str qu, str fr] 9) := ⟨_, rfl⟩
  have hbW : Below wA.heap.size wA W := by rw [hW]; exact (Below.refl _ wA).alloc (Nat.le_refl _) _
  have hu : UB W w.heap.size ⟨sc, hh, ho, pa, hq, qu, hf, fr⟩ := hux.below hbW
  have hbel : Below w.heap.size w W := hbA.trans (hbW.mono hbA.size)
  have hc : W.cell? ⟨w.heap.size + 1, 0, none⟩ = some (str sc) ∧ W.cell? ⟨w.heap.size + 1, 1, none⟩ = some (str ho) ∧ W.cell? ⟨w.heap.size + 1, 2, none⟩ = some (str pa) ∧ W.cell? ⟨w.heap.size + 1, 3, none⟩ = some (str qu) ∧ W.cell? ⟨w.heap.size + 1, 4, none⟩ = some (str fr) := by
    have h := heap_alloc_new wA (.cells #[str sc, str ho, str pa, str qu, str fr] 9)
    rw [← hW, sA] at h
    refine ⟨?_, ?_, ?_, ?_, ?_⟩ <;> (unfold World.cell?; rw [h]; rfl)
  have hWW : W = (w.alloc (.cells #[str sc, .bool hh, str ho, str pa, .bool hq, str qu, .bool hf, str fr] 66)).alloc (.cells #[str sc, str ho, str pa, str qu, str fr] 9) := by rw [hW, hwA]
  clear hwA hbA hux sA hW hbW
  obtain ⟨R, hR⟩ : ∃ R, R = checkU ⟨sc, hh, ho, pa, hq, qu, hf, fr⟩ := ⟨_, rfl⟩
  rw [← hR]
  have HR := Lib.hid hR
  have HM := Lib.hid hM
  clear hR hM
  obtain ⟨k0, k1, k2, k3, k4⟩ := hc
  go_enter Tryz.func209, Tryz.ntmps209
  go_wp2_with fail
  rw [← hWW]
  clear hWW
  go_loopw [18] (fun iv wr => ∃ i : Nat, i ≤ 5 ∧ iv = .int .i64 i ∧ wr = W ∧ Hid (0 < i → sc.length ≤ 120) ∧ Hid (1 < i → ho.length ≤ 120) ∧ Hid (2 < i → pa.length ≤ 120) ∧ Hid (3 < i → qu.length ≤ 120) ∧ Hid (4 < i → fr.length ≤ 120)) (fun iv _ => 5 - (intOf iv).toNat)
  case atStart => exact ⟨0, by omega, rfl, rfl, fun h => absurd h (by omega), fun h => absurd h (by omega), fun h => absurd h (by omega), fun h => absurd h (by omega), fun h => absurd h (by omega)⟩
  case round =>
    obtain ⟨i, hi, rfl, rfl, g0, g1, g2, g3, g4⟩ := hrel
    rcases (by omega : i = 0 ∨ i = 1 ∨ i = 2 ∨ i = 3 ∨ i = 4 ∨ i = 5) with rfl | rfl | rfl | rfl | rfl | rfl
    · skip
      by_cases hl : 120 < sc.length
      · have d0 : decide (120 < (sc.length : Int)) = true := decide_eq_true (by omega)
        have hlong : checkU ⟨sc, hh, ho, pa, hq, qu, hf, fr⟩ = 2 := check_long (by simp [longU, hl])
        have HL := Lib.hid hlong
        clear hl hlong g0 g1 g2 g3 g4
        go_wp2_with fail
        go_ret
        exact ⟨by rw [HR.out, HL.out]; rfl, hbel⟩
      · have d0 : decide (120 < (sc.length : Int)) = false := decide_eq_false (by omega)
        have HL := Lib.hid (show sc.length ≤ 120 by omega)
        clear hl g0 g1 g2 g3 g4
        go_wp2_with fail
        exact ⟨⟨1, by omega, rfl, trivial, fun _ => HL.out, fun h => absurd h (by omega), fun h => absurd h (by omega), fun h => absurd h (by omega), fun h => absurd h (by omega)⟩, by simp [intOf]⟩
    · skip
      have G0 := Lib.hid (g0.out (by omega))
      by_cases hl : 120 < ho.length
      · have d0 : decide (120 < (ho.length : Int)) = true := decide_eq_true (by omega)
        have hlong : checkU ⟨sc, hh, ho, pa, hq, qu, hf, fr⟩ = 2 := check_long (by simp [longU, hl])
        have HL := Lib.hid hlong
        clear hl hlong g0 g1 g2 g3 g4
        go_wp2_with fail
        go_ret
        exact ⟨by rw [HR.out, HL.out]; rfl, hbel⟩
      · have d0 : decide (120 < (ho.length : Int)) = false := decide_eq_false (by omega)
        have HL := Lib.hid (show ho.length ≤ 120 by omega)
        clear hl g0 g1 g2 g3 g4
        go_wp2_with fail
        exact ⟨⟨2, by omega, rfl, trivial, fun _ => G0.out, fun _ => HL.out, fun h => absurd h (by omega), fun h => absurd h (by omega), fun h => absurd h (by omega)⟩, by simp [intOf]⟩
    · skip
      have G0 := Lib.hid (g0.out (by omega))
      have G1 := Lib.hid (g1.out (by omega))
      by_cases hl : 120 < pa.length
      · have d0 : decide (120 < (pa.length : Int)) = true := decide_eq_true (by omega)
        have hlong : checkU ⟨sc, hh, ho, pa, hq, qu, hf, fr⟩ = 2 := check_long (by simp [longU, hl])
        have HL := Lib.hid hlong
        clear hl hlong g0 g1 g2 g3 g4
        go_wp2_with fail
        go_ret
        exact ⟨by rw [HR.out, HL.out]; rfl, hbel⟩
      · have d0 : decide (120 < (pa.length : Int)) = false := decide_eq_false (by omega)
        have HL := Lib.hid (show pa.length ≤ 120 by omega)
        clear hl g0 g1 g2 g3 g4
        go_wp2_with fail
        exact ⟨⟨3, by omega, rfl, trivial, fun _ => G0.out, fun _ => G1.out, fun _ => HL.out, fun h => absurd h (by omega), fun h => absurd h (by omega)⟩, by simp [intOf]⟩
    · skip
      have G0 := Lib.hid (g0.out (by omega))
      have G1 := Lib.hid (g1.out (by omega))
      have G2 := Lib.hid (g2.out (by omega))
      by_cases hl : 120 < qu.length
      · have d0 : decide (120 < (qu.length : Int)) = true := decide_eq_true (by omega)
        have hlong : checkU ⟨sc, hh, ho, pa, hq, qu, hf, fr⟩ = 2 := check_long (by simp [longU, hl])
        have HL := Lib.hid hlong
        clear hl hlong g0 g1 g2 g3 g4
        go_wp2_with fail
        go_ret
        exact ⟨by rw [HR.out, HL.out]; rfl, hbel⟩
      · have d0 : decide (120 < (qu.length : Int)) = false := decide_eq_false (by omega)
        have HL := Lib.hid (show qu.length ≤ 120 by omega)
        clear hl g0 g1 g2 g3 g4
        go_wp2_with fail
        exact ⟨⟨4, by omega, rfl, trivial, fun _ => G0.out, fun _ => G1.out, fun _ => G2.out, fun _ => HL.out, fun h => absurd h (by omega)⟩, by simp [intOf]⟩
    · skip
      have G0 := Lib.hid (g0.out (by omega))
      have G1 := Lib.hid (g1.out (by omega))
      have G2 := Lib.hid (g2.out (by omega))
      have G3 := Lib.hid (g3.out (by omega))
      by_cases hl : 120 < fr.length
      · have d0 : decide (120 < (fr.length : Int)) = true := decide_eq_true (by omega)
        have hlong : checkU ⟨sc, hh, ho, pa, hq, qu, hf, fr⟩ = 2 := check_long (by simp [longU, hl])
        have HL := Lib.hid hlong
        clear hl hlong g0 g1 g2 g3 g4
        go_wp2_with fail
        go_ret
        exact ⟨by rw [HR.out, HL.out]; rfl, hbel⟩
      · have d0 : decide (120 < (fr.length : Int)) = false := decide_eq_false (by omega)
        have HL := Lib.hid (show fr.length ≤ 120 by omega)
        clear hl g0 g1 g2 g3 g4
        go_wp2_with fail
        exact ⟨⟨5, by omega, rfl, trivial, fun _ => G0.out, fun _ => G1.out, fun _ => G2.out, fun _ => G3.out, fun _ => HL.out⟩, by simp [intOf]⟩
    · have l0 := g0.out (by omega)
      have l1 := g1.out (by omega)
      have l2 := g2.out (by omega)
      have l3 := g3.out (by omega)
      have l4 := g4.out (by omega)
      have hs : checkU ⟨sc, hh, ho, pa, hq, qu, hf, fr⟩ = chkU ⟨sc, hh, ho, pa, hq, qu, hf, fr⟩ := by unfold checkU; rw [if_neg]; simp [longU]; omega
      have hR2 := HR.out.trans hs
      unfold chkU at hR2
      obtain ⟨ok, hok⟩ : ∃ ok, ok = okU ⟨sc, hh, ho, pa, hq, qu, hf, fr⟩ := ⟨_, rfl⟩
      rw [← hok] at hR2
      have KT := Lib.hid (fun X => RText_any sc ho pa qu fr hh hq hf X (by omega) (by omega) (by omega) (by omega) (by omega))
      generalize textU ⟨sc, hh, ho, pa, hq, qu, hf, fr⟩ = tx at hR2 KT
      unfold okU at hok
      simp only at hok
      have kS := fun X => isScheme_any sc X (by unfold maxLen; omega)
      have kH : ∀ X, Calls Tryz.prog 141 #[str ho, .int .u8 33, .int .u8 126, .string ⟨#[34, 60, 62, 92, 94, 96, 123, 124, 125, 47, 63, 35, 65, 66, 67, 68, 69, 70, 71, 72, 73, 74, 75, 76, 77, 78, 79, 80, 81, 82, 83, 84, 85, 86, 87, 88, 89, 90]⟩] X fun e w' => e = .returned (.bool (wordU ho [47, 63, 35] && (ho == lowL ho))) ∧ X = w' := fun X => by
        rw [← between_host]
        exact (between_any ho 33 126 ⟨#[34, 60, 62, 92, 94, 96, 123, 124, 125, 47, 63, 35, 65, 66, 67, 68, 69, 70, 71, 72, 73, 74, 75, 76, 77, 78, 79, 80, 81, 82, 83, 84, 85, 86, 87, 88, 89, 90]⟩ X (by unfold maxLen; omega) (by omega) (by omega)).mono fun _ _ h => ⟨h.1, h.2.symm⟩
      have kP : ∀ X, Calls Tryz.prog 141 #[str pa, .int .u8 33, .int .u8 126, .string ⟨#[34, 60, 62, 92, 94, 96, 123, 124, 125, 63, 35]⟩] X fun e w' => e = .returned (.bool (wordU pa [63, 35])) ∧ X = w' := fun X => by
        rw [← between_path]
        exact (between_any pa 33 126 ⟨#[34, 60, 62, 92, 94, 96, 123, 124, 125, 63, 35]⟩ X (by unfold maxLen; omega) (by omega) (by omega)).mono fun _ _ h => ⟨h.1, h.2.symm⟩
      have kQ : ∀ X, Calls Tryz.prog 141 #[str qu, .int .u8 33, .int .u8 126, .string ⟨#[34, 60, 62, 92, 94, 96, 123, 124, 125, 35]⟩] X fun e w' => e = .returned (.bool (wordU qu [35])) ∧ X = w' := fun X => by
        rw [← between_frag]
        exact (between_any qu 33 126 ⟨#[34, 60, 62, 92, 94, 96, 123, 124, 125, 35]⟩ X (by unfold maxLen; omega) (by omega) (by omega)).mono fun _ _ h => ⟨h.1, h.2.symm⟩
      have kF : ∀ X, Calls Tryz.prog 141 #[str fr, .int .u8 33, .int .u8 126, .string ⟨#[34, 60, 62, 92, 94, 96, 123, 124, 125, 35]⟩] X fun e w' => e = .returned (.bool (wordU fr [35])) ∧ X = w' := fun X => by
        rw [← between_frag]
        exact (between_any fr 33 126 ⟨#[34, 60, 62, 92, 94, 96, 123, 124, 125, 35]⟩ X (by unfold maxLen; omega) (by omega) (by omega)).mono fun _ _ h => ⟨h.1, h.2.symm⟩
      generalize schemeU sc = b0 at kS hok
      obtain ⟨b1, hb1⟩ : ∃ b, b = (wordU ho [47, 63, 35] && (ho == lowL ho)) := ⟨_, rfl⟩
      rw [← Bool.and_assoc (wordU ho [47, 63, 35]), ← hb1] at hok
      rw [← hb1] at kH
      clear hb1
      generalize wordU pa [63, 35] = b2 at kP hok
      generalize wordU qu [35] = b3 at kQ hok
      generalize wordU fr [35] = b4 at kF hok
      have Hok := Lib.hid hok
      have HR2 := Lib.hid hR2
      have KS := Lib.hid kS
      have KH := Lib.hid kH
      have KP := Lib.hid kP
      have KQ := Lib.hid kQ
      have KF := Lib.hid kF
      clear hok hR2 kS kH kP kQ kF hs HR g0 g1 g2 g3 g4 k0 k1 k2 k3 k4
      cases b0
      · skip
        obtain ⟨c0, c1, c2, c3, c4, c5, c6, c7⟩ := hu.box
        go_wp2_with fail
        refine (KS.out _).mono ?_
        rintro e w1 ⟨rfl, hb1⟩
        have hu1 := hu.below hb1
        have hbel1 := hbel.trans (hb1.mono hbel.size)
        clear c0 c1 c2 c3 c4 c5 c6 c7
        obtain ⟨c0, c1, c2, c3, c4, c5, c6, c7⟩ := hu1.box
        clear hb1
        go_wp2_with fail
        go_ret
        exact ⟨by rw [HR2.out, r_one _ (by rw [Hok.out]; simp)]; rfl, hbel1⟩
      cases b1
      · skip
        obtain ⟨c0, c1, c2, c3, c4, c5, c6, c7⟩ := hu.box
        go_wp2_with fail
        refine (KS.out _).mono ?_
        rintro e w1 ⟨rfl, hb1⟩
        have hu1 := hu.below hb1
        have hbel1 := hbel.trans (hb1.mono hbel.size)
        clear c0 c1 c2 c3 c4 c5 c6 c7
        obtain ⟨c0, c1, c2, c3, c4, c5, c6, c7⟩ := hu1.box
        clear hb1
        go_wp2_with fail
        refine (KH.out _).mono ?_
        rintro e wx ⟨rfl, rfl⟩
        go_wp2_with fail
        go_ret
        exact ⟨by rw [HR2.out, r_one _ (by rw [Hok.out]; simp)]; rfl, hbel1⟩
      cases b2
      · skip
        obtain ⟨c0, c1, c2, c3, c4, c5, c6, c7⟩ := hu.box
        go_wp2_with fail
        refine (KS.out _).mono ?_
        rintro e w1 ⟨rfl, hb1⟩
        have hu1 := hu.below hb1
        have hbel1 := hbel.trans (hb1.mono hbel.size)
        clear c0 c1 c2 c3 c4 c5 c6 c7
        obtain ⟨c0, c1, c2, c3, c4, c5, c6, c7⟩ := hu1.box
        clear hb1
        go_wp2_with fail
        refine (KH.out _).mono ?_
        rintro e wx ⟨rfl, rfl⟩
        go_wp2_with fail
        refine (KP.out _).mono ?_
        rintro e wx ⟨rfl, rfl⟩
        go_wp2_with fail
        go_ret
        exact ⟨by rw [HR2.out, r_one _ (by rw [Hok.out]; simp)]; rfl, hbel1⟩
      cases b3
      · skip
        obtain ⟨c0, c1, c2, c3, c4, c5, c6, c7⟩ := hu.box
        go_wp2_with fail
        refine (KS.out _).mono ?_
        rintro e w1 ⟨rfl, hb1⟩
        have hu1 := hu.below hb1
        have hbel1 := hbel.trans (hb1.mono hbel.size)
        clear c0 c1 c2 c3 c4 c5 c6 c7
        obtain ⟨c0, c1, c2, c3, c4, c5, c6, c7⟩ := hu1.box
        clear hb1
        go_wp2_with fail
        refine (KH.out _).mono ?_
        rintro e wx ⟨rfl, rfl⟩
        go_wp2_with fail
        refine (KP.out _).mono ?_
        rintro e wx ⟨rfl, rfl⟩
        go_wp2_with fail
        refine (KQ.out _).mono ?_
        rintro e wx ⟨rfl, rfl⟩
        go_wp2_with fail
        go_ret
        exact ⟨by rw [HR2.out, r_one _ (by rw [Hok.out]; simp)]; rfl, hbel1⟩
      cases b4
      · skip
        obtain ⟨c0, c1, c2, c3, c4, c5, c6, c7⟩ := hu.box
        go_wp2_with fail
        refine (KS.out _).mono ?_
        rintro e w1 ⟨rfl, hb1⟩
        have hu1 := hu.below hb1
        have hbel1 := hbel.trans (hb1.mono hbel.size)
        clear c0 c1 c2 c3 c4 c5 c6 c7
        obtain ⟨c0, c1, c2, c3, c4, c5, c6, c7⟩ := hu1.box
        clear hb1
        go_wp2_with fail
        refine (KH.out _).mono ?_
        rintro e wx ⟨rfl, rfl⟩
        go_wp2_with fail
        refine (KP.out _).mono ?_
        rintro e wx ⟨rfl, rfl⟩
        go_wp2_with fail
        refine (KQ.out _).mono ?_
        rintro e wx ⟨rfl, rfl⟩
        go_wp2_with fail
        refine (KF.out _).mono ?_
        rintro e wx ⟨rfl, rfl⟩
        go_wp2_with fail
        go_ret
        exact ⟨by rw [HR2.out, r_one _ (by rw [Hok.out]; simp)]; rfl, hbel1⟩
      obtain ⟨c0, c1, c2, c3, c4, c5, c6, c7⟩ := hu.box
      go_wp2_with fail
      refine (KS.out _).mono ?_
      rintro e w1 ⟨rfl, hb1⟩
      have hu1 := hu.below hb1
      have hbel1 := hbel.trans (hb1.mono hbel.size)
      clear c0 c1 c2 c3 c4 c5 c6 c7
      obtain ⟨c0, c1, c2, c3, c4, c5, c6, c7⟩ := hu1.box
      clear hb1
      go_wp2_with fail
      refine (KH.out _).mono ?_
      rintro e wx ⟨rfl, rfl⟩
      go_wp2_with fail
      refine (KP.out _).mono ?_
      rintro e wx ⟨rfl, rfl⟩
      go_wp2_with fail
      refine (KQ.out _).mono ?_
      rintro e wx ⟨rfl, rfl⟩
      go_wp2_with fail
      refine (KF.out _).mono ?_
      rintro e wx ⟨rfl, rfl⟩
      go_upto_region 10 with fail
      clear c0 c1 c2 c3 c4 c5 c6 c7 KS KH KP KQ KF hu hbel
      have Hok2 := Lib.hid (show ok = true by rw [Hok.out]; rfl)
      clear Hok
      go_cut [78] (fun s78 wx => s78 = .bool (formA ⟨sc, hh, ho, pa, hq, qu, hf, fr⟩) ∧ wx = w1)
      case first =>
        obtain ⟨c0, c1, c2, c3, c4, c5, c6, c7⟩ := hu1.box
        by_cases e0 : ho = []
        · have d0 : (ho == []) = true := by rw [e0]; rfl
          have E0 := Lib.hid e0
          clear e0
          by_cases e1 : qu = []
          · have d1 : (qu == []) = true := by rw [e1]; rfl
            have E1 := Lib.hid e1
            clear e1
            by_cases e2 : fr = []
            · have d2 : (fr == []) = true := by rw [e2]; rfl
              have E2 := Lib.hid e2
              clear e2
              go_wp2_with fail
              go_meet
              exact ⟨by simp [formA, *], rfl⟩
            · have d2 : (fr == []) = false := by simpa using e2
              have E2 := Lib.hid e2
              clear e2
              obtain ⟨x2, X2⟩ : ∃ q, q = hf := ⟨_, rfl⟩
              cases hf
              · go_wp2_with fail
                go_meet
                exact ⟨by simp [formA, *], rfl⟩
              · skip
                go_wp2_with fail
                go_meet
                exact ⟨by simp [formA, *], rfl⟩
          · have d1 : (qu == []) = false := by simpa using e1
            have E1 := Lib.hid e1
            clear e1
            obtain ⟨x1, X1⟩ : ∃ q, q = hq := ⟨_, rfl⟩
            cases hq
            · go_wp2_with fail
              go_meet
              exact ⟨by simp [formA, *], rfl⟩
            · skip
              by_cases e2 : fr = []
              · have d2 : (fr == []) = true := by rw [e2]; rfl
                have E2 := Lib.hid e2
                clear e2
                go_wp2_with fail
                go_meet
                exact ⟨by simp [formA, *], rfl⟩
              · have d2 : (fr == []) = false := by simpa using e2
                have E2 := Lib.hid e2
                clear e2
                obtain ⟨x2, X2⟩ : ∃ q, q = hf := ⟨_, rfl⟩
                cases hf
                · go_wp2_with fail
                  go_meet
                  exact ⟨by simp [formA, *], rfl⟩
                · skip
                  go_wp2_with fail
                  go_meet
                  exact ⟨by simp [formA, *], rfl⟩
        · have d0 : (ho == []) = false := by simpa using e0
          have E0 := Lib.hid e0
          clear e0
          obtain ⟨x0, X0⟩ : ∃ q, q = hh := ⟨_, rfl⟩
          cases hh
          · go_wp2_with fail
            go_meet
            exact ⟨by simp [formA, *], rfl⟩
          · skip
            by_cases e1 : qu = []
            · have d1 : (qu == []) = true := by rw [e1]; rfl
              have E1 := Lib.hid e1
              clear e1
              by_cases e2 : fr = []
              · have d2 : (fr == []) = true := by rw [e2]; rfl
                have E2 := Lib.hid e2
                clear e2
                go_wp2_with fail
                go_meet
                exact ⟨by simp [formA, *], rfl⟩
              · have d2 : (fr == []) = false := by simpa using e2
                have E2 := Lib.hid e2
                clear e2
                obtain ⟨x2, X2⟩ : ∃ q, q = hf := ⟨_, rfl⟩
                cases hf
                · go_wp2_with fail
                  go_meet
                  exact ⟨by simp [formA, *], rfl⟩
                · skip
                  go_wp2_with fail
                  go_meet
                  exact ⟨by simp [formA, *], rfl⟩
            · have d1 : (qu == []) = false := by simpa using e1
              have E1 := Lib.hid e1
              clear e1
              obtain ⟨x1, X1⟩ : ∃ q, q = hq := ⟨_, rfl⟩
              cases hq
              · go_wp2_with fail
                go_meet
                exact ⟨by simp [formA, *], rfl⟩
              · skip
                by_cases e2 : fr = []
                · have d2 : (fr == []) = true := by rw [e2]; rfl
                  have E2 := Lib.hid e2
                  clear e2
                  go_wp2_with fail
                  go_meet
                  exact ⟨by simp [formA, *], rfl⟩
                · have d2 : (fr == []) = false := by simpa using e2
                  have E2 := Lib.hid e2
                  clear e2
                  obtain ⟨x2, X2⟩ : ∃ q, q = hf := ⟨_, rfl⟩
                  cases hf
                  · go_wp2_with fail
                    go_meet
                    exact ⟨by simp [formA, *], rfl⟩
                  · skip
                    go_wp2_with fail
                    go_meet
                    exact ⟨by simp [formA, *], rfl⟩
      case rest =>
        obtain ⟨rfl, rfl⟩ := hcut
        obtain ⟨pA, hpA⟩ : ∃ q, q = formA ⟨sc, hh, ho, pa, hq, qu, hf, fr⟩ := ⟨_, rfl⟩
        rw [← hpA]
        have HpA := Lib.hid hpA
        clear hpA
        cases pA
        rotate_left
        · go_wp2_with fail
          go_ret
          exact ⟨by rw [HR2.out, r_fourA _ Hok2.out HpA.out.symm]; rfl, hbel1⟩
        obtain ⟨c0, c1, c2, c3, c4, c5, c6, c7⟩ := hu1.box
        cases hh
        · have kP := fun X => HasPrefix_any pa [47, 47] X
          cases hpp : Lib.hasPrefix pa [47, 47]
          · rw [hpp] at kP
            have KP := Lib.hid kP
            have Hpp := Lib.hid hpp
            clear kP hpp
            by_cases hsc : sc = []
            · have esc : (sc == []) = true := by rw [hsc]; rfl
              have Hsc := Lib.hid hsc
              clear hsc
              have hS := fun X h => Split_one pa X h (by omega)
              obtain ⟨x, r, hxr⟩ : ∃ x r, splitC 47 pa = x :: r := by
                cases h : splitC 47 pa with
                | nil => exact absurd h (splitC_ne 47 pa)
                | cons x r => exact ⟨x, r, rfl⟩
              have hxx : x = (Lib.cut pa [47]).1 := by
                have := split_head 47 pa
                rw [hxr] at this
                simp only [List.head?_cons, Option.some.injEq] at this
                rw [this, cut_tw]
              rw [hxr] at hS
              obtain ⟨q, hq2⟩ : ∃ q, q = decide (0 ≤ Lib.indexByte x 58) := ⟨_, rfl⟩
              have kC := fun X => Contains_one x 58 X
              rw [← hq2] at kC
              rw [hxx] at hq2
              have Hq2 := Lib.hid hq2
              have KC := Lib.hid kC
              have HS := Lib.hid hS
              clear kC hS hq2 hxr hxx
              go_wp2_with fail
              refine (KP.out _).mono ?_
              rintro e wP ⟨rfl, rfl⟩
              go_wp2_with fail
              refine (HS.out _ (HM.out.below hbel1)).mono ?_
              rintro e wS ⟨rfl, hwS⟩
              have hN := heap_alloc_new wc (.cells (str x :: r.map str).toArray 9)
              have hbS : Below wc.heap.size wc wS := by rw [hwS]; exact (Below.refl _ wc).alloc (Nat.le_refl _) _
              have hcell : wS.cell? ⟨wc.heap.size, 0, none⟩ = some (str x) := by
                rw [hwS]
                unfold World.cell?
                rw [List.map_cons, hN]
                rfl
              have hpos : (0 : Int) < (((x :: r).length : Nat) : Int) := by rw [List.length_cons]; omega
              have hu2 := hu1.below hbS
              have hbel2 := hbel1.trans (hbS.mono hbel1.size)
              clear hwS hN hbS c0 c1 c2 c3 c4 c5 c6 c7 hu1
              obtain ⟨c0, c1, c2, c3, c4, c5, c6, c7⟩ := hu2.box
              go_wp2_with fail
              refine (KC.out _).mono ?_
              rintro e wC ⟨rfl, rfl⟩
              cases q
              · skip
                have HFB := Lib.hid (show formB (⟨sc, false, ho, pa, hq, qu, hf, fr⟩ : UrlD) = false by unfold formB; rw [if_neg (by simp)]; simp only; rw [Hpp.out, ← Hq2.out]; simp)
                by_cases hT : 120 < tx.length
                · skip
                  have dT : decide (120 < (tx.length : Int)) = true := decide_eq_true (by omega)
                  have HT := Lib.hid hT
                  clear hT
                  go_wp2_with fail
                  refine (KT.out _).mono ?_
                  rintro e wz ⟨rfl, hbz⟩
                  have HB := Lib.hid (hbel2.trans (hbz.mono hbel2.size))
                  clear hbz
                  go_wp2_with fail
                  go_ret
                  exact ⟨by rw [HR2.out, r_two _ Hok2.out HpA.out.symm HFB.out, if_pos HT.out]; rfl, HB.out⟩
                · skip
                  have dT : decide (120 < (tx.length : Int)) = false := decide_eq_false (by omega)
                  have HT := Lib.hid hT
                  clear hT
                  go_wp2_with fail
                  refine (KT.out _).mono ?_
                  rintro e wz ⟨rfl, hbz⟩
                  have HB := Lib.hid (hbel2.trans (hbz.mono hbel2.size))
                  clear hbz
                  go_wp2_with fail
                  go_ret
                  exact ⟨by rw [HR2.out, r_two _ Hok2.out HpA.out.symm HFB.out, if_neg HT.out]; rfl, HB.out⟩
              · go_wp2_with fail
                go_ret
                exact ⟨by rw [HR2.out, r_fourB _ Hok2.out (show formB (⟨sc, false, ho, pa, hq, qu, hf, fr⟩ : UrlD) = true by unfold formB; rw [if_neg (by simp)]; simp only; rw [Hpp.out, ← Hq2.out, Hsc.out]; rfl)]; rfl, hbel2⟩
            · have esc : (sc == []) = false := by simpa using hsc
              have Hesc := Lib.hid esc
              clear hsc
              go_wp2_with fail
              refine (KP.out _).mono ?_
              rintro e wP ⟨rfl, rfl⟩
              have HFB := Lib.hid (show formB (⟨sc, false, ho, pa, hq, qu, hf, fr⟩ : UrlD) = false by unfold formB; rw [if_neg (by simp)]; simp only; rw [Hpp.out, Hesc.out]; rfl)
              by_cases hT : 120 < tx.length
              · skip
                have dT : decide (120 < (tx.length : Int)) = true := decide_eq_true (by omega)
                have HT := Lib.hid hT
                clear hT
                go_wp2_with fail
                refine (KT.out _).mono ?_
                rintro e wz ⟨rfl, hbz⟩
                have HB := Lib.hid (hbel1.trans (hbz.mono hbel1.size))
                clear hbz
                go_wp2_with fail
                go_ret
                exact ⟨by rw [HR2.out, r_two _ Hok2.out HpA.out.symm HFB.out, if_pos HT.out]; rfl, HB.out⟩
              · skip
                have dT : decide (120 < (tx.length : Int)) = false := decide_eq_false (by omega)
                have HT := Lib.hid hT
                clear hT
                go_wp2_with fail
                refine (KT.out _).mono ?_
                rintro e wz ⟨rfl, hbz⟩
                have HB := Lib.hid (hbel1.trans (hbz.mono hbel1.size))
                clear hbz
                go_wp2_with fail
                go_ret
                exact ⟨by rw [HR2.out, r_two _ Hok2.out HpA.out.symm HFB.out, if_neg HT.out]; rfl, HB.out⟩
          · rw [hpp] at kP
            have KP := Lib.hid kP
            have Hpp := Lib.hid hpp
            clear kP hpp
            go_wp2_with fail
            refine (KP.out _).mono ?_
            rintro e wP ⟨rfl, rfl⟩
            go_wp2_with fail
            go_ret
            exact ⟨by rw [HR2.out, r_fourB _ Hok2.out (show formB (⟨sc, false, ho, pa, hq, qu, hf, fr⟩ : UrlD) = true by unfold formB; rw [if_neg (by simp)]; simp only; rw [Hpp.out]; rfl)]; rfl, hbel1⟩
        · by_cases hpa : pa = []
          · have epa : (pa == []) = true := by rw [hpa]; rfl
            have Hpa := Lib.hid hpa
            clear hpa
            have HFB := Lib.hid (show formB (⟨sc, true, ho, pa, hq, qu, hf, fr⟩ : UrlD) = false by unfold formB; rw [if_pos rfl]; simp only; rw [Hpa.out]; rfl)
            by_cases hT : 120 < tx.length
            · skip
              have dT : decide (120 < (tx.length : Int)) = true := decide_eq_true (by omega)
              have HT := Lib.hid hT
              clear hT
              go_wp2_with fail
              refine (KT.out _).mono ?_
              rintro e wz ⟨rfl, hbz⟩
              have HB := Lib.hid (hbel1.trans (hbz.mono hbel1.size))
              clear hbz
              go_wp2_with fail
              go_ret
              exact ⟨by rw [HR2.out, r_two _ Hok2.out HpA.out.symm HFB.out, if_pos HT.out]; rfl, HB.out⟩
            · skip
              have dT : decide (120 < (tx.length : Int)) = false := decide_eq_false (by omega)
              have HT := Lib.hid hT
              clear hT
              go_wp2_with fail
              refine (KT.out _).mono ?_
              rintro e wz ⟨rfl, hbz⟩
              have HB := Lib.hid (hbel1.trans (hbz.mono hbel1.size))
              clear hbz
              go_wp2_with fail
              go_ret
              exact ⟨by rw [HR2.out, r_two _ Hok2.out HpA.out.symm HFB.out, if_neg HT.out]; rfl, HB.out⟩
          · have epa : (pa == []) = false := by simpa using hpa
            have Hpa := Lib.hid hpa
            clear hpa
            have kP := fun X => HasPrefix_any pa [47] X
            cases hpp : Lib.hasPrefix pa [47]
            · rw [hpp] at kP
              have KP := Lib.hid kP
              have H47 := Lib.hid (show ¬ nth pa 0 = 47 from fun e => by rw [prefix_one.2 ⟨Hpa.out, e⟩] at hpp; cases hpp)
              clear kP hpp
              go_wp2_with fail
              refine (KP.out _).mono ?_
              rintro e wP ⟨rfl, rfl⟩
              go_wp2_with fail
              go_ret
              exact ⟨by rw [HR2.out, r_fourB _ Hok2.out (show formB (⟨sc, true, ho, pa, hq, qu, hf, fr⟩ : UrlD) = true by unfold formB; rw [if_pos rfl]; simp [Hpa.out, H47.out])]; rfl, hbel1⟩
            · rw [hpp] at kP
              have KP := Lib.hid kP
              have H47 := Lib.hid (prefix_one.1 hpp).2
              clear kP hpp
              go_wp2_with fail
              refine (KP.out _).mono ?_
              rintro e wP ⟨rfl, rfl⟩
              have HFB := Lib.hid (show formB (⟨sc, true, ho, pa, hq, qu, hf, fr⟩ : UrlD) = false by unfold formB; rw [if_pos rfl]; simp [H47.out])
              by_cases hT : 120 < tx.length
              · skip
                have dT : decide (120 < (tx.length : Int)) = true := decide_eq_true (by omega)
                have HT := Lib.hid hT
                clear hT
                go_wp2_with fail
                refine (KT.out _).mono ?_
                rintro e wz ⟨rfl, hbz⟩
                have HB := Lib.hid (hbel1.trans (hbz.mono hbel1.size))
                clear hbz
                go_wp2_with fail
                go_ret
                exact ⟨by rw [HR2.out, r_two _ Hok2.out HpA.out.symm HFB.out, if_pos HT.out]; rfl, HB.out⟩
              · skip
                have dT : decide (120 < (tx.length : Int)) = false := decide_eq_false (by omega)
                have HT := Lib.hid hT
                clear hT
                go_wp2_with fail
                refine (KT.out _).mono ?_
                rintro e wz ⟨rfl, hbz⟩
                have HB := Lib.hid (hbel1.trans (hbz.mono hbel1.size))
                clear hbz
                go_wp2_with fail
                go_ret
                exact ⟨by rw [HR2.out, r_two _ Hok2.out HpA.out.symm HFB.out, if_neg HT.out]; rfl, HB.out⟩

end Go.Proofs.YtlbdnohnngkapaaGreatDoor
