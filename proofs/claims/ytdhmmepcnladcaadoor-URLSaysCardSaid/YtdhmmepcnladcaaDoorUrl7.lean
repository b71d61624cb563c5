import Derived.Test.YtdhmmepcnladcaaDoorUrl2
import Derived.Test.YtdhmmepcnladcaaDoorUrlW
import Derived.Test.YtdhmmepcnladcaaDoorMaxL
namespace Go.Proofs.YtdhmmepcnladcaaDoor
open Go.RowKit

/-! ### What dots makes is no longer than what it gets -/
def wtU (L : List (List UInt8)) : Nat := (L.map (fun x => x.length + 1)).sum
theorem wtU_app (a b : List (List UInt8)) : wtU (a ++ b) = wtU a + wtU b := by simp [wtU]
theorem wtU_pop (a : List (List UInt8)) : wtU (popU a) ≤ wtU a := by
  unfold popU
  split
  · rcases List.eq_nil_or_concat a with h | ⟨x, y, h⟩
    · rw [h]; simp
    · rw [h, List.concat_eq_append, List.dropLast_concat, wtU_app]; omega
  · exact Nat.le_refl _
theorem wtU_step (last : Bool) (out : List (List UInt8)) (s : List UInt8) : wtU (dotStep last out s) ≤ wtU out + (s.length + 1) := by
  have h1 : wtU [[]] = 1 := rfl
  have hp := wtU_pop out
  unfold dotStep
  split
  · cases last
    · simp only [Bool.false_eq_true, if_false]; omega
    · simp only [if_true]; rw [wtU_app]; omega
  · split
    · cases last
      · simp only [Bool.false_eq_true, if_false]; omega
      · simp only [if_true]; rw [wtU_app]; omega
    · rw [wtU_app]; simp [wtU]
theorem wtU_dots : ∀ (L out : List (List UInt8)), wtU (dotsF L out) ≤ wtU L + wtU out
  | [], out => by simp [dotsF]
  | s :: r, out => by
    have := wtU_dots r (dotStep r.isEmpty out s)
    have h2 := wtU_step r.isEmpty out s
    unfold dotsF
    have h3 : wtU (s :: r) = (s.length + 1) + wtU r := by simp [wtU]
    omega
theorem joinC_wt (c : UInt8) : ∀ L : List (List UInt8), L ≠ [] → (joinC c L).length + 1 = wtU L
  | [], h => absurd rfl h
  | [x], _ => by simp [joinC, wtU]
  | x :: y :: r, _ => by
    have := joinC_wt c (y :: r) (by simp)
    rw [joinC_cons]
    have h3 : wtU (x :: y :: r) = (x.length + 1) + wtU (y :: r) := by simp [wtU]
    simp only [List.length_append, List.length_cons]
    omega
theorem joinC_le (c : UInt8) (L : List (List UInt8)) : (joinC c L).length ≤ wtU L := by
  by_cases h : L = []
  · rw [h]; simp [joinC]
  · have := joinC_wt c L h; omega
theorem dots_wt (p : List UInt8) : (joinC 47 (dotsF (splitC 47 p) [])).length ≤ p.length + 1 := by
  have h1 := joinC_le 47 (dotsF (splitC 47 p) [])
  have h2 := wtU_dots (splitC 47 p) []
  have h3 := joinC_wt 47 (splitC 47 p) (splitC_ne 47 p)
  rw [join_split] at h3
  have : wtU [] = 0 := rfl
  omega
theorem pop_len (out : List (List UInt8)) : (popU out).length ≤ out.length := by
  unfold popU; split
  · simp
  · exact Nat.le_refl _
theorem popU_yes {out : List (List UInt8)} (h : 1 < out.length ∨ (out.length = 1 ∧ out.head? ≠ some [])) : popU out = out.take (out.length - 1) := by
  unfold popU; rw [if_pos h, List.dropLast_eq_take]

/-! ### Own rows, shortened -/
theorem own_shrink {w : World} {base : Nat} {e : TypeId} {size : Nat} {S : Option Addr} {n c k : Nat} {xs : List Value} (h : w.ownsRow base e size (.slice S n c) n xs) (hk : k ≤ n) : w.ownsRow base e size (.slice S k c) k (xs.take (k * size)) := by
  refine ⟨by rw [List.length_take, h.1]; exact Nat.min_eq_left (Nat.mul_le_mul_right _ hk), ?_⟩
  rcases h.2 with ⟨hv, h0⟩ | ⟨g, cap, cur, hv, hb, hh, hnc, hm, hs, ht⟩
  · injection hv with h1 h2 h3
    subst h1; subst h3
    left
    have : k = 0 := by omega
    subst this
    exact ⟨rfl, rfl⟩
  · injection hv with h1 h2 h3
    subst h1; subst h3
    right
    refine ⟨g, c, cur, rfl, hb, hh, by omega, hm, hs, ?_⟩
    rw [← ht, List.take_take]
    congr 1
    exact (Nat.min_eq_left (Nat.mul_le_mul_right _ hk)).symm
theorem cutA_zero {w : World} {base : Nat} {e : TypeId} {size : Nat} {S : Option Addr} {n c : Nat} {xs : List Value} (h : w.ownsRow base e size (.slice S n c) n xs) : cutA S c 0 1 = S := by
  unfold cutA
  split
  · rfl
  · rcases h.2 with ⟨hv, h0⟩ | ⟨g, cap, cur, hv, _⟩
    · injection hv with h1 _ _; subst h1; rfl
    · injection hv with h1 _ _; subst h1; rfl
theorem infoStrU : (Tryd.prog.info? 9).map (fun i => (i.zero, i.size, i.bytes)) = some (some (.string ⟨#[]⟩), 1, 16) := by kernel_rfl
theorem one_str (L : List (List UInt8)) : ∀ u ∈ L.map str, u.oneCell' = true := by
  intro u hu; simp only [List.mem_map] at hu; obtain ⟨x, _, rfl⟩ := hu; rfl
theorem Split_one (l : List UInt8) (w : World) (hM : MaxLenOk w) (hl : l.length ≤ 1000000) : Calls Tryd.prog 119 #[str l, .string ⟨#[47]⟩] w fun e w' => e = .returned (.slice (some ⟨w.heap.size, 0, none⟩) (splitC 47 l).length (splitC 47 l).length) ∧ w' = w.alloc (.cells ((splitC 47 l).map str).toArray 9) := by
  obtain ⟨m, hm⟩ := hM
  have hsz : (⟨l.toArray⟩ : ByteArray).size = l.length := by simp [ByteArray.size]
  refine (Go.Proofs.Tryd.strings_Split ⟨l.toArray⟩ ⟨#[47]⟩ m w (by rw [hsz]; omega) hm (by decide)).mono ?_
  rintro e w' ⟨rfl, rfl⟩
  obtain ⟨h1, h2⟩ := splitB_split 47 l
  rw [h1, h2]
  exact ⟨rfl, rfl⟩
theorem Join_any (L : List (List UInt8)) (S : Option Addr) (c : Nat) (w : World) (base : Nat) (ho : w.ownsRow base 9 1 (.slice S L.length c) L.length (L.map str)) (hN : L.length ≤ 1000000) (hl : (joinC 47 L).length ≤ 1000000) :
    Calls Tryd.prog 123 #[.slice S L.length c, .string ⟨#[47]⟩] w fun e w' => e = .returned (str (joinC 47 L)) ∧ Below w.heap.size w w' := by
  rcases Nat.eq_zero_or_pos L.length with h0 | h0
  · have : L = [] := List.eq_nil_of_length_eq_zero h0
    subst this
    refine (Go.Proofs.Tryd.strings_Join_none S c ⟨#[47]⟩ w).mono ?_
    rintro e w' ⟨rfl, rfl⟩
    exact ⟨rfl, Below.refl _ _⟩
  · have hc := own_cap ho
    obtain ⟨b, off, hS, hb, hcell⟩ := (Sl.of_own ho).2 h0
    subst hS
    have hd : (L.map (fun l => (⟨l.toArray⟩ : ByteArray))).map (·.data.toList) = L := by
      rw [List.map_map]
      conv => rhs; rw [← List.map_id L]
      exact List.map_congr_left fun x _ => rfl
    have hj : Lib.join ((L.map (fun l => (⟨l.toArray⟩ : ByteArray))).map (·.data.toList)) (⟨#[47]⟩ : ByteArray).data.toList = joinC 47 L := by
      rw [hd]; exact join_joinC 47 L
    have h := Go.Proofs.Tryd.strings_Join b off c (L.map fun l => (⟨l.toArray⟩ : ByteArray)) ⟨#[47]⟩ w (fun j x hx => by
      rw [List.getElem?_map] at hx
      cases hg : L[j]? with
      | none => rw [hg] at hx; cases hx
      | some y =>
        rw [hg] at hx
        simp only [Option.map_some, Option.some.injEq] at hx
        rw [← hx]
        exact hcell j (str y) (by rw [List.getElem?_map, hg]; rfl)) hb (by rw [List.length_map]; omega) (by rw [List.length_map]; exact hc) (by rw [hj]; omega)
    rw [hj, List.length_map] at h
    exact h
theorem upto_str (w : World) (A : Option Addr) (n c : Nat) (ki : IntKind) (k : Int) (h0 : 0 ≤ k) (h1 : k ≤ n) (hc : n ≤ c) :
    (Instr.slice 41 (.slice A n c) none (some (.int ki k)) none).run Tryd.prog w = .ok (.slice (cutA A c 0 1) k.toNat c) w :=
  run_upto w _ _ 1 Tryd.underlying41 (Tryd.sizeOf9 w) A n c ki k h0 h1 hc
attribute [local go_sem high] upto_str
def DotRel (w1 : World) (R : List (List UInt8)) (L : List (List UInt8)) (s3 iv : Value) (wr : World) : Prop :=
  ∃ (i : Nat) (out : List (List UInt8)) (S : Option Addr) (c : Nat), iv = .int .i64 i ∧ i ≤ L.length ∧ s3 = .slice S out.length c ∧ out.length ≤ i ∧ wr.ownsRow w1.heap.size 9 1 (.slice S out.length c) out.length (out.map str) ∧ Below w1.heap.size w1 wr ∧ Hid (dotsF (L.drop i) out = R)
set_option maxRecDepth 100000 in
set_option maxHeartbeats 4000000 in
theorem dots_any (p : List UInt8) (w : World) (hM : MaxLenOk w) (hp : p.length ≤ 1000) : Calls Tryd.prog 112 #[str p] w fun e w' => e = .returned (str (dotsU p)) ∧ Below w.heap.size w w' := by
  obtain ⟨i0, hi0, hz0, hz1, hz2⟩ := info_parts infoStrU
  by_cases h0 : p = []
  · subst h0
    go_enter Tryd.func112, Tryd.ntmps112
    go_wp2_with fail
    go_ret
    exact ⟨rfl, Below.refl _ _⟩
  · have e0 : (p == []) = false := by simpa using h0
    have hS := Split_one p w hM (by omega)
    have hLl := splitC_len 47 p
    obtain ⟨R, hR⟩ : ∃ R, R = dotsF (splitC 47 p) [] := ⟨_, rfl⟩
    have hRl := dots_wt p
    have hD : dotsU p = slashU p (joinC 47 R) := by unfold dotsU; rw [if_neg h0, hR]
    rw [hD]
    rw [← hR] at hRl
    obtain ⟨X, hX⟩ : ∃ X, X = slashU p (joinC 47 R) := ⟨_, rfl⟩
    rw [← hX]
    have HX0 := Lib.hid hX
    clear hX
    have HR := Lib.hid hR
    clear hR hD h0
    generalize splitC 47 p = L at hS hLl HR
    obtain ⟨N, hN⟩ : ∃ N, N = L.length := ⟨_, rfl⟩
    rw [← hN] at hS hLl
    have HN := Lib.hid hN
    obtain ⟨w1, hw1⟩ : ∃ w1, w1 = w.alloc (.cells (L.map str).toArray 9) := ⟨_, rfl⟩
    rw [← hw1] at hS
    have hb1 : Below w.heap.size w w1 := by rw [hw1]; exact (Below.refl _ w).alloc (Nat.le_refl _) _
    have hsz1 : w1.heap.size = w.heap.size + 1 := by rw [hw1]; simp
    have hcell : ∀ j, (hj : j < N) → w1.cell? ⟨w.heap.size, j, none⟩ = some (str (L[j]'(by rw [← HN.out]; exact hj))) := by
      intro j hj
      have hjl : j < L.length := by rw [← HN.out]; exact hj
      unfold World.cell?
      rw [hw1, heap_alloc_new]
      simp [hjl]
    have HS := Lib.hid hS
    have Hcell := Lib.hid hcell
    have Hsz1 := Lib.hid hsz1
    clear hS hcell hsz1 hw1 hN hM
    go_enter Tryd.func112, Tryd.ntmps112
    go_wp2_with fail
    refine HS.out.mono ?_
    rintro e w1 ⟨rfl, rfl⟩
    go_wp2_with fail
    go_loopw [3, 16] (fun s3 iv wr => DotRel w1 R L s3 iv wr) (fun _ iv _ => N - (intOf iv).toNat)
    case atStart => exact ⟨0, [], none, 0, rfl, Nat.zero_le _, rfl, Nat.le_refl _, World.ownsRow_nil _ _ _ _, Below.refl _ _, HR.out.symm⟩
    case round =>
      obtain ⟨i, out, S, c, rfl, hi, rfl, hol, hown, hbel, hD⟩ := hrel
      rw [← HN.out] at hi
      by_cases hiN : i < N
      · have hil : i < L.length := by rw [← HN.out]; exact hiN
        have hcel0 := (hbel.cell (p := ⟨w.heap.size, i, none⟩) (by rw [Hsz1.out]; simp)).trans (Hcell.out i hiN)
        have hstep : dotsF (L.drop (i + 1)) (dotStep (L.drop (i + 1)).isEmpty out (L[i]'hil)) = R := by
          have := hD.out
          rw [List.drop_eq_getElem_cons hil] at this
          exact this
        generalize L[i]'hil = s at hcel0 hstep
        clear hD
        by_cases h1 : s = [46]
        · subst h1
          by_cases hl : i + 1 = N
          · skip
            have hlast : i + 1 = N := hl
            have e7 : ((i : Int) == (N : Int) - 1) = true := by rw [beq_iff_eq]; omega
            have hem : (L.drop (i + 1)).isEmpty = true := by rw [List.drop_of_length_le (by rw [← HN.out]; omega)]; rfl
            rw [hem] at hstep
            clear hem hl hlast
            have Hst : Hid (dotsF (L.drop (i + 1)) (out ++ [[]]) = R) := by
              show _ = R
              rw [← hstep]
              rfl
            clear hstep
            have h63 : out.length + 1 ≤ maxLen := by unfold maxLen; omega
            have h47 : (out.length + 1) * 16 ≤ 140737488355328 := by omega
            go_wp2_with (at_builtin; refine wpList_app rfl _ _ 41 rfl w1.heap.size 9 i0 (.string ⟨#[]⟩) 1 16 Tryd.underlying41 hi0 hz0 hz1 hz2 rfl (by decide) _ out.length _ (out.map str) rfl (hown.alloc _) _ _ 1 1 [str []] rfl (Sl.one _ _ _) (by intro u hu; simp only [List.mem_singleton] at hu; subst hu; rfl) h63 h47 ?c2 ?_)
            case c2 => have := hbel.size; simp; omega
            intro S2 c2 w2 hown2 hb2 _
            have hbel2 := (hbel.alloc hbel.size _).trans hb2
            go_wp2_with fail
            refine ⟨⟨i + 1, out ++ [[]], S2, c2, by go_num, by omega, by rw [List.length_append]; rfl, by rw [List.length_append]; simp only [List.length_nil, List.length_singleton]; omega, by rw [List.length_append, List.map_append]; first | exact hown2 | (rw [List.map_take]; exact hown2), hbel2, Hst.out⟩, by simp [intOf]; omega⟩
          · skip
            have e7 : ((i : Int) == (N : Int) - 1) = false := by rw [beq_eq_false_iff_ne]; omega
            have hem : (L.drop (i + 1)).isEmpty = false := by
              cases h : L.drop (i + 1) with
              | nil => have := congrArg List.length h; rw [List.length_drop, ← HN.out] at this; simp at this; omega
              | cons _ _ => rfl
            rw [hem] at hstep
            clear hem hl
            have Hst : Hid (dotsF (L.drop (i + 1)) out = R) := by
              show _ = R
              rw [← hstep]
              rfl
            clear hstep
            go_wp2_with fail
            refine ⟨⟨i + 1, out, S, c, by go_num, by omega, rfl, by omega, hown, hbel, Hst.out⟩, by simp [intOf]; omega⟩
        · by_cases h2 : s = [46, 46]
          · subst h2
            clear h1
            by_cases hn1 : 1 < out.length
            · skip
              have d1 : decide (1 < (out.length : Int)) = true := decide_eq_true (by omega)
              have hpop : popU out = out.take (out.length - 1) := popU_yes (.inl hn1)
              have hpl : (out.take (out.length - 1)).length = out.length - 1 := by rw [List.length_take]; omega
              have hcap := own_cap hown
              have hownP : wr.ownsRow w1.heap.size 9 1 (.slice (cutA S c 0 1) (out.length - 1) c) (out.length - 1) ((out.take (out.length - 1)).map str) := by
                have h := own_shrink hown (k := out.length - 1) (by omega)
                rw [cutA_zero hown, List.map_take]
                rw [Nat.mul_one] at h
                exact h
              have HP := Lib.hid hpl
              have HO := Lib.hid hpop
              have q1 : (0 : Int) ≤ (out.length : Int) - 1 := by omega
              have q2 : (out.length : Int) - 1 ≤ (out.length : Int) := by omega
              have q4 : ((out.length : Int) - 1).toNat = out.length - 1 := by omega
              have q5 : (1 : Int) ≤ (out.length : Int) := by omega
              by_cases hl : i + 1 = N
              · skip
                have hlast : i + 1 = N := hl
                have e7 : ((i : Int) == (N : Int) - 1) = true := by rw [beq_iff_eq]; omega
                have hem : (L.drop (i + 1)).isEmpty = true := by rw [List.drop_of_length_le (by rw [← HN.out]; omega)]; rfl
                rw [hem] at hstep
                clear hem hl hlast
                have Hst : Hid (dotsF (L.drop (i + 1)) ((out.take (out.length - 1)) ++ [[]]) = R) := by
                  show _ = R
                  rw [← hstep]
                  unfold dotStep
                  rw [if_neg (by decide), if_pos rfl, hpop]
                  rfl
                clear hstep
                have h63 : (out.length - 1) + 1 ≤ maxLen := by unfold maxLen; omega
                have h47 : ((out.length - 1) + 1) * 16 ≤ 140737488355328 := by omega
                go_wp2_with (at_builtin; refine wpList_app rfl _ _ 41 rfl w1.heap.size 9 i0 (.string ⟨#[]⟩) 1 16 Tryd.underlying41 hi0 hz0 hz1 hz2 rfl (by decide) _ (out.length - 1) _ ((out.take (out.length - 1)).map str) rfl (hownP.alloc _) _ _ 1 1 [str []] rfl (Sl.one _ _ _) (by intro u hu; simp only [List.mem_singleton] at hu; subst hu; rfl) h63 h47 ?c2 ?_)
                case c2 => have := hbel.size; simp; omega
                intro S2 c2 w2 hown2 hb2 _
                have hbel2 := (hbel.alloc hbel.size _).trans hb2
                go_wp2_with fail
                refine ⟨⟨i + 1, (out.take (out.length - 1)) ++ [[]], S2, c2, by go_num, by omega, by rw [List.length_append, hpl]; rfl, by rw [List.length_append, hpl]; simp only [List.length_nil, List.length_singleton]; omega, by rw [List.length_append, List.map_append, hpl]; first | exact hown2 | (rw [List.map_take]; exact hown2), hbel2, Hst.out⟩, by simp [intOf]; omega⟩
              · skip
                have e7 : ((i : Int) == (N : Int) - 1) = false := by rw [beq_eq_false_iff_ne]; omega
                have hem : (L.drop (i + 1)).isEmpty = false := by
                  cases h : L.drop (i + 1) with
                  | nil => have := congrArg List.length h; rw [List.length_drop, ← HN.out] at this; simp at this; omega
                  | cons _ _ => rfl
                rw [hem] at hstep
                clear hem hl
                have Hst : Hid (dotsF (L.drop (i + 1)) (out.take (out.length - 1)) = R) := by
                  show _ = R
                  rw [← hstep]
                  unfold dotStep
                  rw [if_neg (by decide), if_pos rfl, hpop]
                  rfl
                clear hstep
                go_wp2_with fail
                refine ⟨⟨i + 1, (out.take (out.length - 1)), cutA S c 0 1, c, by go_num, by omega, by rw [hpl], by (try rw [hpl]); (try simp only [List.length_nil, List.length_singleton]); omega, by (try rw [hpl]); exact hownP, hbel, Hst.out⟩, by simp [intOf]; omega⟩
            · by_cases hn : out.length = 1
              · skip
                obtain ⟨h, rfl⟩ : ∃ h, out = [h] := by
                  match out, hn with
                  | [h], _ => exact ⟨h, rfl⟩
                obtain ⟨g, off, hS, _, hc0⟩ := (Sl.of_own hown).2 (by simp)
                obtain rfl : off = 0 := by
                  rcases hown.2 with ⟨hv, _⟩ | ⟨g', cap', cur', hv, _⟩
                  · injection hv with hv _ _; rw [hS] at hv; cases hv
                  · injection hv with hv _ _; rw [hS] at hv; injection hv with hv; injection hv
                subst hS
                have hcel := hc0 0 (str h) rfl
                rw [Nat.add_zero] at hcel
                clear hc0
                have hcap := own_cap hown
                simp only [List.length_singleton] at hown hol hcap ⊢
                by_cases hh : h = []
                · subst hh
                  have hpop : popU [[]] = [[]] := rfl
                  by_cases hl : i + 1 = N
                  · skip
                    have hlast : i + 1 = N := hl
                    have e7 : ((i : Int) == (N : Int) - 1) = true := by rw [beq_iff_eq]; omega
                    have hem : (L.drop (i + 1)).isEmpty = true := by rw [List.drop_of_length_le (by rw [← HN.out]; omega)]; rfl
                    rw [hem] at hstep
                    clear hem hl hlast
                    have Hst : Hid (dotsF (L.drop (i + 1)) ([[]] ++ [[]]) = R) := by
                      show _ = R
                      rw [← hstep]
                      unfold dotStep
                      rw [if_neg (by decide), if_pos rfl, hpop]
                      rfl
                    clear hstep
                    have h63 : 1 + 1 ≤ maxLen := by unfold maxLen; omega
                    have h47 : (1 + 1) * 16 ≤ 140737488355328 := by omega
                    go_wp2_with (at_builtin; refine wpList_app rfl _ _ 41 rfl w1.heap.size 9 i0 (.string ⟨#[]⟩) 1 16 Tryd.underlying41 hi0 hz0 hz1 hz2 rfl (by decide) _ 1 _ ([str []]) rfl (hown.alloc _) _ _ 1 1 [str []] rfl (Sl.one _ _ _) (by intro u hu; simp only [List.mem_singleton] at hu; subst hu; rfl) h63 h47 ?c2 ?_)
                    case c2 => have := hbel.size; simp; omega
                    intro S2 c2 w2 hown2 hb2 _
                    have hbel2 := (hbel.alloc hbel.size _).trans hb2
                    go_wp2_with fail
                    refine ⟨⟨i + 1, [[]] ++ [[]], S2, c2, by go_num, by omega, by rw [List.length_append]; rfl, by rw [List.length_append]; simp only [List.length_nil, List.length_singleton]; omega, by rw [List.length_append, List.map_append]; first | exact hown2 | (rw [List.map_take]; exact hown2), hbel2, Hst.out⟩, by simp [intOf]; omega⟩
                  · skip
                    have e7 : ((i : Int) == (N : Int) - 1) = false := by rw [beq_eq_false_iff_ne]; omega
                    have hem : (L.drop (i + 1)).isEmpty = false := by
                      cases h : L.drop (i + 1) with
                      | nil => have := congrArg List.length h; rw [List.length_drop, ← HN.out] at this; simp at this; omega
                      | cons _ _ => rfl
                    rw [hem] at hstep
                    clear hem hl
                    have Hst : Hid (dotsF (L.drop (i + 1)) [[]] = R) := by
                      show _ = R
                      rw [← hstep]
                      unfold dotStep
                      rw [if_neg (by decide), if_pos rfl, hpop]
                      rfl
                    clear hstep
                    go_wp2_with fail
                    refine ⟨⟨i + 1, [[]], some ⟨g, 0, none⟩, c, by go_num, by omega, rfl, by (try rw [hpl]); (try simp only [List.length_nil, List.length_singleton]); omega, by (try rw [hpl]); exact hown, hbel, Hst.out⟩, by simp [intOf]; omega⟩
                · have e9 : (h == []) = false := by simpa using hh
                  have hpop : popU [h] = [] := by unfold popU; rw [if_pos (.inr ⟨rfl, by simpa using hh⟩)]; rfl
                  have hownP : wr.ownsRow w1.heap.size 9 1 (.slice (cutA (some ⟨g, 0, none⟩) c 0 1) 0 c) 0 [] := by
                    have h := own_shrink hown (k := 0) (by omega)
                    rw [cutA_zero hown]
                    exact h
                  by_cases hl : i + 1 = N
                  · skip
                    have hlast : i + 1 = N := hl
                    have e7 : ((i : Int) == (N : Int) - 1) = true := by rw [beq_iff_eq]; omega
                    have hem : (L.drop (i + 1)).isEmpty = true := by rw [List.drop_of_length_le (by rw [← HN.out]; omega)]; rfl
                    rw [hem] at hstep
                    clear hem hl hlast
                    have Hst : Hid (dotsF (L.drop (i + 1)) (([] : List (List UInt8)) ++ [[]]) = R) := by
                      show _ = R
                      rw [← hstep]
                      unfold dotStep
                      rw [if_neg (by decide), if_pos rfl, hpop]
                      rfl
                    clear hstep
                    have h63 : 0 + 1 ≤ maxLen := by unfold maxLen; omega
                    have h47 : (0 + 1) * 16 ≤ 140737488355328 := by omega
                    go_wp2_with (at_builtin; refine wpList_app rfl _ _ 41 rfl w1.heap.size 9 i0 (.string ⟨#[]⟩) 1 16 Tryd.underlying41 hi0 hz0 hz1 hz2 rfl (by decide) _ 0 _ ([]) rfl (hownP.alloc _) _ _ 1 1 [str []] rfl (Sl.one _ _ _) (by intro u hu; simp only [List.mem_singleton] at hu; subst hu; rfl) h63 h47 ?c2 ?_)
                    case c2 => have := hbel.size; simp; omega
                    intro S2 c2 w2 hown2 hb2 _
                    have hbel2 := (hbel.alloc hbel.size _).trans hb2
                    go_wp2_with fail
                    refine ⟨⟨i + 1, ([] : List (List UInt8)) ++ [[]], S2, c2, by go_num, by omega, by rw [List.length_append]; rfl, by rw [List.length_append]; simp only [List.length_nil, List.length_singleton]; omega, by rw [List.length_append, List.map_append]; first | exact hown2 | (rw [List.map_take]; exact hown2), hbel2, Hst.out⟩, by simp [intOf]; omega⟩
                  · skip
                    have e7 : ((i : Int) == (N : Int) - 1) = false := by rw [beq_eq_false_iff_ne]; omega
                    have hem : (L.drop (i + 1)).isEmpty = false := by
                      cases h : L.drop (i + 1) with
                      | nil => have := congrArg List.length h; rw [List.length_drop, ← HN.out] at this; simp at this; omega
                      | cons _ _ => rfl
                    rw [hem] at hstep
                    clear hem hl
                    have Hst : Hid (dotsF (L.drop (i + 1)) ([] : List (List UInt8)) = R) := by
                      show _ = R
                      rw [← hstep]
                      unfold dotStep
                      rw [if_neg (by decide), if_pos rfl, hpop]
                      rfl
                    clear hstep
                    go_wp2_with fail
                    refine ⟨⟨i + 1, ([] : List (List UInt8)), cutA (some ⟨g, 0, none⟩) c 0 1, c, by go_num, by omega, rfl, by (try rw [hpl]); (try simp only [List.length_nil, List.length_singleton]); omega, by (try rw [hpl]); exact hownP, hbel, Hst.out⟩, by simp [intOf]; omega⟩
              · skip
                obtain rfl : out = [] := List.eq_nil_of_length_eq_zero (by omega)
                have hpop : popU [] = [] := rfl
                simp only [List.length_nil] at hown hol ⊢
                by_cases hl : i + 1 = N
                · skip
                  have hlast : i + 1 = N := hl
                  have e7 : ((i : Int) == (N : Int) - 1) = true := by rw [beq_iff_eq]; omega
                  have hem : (L.drop (i + 1)).isEmpty = true := by rw [List.drop_of_length_le (by rw [← HN.out]; omega)]; rfl
                  rw [hem] at hstep
                  clear hem hl hlast
                  have Hst : Hid (dotsF (L.drop (i + 1)) (([] : List (List UInt8)) ++ [[]]) = R) := by
                    show _ = R
                    rw [← hstep]
                    unfold dotStep
                    rw [if_neg (by decide), if_pos rfl, hpop]
                    rfl
                  clear hstep
                  have h63 : 0 + 1 ≤ maxLen := by unfold maxLen; omega
                  have h47 : (0 + 1) * 16 ≤ 140737488355328 := by omega
                  go_wp2_with (at_builtin; refine wpList_app rfl _ _ 41 rfl w1.heap.size 9 i0 (.string ⟨#[]⟩) 1 16 Tryd.underlying41 hi0 hz0 hz1 hz2 rfl (by decide) _ 0 _ ([]) rfl (hown.alloc _) _ _ 1 1 [str []] rfl (Sl.one _ _ _) (by intro u hu; simp only [List.mem_singleton] at hu; subst hu; rfl) h63 h47 ?c2 ?_)
                  case c2 => have := hbel.size; simp; omega
                  intro S2 c2 w2 hown2 hb2 _
                  have hbel2 := (hbel.alloc hbel.size _).trans hb2
                  go_wp2_with fail
                  refine ⟨⟨i + 1, ([] : List (List UInt8)) ++ [[]], S2, c2, by go_num, by omega, by rw [List.length_append]; rfl, by rw [List.length_append]; simp only [List.length_nil, List.length_singleton]; omega, by rw [List.length_append, List.map_append]; first | exact hown2 | (rw [List.map_take]; exact hown2), hbel2, Hst.out⟩, by simp [intOf]; omega⟩
                · skip
                  have e7 : ((i : Int) == (N : Int) - 1) = false := by rw [beq_eq_false_iff_ne]; omega
                  have hem : (L.drop (i + 1)).isEmpty = false := by
                    cases h : L.drop (i + 1) with
                    | nil => have := congrArg List.length h; rw [List.length_drop, ← HN.out] at this; simp at this; omega
                    | cons _ _ => rfl
                  rw [hem] at hstep
                  clear hem hl
                  have Hst : Hid (dotsF (L.drop (i + 1)) ([] : List (List UInt8)) = R) := by
                    show _ = R
                    rw [← hstep]
                    unfold dotStep
                    rw [if_neg (by decide), if_pos rfl, hpop]
                    rfl
                  clear hstep
                  go_wp2_with fail
                  refine ⟨⟨i + 1, ([] : List (List UInt8)), S, c, by go_num, by omega, rfl, by (try rw [hpl]); (try simp only [List.length_nil, List.length_singleton]); omega, by (try rw [hpl]); exact hown, hbel, Hst.out⟩, by simp [intOf]; omega⟩
          · have e1 : (s == [46]) = false := by simpa using h1
            have e2 : (s == [46, 46]) = false := by simpa using h2
            have hst : Hid (dotsF (L.drop (i + 1)) (out ++ [s]) = R) := by
              show _ = R
              rw [← hstep]
              unfold dotStep
              rw [if_neg (by simpa using h1), if_neg (by simpa using h2)]
            have Hst := hst
            clear hst hstep
            cases hl : decide (i + 1 = N)
            all_goals
              have e7 : ((i : Int) == (N : Int) - 1) = decide (i + 1 = N) := by rw [Bool.eq_iff_iff, beq_iff_eq, decide_eq_true_eq]; omega
              rw [hl] at e7
              clear hl
              have h63 : out.length + 1 ≤ maxLen := by unfold maxLen; omega
              have h47 : (out.length + 1) * 16 ≤ 140737488355328 := by omega
              go_wp2_with (at_builtin; refine wpList_app rfl _ _ 41 rfl w1.heap.size 9 i0 (.string ⟨#[]⟩) 1 16 Tryd.underlying41 hi0 hz0 hz1 hz2 rfl (by decide) S out.length c (out.map str) rfl (hown.alloc _) _ _ 1 1 [str s] rfl (Sl.one _ _ _) (by intro u hu; simp only [List.mem_singleton] at hu; subst hu; rfl) h63 h47 ?c2 ?_)
              case c2 => have := hbel.size; simp; omega
              intro S2 c2 w2 hown2 hb2 _
              have hbel2 := (hbel.alloc hbel.size _).trans hb2
              go_wp2_with fail
              refine ⟨⟨i + 1, out ++ [s], S2, c2, by go_num, by omega, by rw [List.length_append]; rfl, by rw [List.length_append]; simp only [List.length_nil, List.length_singleton]; omega, by rw [List.length_append, List.map_append]; exact hown2, hbel2, Hst.out⟩, by simp [intOf]; omega⟩
      · obtain rfl : i = N := by omega
        have hRo : R = out := by
          have := hD.out
          rw [List.drop_of_length_le (by rw [← HN.out]; exact Nat.le_refl _)] at this
          exact this.symm
        have hJ := fun W (ho : World.ownsRow W w1.heap.size 9 1 (.slice S out.length c) out.length (out.map str)) => Join_any out S c W _ ho (by omega) (by rw [← hRo]; omega)
        rw [← hRo] at hJ
        have hJ2 := hJ wr (by rw [hRo]; exact hown)
        have hlo : R.length = out.length := by rw [hRo]
        have hbw : Below w.heap.size w wr := hb1.trans (hbel.mono hb1.size)
        have hX := HX0.out
        generalize joinC 47 R = q at hJ2 hRl hX
        rw [hlo] at hJ2
        have HJ := Lib.hid hJ2
        clear hJ hJ2 hRo hlo hD HR
        have k1 := fun W => HasPrefix_any p [47] W
        have k2 := fun W => HasPrefix_any q [47] W
        unfold slashU at hX
        cases hp1 : Lib.hasPrefix p [47]
        · rw [hp1] at k1 hX
          have K1 := Lib.hid k1
          have HX := Lib.hid hX
          clear k1 k2 hX hp1
          go_wp2_with fail
          refine HJ.out.mono ?_
          rintro e w2 ⟨rfl, hb2⟩
          have hbw2 := hbw.trans (hb2.mono hbw.size)
          go_wp2_with fail
          refine (K1.out _).mono ?_
          rintro e w3 ⟨rfl, rfl⟩
          go_wp2_with fail
          go_ret
          exact ⟨by rw [HX.out]; rfl, hbw2⟩
        · rw [hp1] at k1 hX
          cases hq1 : Lib.hasPrefix q [47]
          all_goals
            rw [hq1] at k2 hX
            have K1 := Lib.hid k1
            have K2 := Lib.hid k2
            have HX := Lib.hid hX
            clear k1 k2 hX hp1 hq1
            go_wp2_with fail
            refine HJ.out.mono ?_
            rintro e w2 ⟨rfl, hb2⟩
            have hbw2 := hbw.trans (hb2.mono hbw.size)
            go_wp2_with fail
            refine (K1.out _).mono ?_
            rintro e w3 ⟨rfl, rfl⟩
            go_wp2_with fail
            refine (K2.out _).mono ?_
            rintro e w3 ⟨rfl, rfl⟩
            go_wp2_with fail
            go_ret
            exact ⟨by rw [HX.out]; rfl, hbw2⟩
end Go.Proofs.YtdhmmepcnladcaaDoor
