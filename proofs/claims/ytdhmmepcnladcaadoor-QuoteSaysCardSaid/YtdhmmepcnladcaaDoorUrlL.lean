import Derived.Test.YtdhmmepcnladcaaDoorUrlP
namespace Go.Proofs.YtdhmmepcnladcaaDoor

/-! ### Segments -/
theorem splitC_ne (c : UInt8) : ∀ l, splitC c l ≠ []
  | [] => by simp [splitC]
  | b :: l => by
    unfold splitC
    by_cases h : b = c
    · rw [if_pos h]; simp
    · rw [if_neg h]
      cases h2 : splitC c l <;> simp [consHead]
theorem joinC_cons (c : UInt8) (x y : List UInt8) (r) : joinC c (x :: y :: r) = x ++ c :: joinC c (y :: r) := rfl
theorem joinC_head (c b : UInt8) (x : List UInt8) (r) : joinC c ((b :: x) :: r) = b :: joinC c (x :: r) := by
  cases r <;> rfl
theorem join_split (c : UInt8) : ∀ l, joinC c (splitC c l) = l
  | [] => rfl
  | b :: l => by
    have ih := join_split c l
    have hne := splitC_ne c l
    unfold splitC
    by_cases h : b = c
    · rw [if_pos h]
      cases h2 : splitC c l with
      | nil => exact absurd h2 hne
      | cons x r => rw [h2] at ih; rw [joinC_cons, ih, h]; rfl
    · rw [if_neg h]
      cases h2 : splitC c l with
      | nil => exact absurd h2 hne
      | cons x r => rw [h2] at ih; show joinC c ((b :: x) :: r) = _; rw [joinC_head, ih]
theorem splitC_free (c : UInt8) : ∀ l, ∀ x ∈ splitC c l, c ∉ x
  | [] => by simp [splitC]
  | b :: l => by
    have ih := splitC_free c l
    unfold splitC
    by_cases h : b = c
    · rw [if_pos h]
      intro x hx
      simp only [List.mem_cons] at hx
      rcases hx with rfl | hx
      · simp
      · exact ih x hx
    · rw [if_neg h]
      have hb : c ≠ b := fun e => h e.symm
      cases h2 : splitC c l with
      | nil => simp [consHead, hb]
      | cons x r =>
        rw [h2] at ih
        intro y hy
        simp only [consHead, List.mem_cons] at hy
        rcases hy with rfl | hy
        · simp only [List.mem_cons, not_or]; exact ⟨hb, ih x (by simp)⟩
        · exact ih y (by simp [hy])
theorem splitC_app (c : UInt8) : ∀ (x l : List UInt8), c ∉ x → splitC c (x ++ c :: l) = x :: splitC c l
  | [], l, _ => by simp [splitC]
  | b :: x, l, h => by
    simp only [List.mem_cons, not_or] at h
    have hb : b ≠ c := fun e => h.1 e.symm
    show splitC c (b :: (x ++ c :: l)) = _
    rw [splitC, if_neg hb, splitC_app c x l h.2]
    rfl
theorem splitC_one (c : UInt8) : ∀ (x : List UInt8), c ∉ x → splitC c x = [x]
  | [], _ => rfl
  | b :: x, h => by
    simp only [List.mem_cons, not_or] at h
    have hb : b ≠ c := fun e => h.1 e.symm
    rw [splitC, if_neg hb, splitC_one c x h.2]
    rfl
theorem split_joinC (c : UInt8) : ∀ (L : List (List UInt8)), L ≠ [] → (∀ x ∈ L, c ∉ x) → splitC c (joinC c L) = L
  | [], h, _ => absurd rfl h
  | [x], _, h => splitC_one c x (h x (by simp))
  | x :: y :: r, _, h => by
    rw [joinC_cons, splitC_app c x _ (h x (by simp)), split_joinC c (y :: r) (by simp) (fun z hz => h z (by simp only [List.mem_cons] at hz ⊢; exact .inr hz))]

/-! ### Dots -/
def Good (L : List (List UInt8)) : Prop := ∀ x ∈ L, (47 : UInt8) ∉ x ∧ isDot x = false
theorem Good.app {a b : List (List UInt8)} (h1 : Good a) (h2 : Good b) : Good (a ++ b) := by
  intro x hx
  rcases List.mem_append.1 hx with h | h
  · exact h1 x h
  · exact h2 x h
theorem Good.pop {a : List (List UInt8)} (h : Good a) : Good (popU a) := by
  unfold popU
  split
  · intro x hx; exact h x ((List.dropLast_sublist _).subset hx)
  · exact h
theorem good_nil1 : Good [[]] := by intro x hx; simp at hx; subst hx; exact ⟨by simp, rfl⟩
theorem Good.step {last : Bool} {out : List (List UInt8)} {s : List UInt8} (h : Good out) (hs : (47 : UInt8) ∉ s) : Good (dotStep last out s) := by
  unfold dotStep
  by_cases h1 : s = [46]
  · rw [if_pos h1]
    cases last
    · exact h
    · exact h.app good_nil1
  · rw [if_neg h1]
    by_cases h2 : s = [46, 46]
    · rw [if_pos h2]
      cases last
      · exact h.pop
      · exact h.pop.app good_nil1
    · rw [if_neg h2]
      refine h.app ?_
      intro x hx
      simp only [List.mem_singleton] at hx
      subst hx
      refine ⟨hs, ?_⟩
      unfold isDot
      rw [Bool.or_eq_false_iff, beq_eq_false_iff_ne, beq_eq_false_iff_ne]
      exact ⟨h1, h2⟩
theorem dotsF_good : ∀ (L out : List (List UInt8)), (∀ x ∈ L, (47 : UInt8) ∉ x) → Good out → Good (dotsF L out)
  | [], _, _, h => h
  | s :: r, out, hL, h => by
    unfold dotsF
    exact dotsF_good r _ (fun x hx => hL x (by simp [hx])) (h.step (hL s (by simp)))
theorem dotsF_same : ∀ (L out : List (List UInt8)), (∀ x ∈ L, isDot x = false) → dotsF L out = out ++ L
  | [], out, _ => by simp [dotsF]
  | s :: r, out, h => by
    have hs := h s (by simp)
    unfold isDot at hs
    rw [Bool.or_eq_false_iff, beq_eq_false_iff_ne, beq_eq_false_iff_ne] at hs
    unfold dotsF dotStep
    rw [if_neg hs.1, if_neg hs.2, dotsF_same r _ (fun x hx => h x (by simp [hx]))]
    simp
theorem good_split_join {L : List (List UInt8)} (h : Good L) : ∀ x ∈ splitC 47 (joinC 47 L), isDot x = false := by
  cases L with
  | nil => intro x hx; simp [joinC, splitC] at hx; subst hx; rfl
  | cons a r =>
    rw [split_joinC 47 (a :: r) (by simp) (fun x hx => (h x hx).1)]
    exact fun x hx => (h x hx).2
/-- No dots are left to go. -/
theorem dots_free (p : List UInt8) : ∀ x ∈ splitC 47 (dotsU p), isDot x = false := by
  unfold dotsU
  by_cases hp : p = []
  · rw [if_pos hp]; intro x hx; simp [splitC] at hx; subst hx; rfl
  · rw [if_neg hp]
    have hg : Good (dotsF (splitC 47 p) []) := dotsF_good _ _ (splitC_free 47 p) (by intro x hx; cases hx)
    have h1 := good_split_join hg
    unfold slashU
    split
    · show ∀ x ∈ splitC 47 ([] ++ 47 :: _), _
      rw [splitC_app 47 [] _ (by simp)]
      intro x hx
      simp only [List.mem_cons] at hx
      rcases hx with rfl | hx
      · rfl
      · exact h1 x hx
    · exact h1
theorem dots_same {p : List UInt8} (h : ∀ x ∈ splitC 47 p, isDot x = false) : dotsU p = p := by
  unfold dotsU
  by_cases hp : p = []
  · rw [if_pos hp, hp]
  · rw [if_neg hp, dotsF_same _ _ h, List.nil_append, join_split]
    unfold slashU
    rw [if_neg]
    simp

/-! ### What is led to -/
theorem undot_path (o : UrlD) : (undotU o).hasHost = o.hasHost ∧ (undotU o).scheme = o.scheme ∧ (undotU o).hasFrag = o.hasFrag ∧ (undotU o).frag = o.frag := by
  unfold undotU; split <;> exact ⟨rfl, rfl, rfl, rfl⟩
theorem undot_free {o : UrlD} (h : Lib.hasPrefix (undotU o).path [47] = true) : ∀ x ∈ splitC 47 (undotU o).path, isDot x = false := by
  unfold undotU at h ⊢
  by_cases hc : (o.hasHost || Lib.hasPrefix o.path [47]) = true
  · rw [if_pos hc]; exact dots_free _
  · rw [if_neg hc] at h
    rw [Bool.or_eq_true, not_or] at hc
    exact absurd h hc.2
theorem prefix_one {p : List UInt8} : Lib.hasPrefix p [47] = true ↔ p ≠ [] ∧ nth p 0 = 47 := by
  cases p with
  | nil => simp [Lib.hasPrefix, List.isPrefixOf]
  | cons a r =>
    have : nth (a :: r) 0 = a.toNat := rfl
    rw [this]
    simp only [Lib.hasPrefix, List.isPrefixOf, Bool.and_true, beq_iff_eq, ne_eq, reduceCtorEq, not_false_eq_true, true_and]
    constructor
    · intro h; rw [← h]; rfl
    · intro h; exact (UInt8.toNat_inj.1 h).symm
theorem led_scheme {b u : UrlD} (h : b.scheme ≠ []) : (ledU b u).scheme ≠ [] ∧ (ledU b u).hasFrag = u.hasFrag ∧ (ledU b u).frag = u.frag := by
  unfold ledU
  by_cases h1 : u.scheme ≠ []
  · rw [if_pos h1]; exact ⟨h1, rfl, rfl⟩
  · rw [if_neg h1]
    split
    · exact ⟨h, rfl, rfl⟩
    · split
      · split <;> exact ⟨h, rfl, rfl⟩
      · split <;> exact ⟨h, rfl, rfl⟩
theorem lead_parts {b u x : UrlD} (h : leadU b u = (x, 0)) : checkU b = 0 ∧ checkU u = 0 ∧ b.scheme ≠ [] ∧ x = undotU (ledU b u) ∧ checkU x = 0 := by
  unfold leadU at h
  by_cases h1 : checkU b ≠ 0
  · rw [if_pos h1] at h; injection h with _ h; exact absurd h h1
  · rw [if_neg h1] at h
    by_cases h2 : checkU u ≠ 0
    · rw [if_pos h2] at h; injection h with _ h; exact absurd h h2
    · rw [if_neg h2] at h
      by_cases h3 : b.scheme = []
      · rw [if_pos h3] at h; injection h with _ h; cases h
      · rw [if_neg h3] at h
        unfold endU at h
        by_cases h4 : (!(undotU (ledU b u)).hasHost && Lib.hasPrefix (undotU (ledU b u)).path [47, 47]) = true
        · rw [if_pos h4] at h; injection h with _ h; cases h
        · rw [if_neg h4] at h
          by_cases h5 : checkU (undotU (ledU b u)) = 0
          · rw [if_pos h5] at h
            injection h with h _
            subst h
            exact ⟨by omega, by omega, h3, rfl, h5⟩
          · rw [if_neg h5] at h; injection h with _ h; exact absurd h h5
theorem end_same {x : UrlD} (h : checkU x = 0) : endU x = (x, 0) := by
  obtain ⟨_, _, _, h1, _⟩ := check_ok h
  unfold endU
  rw [if_neg, if_pos h]
  intro hc
  rw [Bool.and_eq_true, Bool.not_eq_true'] at hc
  unfold formB at h1
  rw [hc.1] at h1
  simp only [Bool.false_eq_true, if_false, Bool.or_eq_false_iff] at h1
  rw [h1.1] at hc
  exact absurd hc.2 (by simp)
theorem undot_same {x : UrlD} (h : checkU x = 0) (hf : Lib.hasPrefix x.path [47] = true → ∀ s ∈ splitC 47 x.path, isDot s = false) : undotU x = x := by
  obtain ⟨_, _, _, h1, _⟩ := check_ok h
  unfold undotU
  by_cases hp : Lib.hasPrefix x.path [47] = true
  · rw [dots_same (hf hp)]; split <;> rfl
  · cases hh : x.hasHost
    · rw [if_neg]
      rw [Bool.not_eq_true] at hp
      simp [hp]
    · unfold formB at h1
      rw [hh] at h1
      simp only [if_true, Bool.and_eq_false_iff, Bool.not_eq_false', beq_iff_eq] at h1
      have he : x.path = [] := by
        rcases h1 with h1 | h1
        · exact h1
        · by_cases e : x.path = []
          · exact e
          · exact absurd (prefix_one.2 ⟨e, h1⟩) hp
      rw [he]
      have : dotsU [] = x.path := by rw [he]; rfl
      rw [this, ← hh]
      split <;> rfl
/-- What is led to leads to itself from anywhere. -/
theorem lead_self {b u c x : UrlD} (h : leadU b u = (x, 0)) (hc : checkU c = 0) (hs : c.scheme ≠ []) : leadU c x = (x, 0) := by
  obtain ⟨_, _, hb, hx, hk⟩ := lead_parts h
  have hxs : x.scheme ≠ [] := by rw [hx, (undot_path _).2.1]; exact (led_scheme hb).1
  unfold leadU
  rw [if_neg (by omega), if_neg (by omega), if_neg hs]
  have : ledU c x = x := by unfold ledU; rw [if_pos hxs]
  rw [this, undot_same hk (by rw [hx]; exact undot_free), end_same hk]
def noFrag (x : UrlD) : UrlD := { x with hasFrag := false, frag := [] }
theorem check_noFrag {x : UrlD} (h : checkU x = 0) : checkU (noFrag x) = 0 := by
  obtain ⟨h1, h2, h3, h4, h5⟩ := check_ok h
  obtain ⟨k0, k1, k2, k3, k4, k5⟩ := ok_parts h2
  have e1 : longU (noFrag x) = false := by
    unfold longU at h1 ⊢
    simp only [Bool.or_eq_false_iff] at h1 ⊢
    refine ⟨⟨⟨⟨h1.1.1.1.1, h1.1.1.1.2⟩, h1.1.1.2⟩, h1.1.2⟩, by simp [noFrag]⟩
  have e2 : okU (noFrag x) = true := by
    unfold okU at h2 ⊢
    simp only [Bool.and_eq_true] at h2 ⊢
    exact ⟨h2.1, h2.2.1, h2.2.2.1, h2.2.2.2.1, h2.2.2.2.2.1, rfl⟩
  have e3 : formA (noFrag x) = false := by
    unfold formA at h3 ⊢
    simp only [Bool.or_eq_false_iff] at h3 ⊢
    exact ⟨⟨h3.1.1, h3.1.2⟩, rfl⟩
  have e4 : formB (noFrag x) = false := h4
  have e5 : (textU (noFrag x)).length ≤ 120 := by
    refine Nat.le_trans ?_ h5
    unfold textU noFrag
    simp only [List.length_append]
    simp
  unfold checkU chkU
  rw [e1, e2, e3, e4]
  simp only [Bool.false_eq_true, if_false, Bool.true_eq_false, Bool.or_self]
  rw [if_neg (by omega)]
theorem lead_none {b u x : UrlD} (h : leadU b u = (x, 0)) : leadU x zeroU = (noFrag x, 0) := by
  obtain ⟨_, _, hb, hx, hk⟩ := lead_parts h
  have hxs : x.scheme ≠ [] := by rw [hx, (undot_path _).2.1]; exact (led_scheme hb).1
  unfold leadU
  have hz : checkU zeroU = 0 := by decide
  rw [if_neg (by omega), if_neg (by omega), if_neg hxs]
  have : ledU x zeroU = noFrag x := rfl
  rw [this, undot_same (check_noFrag hk) (by show Lib.hasPrefix x.path [47] = true → ∀ s ∈ splitC 47 x.path, isDot s = false; rw [hx]; exact undot_free), end_same (check_noFrag hk)]
/-- What has a path from the root leads to it, whatever path stands there. -/
theorem lead_paths {b u x y : UrlD} {p : List UInt8} (h : leadU b u = (x, 0)) (h2 : leadU { b with path := p, hasQuery := false, query := [] } u = (y, 0)) (hc : u.hasHost = true ∨ Lib.hasPrefix u.path [47] = true ∨ u.scheme ≠ []) : x = y := by
  obtain ⟨_, _, _, hx, _⟩ := lead_parts h
  obtain ⟨_, _, _, hy, _⟩ := lead_parts h2
  rw [hx, hy]
  congr 1
  unfold ledU
  by_cases h1 : u.scheme ≠ []
  · rw [if_pos h1, if_pos h1]
  · rw [if_neg h1, if_neg h1]
    cases hh : u.hasHost
    · rw [hh] at hc
      simp only [Bool.false_eq_true, false_or, h1, or_false] at hc
      have := prefix_one.1 hc
      simp only [Bool.false_eq_true, if_false]
      rw [if_neg this.1, if_neg this.1, if_pos this.2, if_pos this.2]
    · simp
end Go.Proofs.YtdhmmepcnladcaaDoor
