import Derived.Test.YtoolfhjlhhcbgaaDoorLinkS
namespace Go.Proofs.YtoolfhjlhhcbgaaDoor

theorem tagP_three (r : List UInt8) (shut : Bool) (h : (tagP r shut).1.2 ≠ []) : 3 ≤ (tagP r shut).1.1.length := by
  rcases ha : attrsP ((stopD pName r).length + 1) (stopD pName r) [] with _ | ⟨P, r'⟩
  · rw [tagP_none shut ha] at h; exact absurd rfl h
  · obtain ⟨_, _, h3⟩ := attrsP_app _ _ _ P r' ha
    cases shut with
    | false =>
      rw [tagP_open ha] at h ⊢
      have := h3 h
      simp only [prep, List.length_append]
      omega
    | true => rw [tagP_shut ha] at h; exact absurd rfl h
theorem stepP_three (r : List UInt8) (h : (stepP r).1.2 ≠ []) : 3 ≤ (stepP r).1.1.length := by
  unfold stepP at h ⊢
  split at h
  · exact absurd rfl h
  · rename_i h1
    rw [if_neg h1]
    split at h
    · exact absurd rfl h
    · rename_i h2
      rw [if_neg h2]
      split at h
      · rename_i h3
        rw [if_pos h3]
        have := tagP_three (r.drop 1) false h
        simp only [prep, List.length_append]
        omega
      · rename_i h3
        rw [if_neg h3]
        split at h
        · rename_i h4
          rw [if_pos h4]
          have := tagP_three (r.drop 2) true h
          simp only [prep, List.length_append]
          omega
        · exact absurd rfl h
theorem catP_three (P Q : Pcs) (hP : P.2 ≠ [] → 3 ≤ P.1.length) (hQ : Q.2 ≠ [] → 3 ≤ Q.1.length) (h : (catP P Q).2 ≠ []) : 3 ≤ (catP P Q).1.length := by
  obtain ⟨p, l⟩ := P
  cases l with
  | nil =>
    have h' : Q.2 ≠ [] := h
    have := hQ h'
    show 3 ≤ (p ++ Q.1).length
    rw [List.length_append]; omega
  | cons x l => exact hP (by simp)
theorem findP_three : ∀ (f : Nat) (r : List UInt8) (P : Pcs), findP f r = some P → P.2 ≠ [] → 3 ≤ P.1.length := by
  intro f
  induction f with
  | zero =>
    intro r P h h2
    unfold findP at h
    split at h
    · injection h with h; subst h; exact absurd rfl h2
    · cases h
  | succ f ih =>
    intro r P h h2
    unfold findP at h
    split at h
    · injection h with h; subst h; exact absurd rfl h2
    · obtain ⟨Q, hQ, rfl⟩ := Option.map_eq_some_iff.1 h
      have := catP_three _ Q (stepP_three _) (ih _ Q hQ) h2
      simp only [prep, List.length_append]
      omega
theorem stop_60 (l : List UInt8) (h : stopD (pIs 60) l ≠ []) : ∃ y, stopD (pIs 60) l = 60 :: y := by
  rcases hd : stopD (pIs 60) l with _ | ⟨c, y⟩
  · exact absurd hd h
  · have := stopD_head _ _ _ _ hd
    simp only [pIs, beq_iff_eq] at this
    exact ⟨y, by rw [show c = 60 from UInt8.toNat_inj.1 this]⟩
theorem stepP_nil : stepP [] = (raw [], []) := by
  unfold stepP
  rfl
theorem substL_nil (l : List (List UInt8 × List UInt8)) : substL l [] = [] := by cases l <;> rfl
theorem findP_nil (f : Nat) : findP f [] = some (raw []) := by cases f <;> rfl
/-- A page with other values is read as it was, with these. -/
theorem findP_new : ∀ (f : Nat) (r : List UInt8) (P : Pcs), findP f r = some P → ∀ ts, OkTs P.2 ts → findP f (weave P ts) = some (subst P ts) := by
  intro f
  induction f with
  | zero =>
    intro r P h ts hts
    unfold findP at h
    split at h
    · injection h with h; subst h; cases hts; exact findP_nil 0
    · cases h
  | succ f ih =>
    intro r P h ts hts
    by_cases hr : r = []
    · subst hr
      rw [findP_nil] at h
      injection h with h; subst h; cases hts; exact findP_nil _
    · unfold findP at h
      rw [if_neg hr] at h
      obtain ⟨Q, hQ, rfl⟩ := Option.map_eq_some_iff.1 h
      have hx := stopT_not (pIs 60) r
      have h0 := stop_app (pIs 60) r
      by_cases hs : stopD (pIs 60) r = []
      · rw [hs, stepP_nil] at hQ hts ⊢
        rw [findP_nil] at hQ
        injection hQ with hQ
        subst hQ
        cases hts
        rw [hs, List.append_nil] at h0
        have e : weave (prep (stopT (pIs 60) r) (catP (raw [], ([] : List UInt8)).1 (raw []))) [] = r := by
          simp only [raw, catP, catL, prep, weave, weaveL, List.append_nil]
          exact h0
        rw [e]
        unfold findP
        rw [if_neg hr, hs, stepP_nil, findP_nil]
        rfl
      · obtain ⟨y, hy⟩ := stop_60 r hs
        rw [hy] at hQ hts ⊢
        obtain ⟨t1, t2, rfl, ht1, ht2⟩ := OkTs.split _ _ Q ts hts
        have hl1 := ht1.len
        have e : weave (prep (stopT (pIs 60) r) (catP (stepP (60 :: y)).1 Q)) (t1 ++ t2) = stopT (pIs 60) r ++ (weave (stepP (60 :: y)).1 t1 ++ weave Q t2) := by
          rw [weave_prep, catP_weave _ _ _ _ hl1]
        have hW : (weave Q t2).take 3 = (stepP (60 :: y)).2.take 3 := by
          have h1 := findP_app _ _ Q hQ
          rw [h1]
          cases hq : Q.2 with
          | nil =>
            rw [hq] at ht2
            cases ht2
            simp [weave, vals, hq]
          | cons a l =>
            have := findP_three _ _ Q hQ (by rw [hq]; simp)
            unfold weave
            rw [List.take_append_of_le_length this, List.take_append_of_le_length this]
        obtain ⟨s1, z, s2⟩ := stepP_new y t1 ht1 (weave Q t2) hW
        rw [e, s2]
        have p1 := stopD_pre (pIs 60) (stopT (pIs 60) r) (60 :: z) hx
        have p2 := stopD_at (pIs 60) 60 z (by decide)
        rw [p2.1, p2.2, List.append_nil] at p1
        unfold findP
        rw [if_neg (by simp), p1.1, p1.2, ← s2, s1]
        simp only
        rw [ih _ Q hQ t2 ht2]
        show some (prep _ (catP _ _)) = _
        rw [subst_prep, catP_subst _ _ _ _ hl1]

/-! ### Enough rounds -/
theorem tagP_2_len (r : List UInt8) (shut : Bool) : (tagP r shut).2.length ≤ r.length := by
  have := congrArg List.length (tagP_app r shut)
  rw [List.length_append] at this
  omega
theorem pastL_len (t r : List UInt8) : (pastL t r).length ≤ r.length := (pastL_suffix t r).length_le
theorem stepP_lt (c : UInt8) (r : List UInt8) : (stepP (c :: r)).2.length ≤ r.length := by
  unfold stepP
  split
  · have := pastL_len [45, 45, 62] ((c :: r).drop 4)
    simp only [List.length_drop, List.length_cons] at this ⊢
    omega
  · split
    · show (pastL [62] (c :: r)).length ≤ _
      unfold pastL
      split
      · simp
      · rw [List.length_drop]; simp only [List.length_cons, List.length_nil]; omega
    · split
      · have := tagP_2_len ((c :: r).drop 1) false
        simpa using this
      · split
        · have := tagP_2_len ((c :: r).drop 2) true
          simp only [List.length_drop, List.length_cons] at this ⊢
          omega
        · simp
theorem stepP_round (r : List UInt8) (h : r ≠ []) : (stepP (stopD (pIs 60) r)).2.length < r.length := by
  have hl := stopD_len (pIs 60) r
  have hr : 0 < r.length := by cases r with | nil => exact absurd rfl h | cons a r => simp
  rcases hd : stopD (pIs 60) r with _ | ⟨c, y⟩
  · rw [stepP_nil]; simpa using hr
  · rw [hd] at hl
    have := stepP_lt c y
    simp only [List.length_cons] at hl
    omega
theorem findP_some : ∀ (f : Nat) (r : List UInt8), r.length ≤ f → ∃ P, findP f r = some P ∧ ∀ f', r.length ≤ f' → findP f' r = some P := by
  intro f
  induction f with
  | zero =>
    intro r h
    have : r = [] := List.eq_nil_of_length_eq_zero (by omega)
    subst this
    exact ⟨raw [], rfl, fun f' _ => findP_nil f'⟩
  | succ f ih =>
    intro r h
    by_cases hr : r = []
    · subst hr; exact ⟨raw [], findP_nil _, fun f' _ => findP_nil f'⟩
    · have hlt := stepP_round r hr
      obtain ⟨Q, hQ, hQ2⟩ := ih (stepP (stopD (pIs 60) r)).2 (by omega)
      refine ⟨prep (stopT (pIs 60) r) (catP (stepP (stopD (pIs 60) r)).1 Q), by unfold findP; rw [if_neg hr, hQ]; rfl, fun f' hf' => ?_⟩
      obtain ⟨g, rfl⟩ : ∃ g, f' = g + 1 := ⟨f' - 1, by omega⟩
      unfold findP
      rw [if_neg hr, hQ2 g (by omega)]
      rfl
/-- A page in pieces. -/
def pcs (b : List UInt8) : Pcs := (findP b.length b).getD (raw [])
theorem pcs_find (b : List UInt8) (f : Nat) (h : b.length ≤ f) : findP f b = some (pcs b) := by
  obtain ⟨P, h1, h2⟩ := findP_some b.length b (Nat.le_refl _)
  rw [h2 f h, pcs, h1]
  rfl
theorem pcs_app (b : List UInt8) : b = weave (pcs b) (vals (pcs b)) := findP_app _ _ _ (pcs_find b b.length (Nat.le_refl _))
theorem pcs_new (b : List UInt8) (ts : List (List UInt8)) (h : OkTs (pcs b).2 ts) : pcs (weave (pcs b) ts) = subst (pcs b) ts := by
  have h1 := findP_new _ _ _ (pcs_find b (max b.length (weave (pcs b) ts).length) (Nat.le_max_left _ _)) ts h
  rw [pcs_find (weave (pcs b) ts) _ (Nat.le_max_right _ _)] at h1
  exact Option.some.inj h1

/-! ### Where the links stand -/
def linksL : Nat → List (List UInt8 × List UInt8) → List LinkD
  | _, [] => []
  | pos, x :: l => ⟨pos, pos + x.1.length, unamp x.1⟩ :: linksL (pos + x.1.length + x.2.length) l
def links (pos : Nat) (P : Pcs) : List LinkD := linksL (pos + P.1.length) P.2
theorem linksL_len : ∀ (l : List (List UInt8 × List UInt8)) (pos : Nat), (linksL pos l).length = l.length
  | [], _ => rfl
  | x :: l, pos => by simp [linksL, linksL_len l]
theorem links_len (pos : Nat) (P : Pcs) : (links pos P).length = P.2.length := linksL_len _ _
theorem links_prep (pos : Nat) (x : List UInt8) (P : Pcs) : links pos (prep x P) = links (pos + x.length) P := by
  unfold links prep; rw [List.length_append, Nat.add_assoc]
theorem links_cat : ∀ (l : List (List UInt8 × List UInt8)) (pos : Nat) (p : List UInt8) (Q : Pcs), links pos (catL p l Q) = linksL (pos + p.length) l ++ links (pos + (p ++ weaveL l (l.map (·.1))).length) Q
  | [], pos, p, Q => by simp [catL, links_prep, linksL, weaveL]
  | x :: l, pos, p, Q => by
    have := links_cat l (pos + p.length + x.1.length) x.2 Q
    unfold links at this ⊢
    simp only [catL, linksL, List.map_cons, weaveL, List.length_append, List.cons_append] at this ⊢
    rw [this]
    congr 2
    simp only [Nat.add_assoc, Nat.add_left_comm, Nat.add_comm]
theorem links_catP (pos : Nat) (P Q : Pcs) : links pos (catP P Q) = links pos P ++ links (pos + (weave P (vals P)).length) Q := links_cat P.2 pos P.1 Q
end Go.Proofs.YtoolfhjlhhcbgaaDoor
