import Derived.Test.YtoolfhjlhhcbgaaDoorLinkP
namespace Go.Proofs.YtoolfhjlhhcbgaaDoor

/-- Enough rounds are as good as more. -/
theorem stopD_drop1 (p : Nat → Bool) (l : List UInt8) : ((stopD p l).drop 1).length ≤ l.length := by
  have := stopD_len p l; simp; omega
theorem valP_len (r : List UInt8) : (valP r).2.2.2.length ≤ r.length := by
  have := congrArg List.length (valP_app r)
  simp only [List.length_append] at this
  omega
theorem attrsP_some : ∀ (f : Nat) (r : List UInt8) (seen : List (List UInt8)) (x : Pcs × List UInt8), attrsP f r seen = some x → ∀ f', r.length < f' → attrsP f' r seen = some x := by
  intro f
  induction f with
  | zero => intro r seen x h; cases h
  | succ f ih =>
    intro r seen x h f' hf
    obtain ⟨g, rfl⟩ : ∃ g, f' = g + 1 := ⟨f' - 1, by omega⟩
    unfold attrsP at h ⊢
    have hl := stopD_len pAttr r
    rcases hc : stopD pAttr r with _ | ⟨c, r2⟩
    · rw [hc] at h; cases h
    · rw [hc] at h hl
      simp only at h ⊢
      simp only [List.length_cons] at hl
      have h1 := stopD_len pEq r2
      split at h
      · rename_i h62; rw [if_pos h62]; exact h
      · rename_i h62
        rw [if_neg h62]
        split at h
        · rename_i h61
          rw [if_pos h61]
          obtain ⟨q, hq, h⟩ := Option.map_eq_some_iff.1 h
          have h2 := stopD_len pNotSp (stopD pEq r2)
          have h3 := valP_len (stopD pNotSp (stopD pEq r2)).tail
          rw [List.length_tail] at h3
          rw [ih _ _ q hq g (by omega)]
          rw [← h]; rfl
        · rename_i h61
          rw [if_neg h61]
          obtain ⟨q, hq, h⟩ := Option.map_eq_some_iff.1 h
          rw [ih _ _ q hq g (by omega)]
          rw [← h]; rfl

/-! ### Pages in pieces -/
def catL : List UInt8 → List (List UInt8 × List UInt8) → Pcs → Pcs
  | p, [], Q => prep p Q
  | p, x :: l, Q => (p, (x.1, (catL x.2 l Q).1) :: (catL x.2 l Q).2)
def catP (P Q : Pcs) : Pcs := catL P.1 P.2 Q
def raw (x : List UInt8) : Pcs := (x, [])
theorem catP_raw (x : List UInt8) (Q : Pcs) : catP (raw x) Q = prep x Q := rfl
theorem catL_weave : ∀ (l : List (List UInt8 × List UInt8)) (p : List UInt8) (Q : Pcs) (ts us : List (List UInt8)), ts.length = l.length → weave (catL p l Q) (ts ++ us) = p ++ weaveL l ts ++ weave Q us
  | [], p, Q, [], us, _ => by simp [catL, weave, prep, weaveL]
  | [], _, _, t :: ts, _, h => by simp at h
  | x :: l, _, _, [], _, h => by simp at h
  | x :: l, p, Q, t :: ts, us, h => by
    have := catL_weave l x.2 Q ts us (by simpa using h)
    simp only [catL, List.cons_append]
    unfold weave at this ⊢
    simp only [weaveL, List.append_assoc] at this ⊢
    rw [this]
theorem catP_weave (P Q : Pcs) (ts us : List (List UInt8)) (h : ts.length = P.2.length) : weave (catP P Q) (ts ++ us) = weave P ts ++ weave Q us := catL_weave P.2 P.1 Q ts us h
theorem catL_subst : ∀ (l : List (List UInt8 × List UInt8)) (p : List UInt8) (Q : Pcs) (ts us : List (List UInt8)), ts.length = l.length → subst (catL p l Q) (ts ++ us) = catL p (substL l ts) (subst Q us)
  | [], p, Q, [], us, _ => rfl
  | [], _, _, t :: ts, _, h => by simp at h
  | x :: l, _, _, [], _, h => by simp at h
  | x :: l, p, Q, t :: ts, us, h => by
    have := catL_subst l x.2 Q ts us (by simpa using h)
    unfold subst at this ⊢
    simp only [catL, List.cons_append, substL]
    rw [← this]
theorem catP_subst (P Q : Pcs) (ts us : List (List UInt8)) (h : ts.length = P.2.length) : subst (catP P Q) (ts ++ us) = catP (subst P ts) (subst Q us) := catL_subst P.2 P.1 Q ts us h
theorem catL_2 : ∀ (l : List (List UInt8 × List UInt8)) (p : List UInt8) (Q : Pcs), (catL p l Q).2.map (·.1) = l.map (·.1) ++ Q.2.map (·.1)
  | [], _, _ => rfl
  | x :: l, _, Q => by simp [catL, catL_2 l x.2 Q]
theorem catP_vals (P Q : Pcs) : vals (catP P Q) = vals P ++ vals Q := catL_2 P.2 P.1 Q
theorem OkTs.split : ∀ (l : List (List UInt8 × List UInt8)) (p : List UInt8) (Q : Pcs) (ts : List (List UInt8)), OkTs (catL p l Q).2 ts → ∃ t1 t2, ts = t1 ++ t2 ∧ OkTs l t1 ∧ OkTs Q.2 t2
  | [], _, _, ts, h => ⟨[], ts, rfl, .nil, h⟩
  | x :: l, _, Q, _, h => by
    cases h with
    | cons ht h =>
      rename_i t ts
      obtain ⟨t1, t2, rfl, h1, h2⟩ := OkTs.split l x.2 Q ts h
      exact ⟨t :: t1, t2, rfl, .cons ht h1, h2⟩
theorem catL_first (p : List UInt8) (l : List (List UInt8 × List UInt8)) (Q : Pcs) : ∃ y, (catL p l Q).1 = p ++ y := by
  cases l with
  | nil => exact ⟨Q.1, rfl⟩
  | cons x l => exact ⟨[], by simp [catL]⟩

def tagP (r : List UInt8) (shut : Bool) : Pcs × List UInt8 :=
  match attrsP ((stopD pName r).length + 1) (stopD pName r) [] with
  | none => (raw r, [])
  | some (P, r') => if shut then (raw (stopT pName r ++ weave P (vals P)), r') else (prep (stopT pName r) P, r')
def pastP (t r : List UInt8) : List UInt8 := r.take (r.length - (pastL t r).length)
def stepP (r : List UInt8) : Pcs × List UInt8 :=
  if Lib.hasPrefix r [60, 33, 45, 45] then (raw (r.take 4 ++ pastP [45, 45, 62] (r.drop 4)), pastL [45, 45, 62] (r.drop 4))
  else if Lib.hasPrefix r [60, 33] || Lib.hasPrefix r [60, 63] then (raw (pastP [62] r), pastL [62] r)
  else if decide (1 < r.length) && isLet (nth r 1) then (prep (r.take 1) (tagP (r.drop 1) false).1, (tagP (r.drop 1) false).2)
  else if decide (2 < r.length) && nth r 1 == 47 && isLet (nth r 2) then (prep (r.take 2) (tagP (r.drop 2) true).1, (tagP (r.drop 2) true).2)
  else (raw (r.take 1), r.drop 1)
def findP : Nat → List UInt8 → Option Pcs
  | 0, r => if r = [] then some (raw []) else none
  | f + 1, r => if r = [] then some (raw []) else (findP f (stepP (stopD (pIs 60) r)).2).map fun Q => prep (stopT (pIs 60) r) (catP (stepP (stopD (pIs 60) r)).1 Q)

theorem pastL_suffix (t r : List UInt8) : pastL t r <:+ r := by
  unfold pastL
  split
  · exact List.nil_suffix
  · exact List.drop_suffix _ _
theorem pastP_app (t r : List UInt8) : pastP t r ++ pastL t r = r := by
  obtain ⟨x, hx⟩ := pastL_suffix t r
  unfold pastP
  have : r.length - (pastL t r).length = x.length := by have := congrArg List.length hx; simp at this; omega
  rw [this]
  conv => lhs; arg 1; rw [← hx]
  rw [List.take_left]
  exact hx
theorem tagP_app (r : List UInt8) (shut : Bool) : r = weave (tagP r shut).1 (vals (tagP r shut).1) ++ (tagP r shut).2 := by
  unfold tagP
  rcases h : attrsP ((stopD pName r).length + 1) (stopD pName r) [] with _ | ⟨P, r'⟩
  · simp [raw, weave, weaveL, vals]
  · obtain ⟨h1, _, _⟩ := attrsP_app _ _ _ P r' h
    have h0 := stop_app pName r
    simp only
    rcases shut with _ | _
    · show r = weave (prep _ P) (vals (prep _ P)) ++ r'
      rw [weave_prep, vals_prep, List.append_assoc, ← h1, h0]
    · show r = weave (raw _) (vals (raw _)) ++ r'
      simp only [raw, weave, weaveL, vals, List.map_nil, List.append_nil, List.append_assoc]
      have h1' : stopD pName r = P.1 ++ (weaveL P.2 (P.2.map (·.1)) ++ r') := by rw [h1]; simp [weave, vals]
      rw [← h1', h0]
theorem stepP_app (r : List UInt8) : r = weave (stepP r).1 (vals (stepP r).1) ++ (stepP r).2 := by
  unfold stepP
  split
  · simp only [raw, weave, weaveL, vals, List.map_nil, List.append_nil, List.append_assoc, pastP_app, List.take_append_drop]
  · split
    · simp only [raw, weave, weaveL, vals, List.map_nil, List.append_nil, pastP_app]
    · split
      · have := tagP_app (r.drop 1) false
        simp only [weave_prep, vals_prep, List.append_assoc]
        rw [← this, List.take_append_drop]
      · split
        · have := tagP_app (r.drop 2) true
          simp only [weave_prep, vals_prep, List.append_assoc]
          rw [← this, List.take_append_drop]
        · simp only [raw, weave, weaveL, vals, List.map_nil, List.append_nil, List.take_append_drop]
theorem findP_app : ∀ (f : Nat) (r : List UInt8) (P : Pcs), findP f r = some P → r = weave P (vals P) := by
  intro f
  induction f with
  | zero =>
    intro r P h
    unfold findP at h
    split at h
    · rename_i e; injection h with h; subst h e; rfl
    · cases h
  | succ f ih =>
    intro r P h
    unfold findP at h
    split at h
    · rename_i e; injection h with h; subst h e; rfl
    · obtain ⟨Q, hQ, rfl⟩ := Option.map_eq_some_iff.1 h
      have h1 := stepP_app (stopD (pIs 60) r)
      have h2 := ih _ Q hQ
      have h0 := stop_app (pIs 60) r
      rw [weave_prep, vals_prep, catP_vals, catP_weave _ _ _ _ (by simp [vals]), ← h2, ← h1, h0]
end Go.Proofs.YtoolfhjlhhcbgaaDoor
