import Derived.Test.YtdhmmepcnladcaaDoorPartM
namespace Go.Proofs.YtdhmmepcnladcaaDoor

mutual
/-- part.Within, where n numbers stand already: of a part that is in number inn. -/
def wthD : PartD → Nat → Int → List Int
  | ⟨_, _, _, _, _, _, parts⟩, n, inn => inn :: wthsD parts (n + 1) n
def wthsD : List PartD → Nat → Nat → List Int
  | [], _, _ => []
  | p :: ps, n, me => wthD p n (me : Int) ++ wthsD ps (n + (flatD p).length) me
end
mutual
theorem wthD_len : ∀ (p : PartD) (n : Nat) (inn : Int), (wthD p n inn).length = (flatD p).length
  | ⟨t, cs, id, loc, how, body, parts⟩, n, inn => by rw [wthD, flatD, List.length_cons, List.length_cons, wthsD_len parts]
theorem wthsD_len : ∀ (ps : List PartD) (n me : Nat), (wthsD ps n me).length = (flatsD ps).length
  | [], _, _ => by rw [wthsD, flatsD]; rfl
  | p :: ps, n, me => by rw [wthsD, flatsD, List.length_append, List.length_append, wthD_len p, wthsD_len ps]
end
theorem wthD_eq (p : PartD) (n : Nat) (inn : Int) : wthD p n inn = inn :: wthsD p.parts (n + 1) n := by cases p; rw [wthD]

/-- What the numbers say: of a forest whose parts lie from n on, all in number me. -/
theorem wths_facts : ∀ (ps : List PartD) (n me : Nat), me < n →
    (∀ (j : Nat) (x : Int), (wthsD ps n me)[j]? = some x → x = (me : Int) ∨ ((n : Int) ≤ x ∧ x < (n : Int) + j ∧ ∃ q, (flatsD ps)[(x - n).toNat]? = some q ∧ q.parts ≠ [])) ∧
    (∀ (j : Nat) q, (flatsD ps)[j]? = some q → q.parts ≠ [] → ((n + j : Nat) : Int) ∈ wthsD ps n me) ∧ (ps ≠ [] → (me : Int) ∈ wthsD ps n me) := by
  have key : ∀ (k : Nat) (ps : List PartD), (flatsD ps).length ≤ k → ∀ (n me : Nat), me < n →
      (∀ (j : Nat) (x : Int), (wthsD ps n me)[j]? = some x → x = (me : Int) ∨ ((n : Int) ≤ x ∧ x < (n : Int) + j ∧ ∃ q, (flatsD ps)[(x - n).toNat]? = some q ∧ q.parts ≠ [])) ∧
      (∀ (j : Nat) q, (flatsD ps)[j]? = some q → q.parts ≠ [] → ((n + j : Nat) : Int) ∈ wthsD ps n me) ∧ (ps ≠ [] → (me : Int) ∈ wthsD ps n me) := by
    intro k
    induction k with
    | zero =>
      intro ps hk n me hm
      cases ps with
      | nil => simp [wthsD, flatsD]
      | cons p ps => rw [flatsD, flatD_eq] at hk; simp at hk
    | succ k ih =>
      intro ps hk n me hm
      cases ps with
      | nil => simp [wthsD, flatsD]
      | cons p ps =>
        have hfl : (flatsD (p :: ps)).length = 1 + (flatsD p.parts).length + (flatsD ps).length := by
          rw [flatsD, flatD_eq, List.length_append, List.length_cons]; omega
        obtain ⟨a1, a2, a3⟩ := ih p.parts (by omega) (n + 1) n (by omega)
        obtain ⟨b1, b2, b3⟩ := ih ps (by omega) (n + (flatD p).length) me (by omega)
        have hlp : (flatD p).length = 1 + (flatsD p.parts).length := by rw [flatD_eq, List.length_cons]; omega
        have hwl := wthsD_len p.parts (n + 1) n
        have e : wthsD (p :: ps) n me = (me : Int) :: (wthsD p.parts (n + 1) n ++ wthsD ps (n + (flatD p).length) me) := by rw [wthsD, wthD_eq]; rfl
        have f : flatsD (p :: ps) = p :: (flatsD p.parts ++ flatsD ps) := by rw [flatsD, flatD_eq]; rfl
        rw [e, f]
        refine ⟨?_, ?_, fun _ => by simp⟩
        · intro j x hx
          cases j with
          | zero => left; simpa using hx.symm
          | succ j =>
            rw [List.getElem?_cons_succ] at hx
            rcases Nat.lt_or_ge j (wthsD p.parts (n + 1) n).length with h | h
            · rw [List.getElem?_append_left h] at hx
              rcases a1 j x hx with rfl | ⟨h1, h2, q, hq, hqp⟩
              · right
                refine ⟨by omega, by omega, p, by simp, ?_⟩
                intro hp
                rw [hp] at h
                simp [wthsD] at h
              · right
                refine ⟨by omega, by omega, q, ?_, hqp⟩
                have e2 : (x - (n : Int)).toNat = (x - ((n + 1 : Nat) : Int)).toNat + 1 := by omega
                rw [e2, List.getElem?_cons_succ, List.getElem?_append_left]
                · exact hq
                · exact (List.getElem?_eq_some_iff.1 hq).1
            · rw [List.getElem?_append_right h] at hx
              rcases b1 _ x hx with rfl | ⟨h1, h2, q, hq, hqp⟩
              · exact .inl rfl
              · right
                refine ⟨by omega, by omega, q, ?_, hqp⟩
                have e2 : (x - (n : Int)).toNat = (x - ((n + (flatD p).length : Nat) : Int)).toNat + (flatsD p.parts).length + 1 := by omega
                rw [e2, List.getElem?_cons_succ, List.getElem?_append_right (by omega), Nat.add_sub_cancel]
                exact hq
        · intro j q hq hqp
          cases j with
          | zero =>
            simp at hq
            subst hq
            have := a3 hqp
            simp only [Nat.add_zero]
            exact List.mem_cons_of_mem _ (List.mem_append.2 (.inl this))
          | succ j =>
            rw [List.getElem?_cons_succ] at hq
            rcases Nat.lt_or_ge j (flatsD p.parts).length with h | h
            · rw [List.getElem?_append_left h] at hq
              have := a2 j q hq hqp
              rw [show n + (j + 1) = n + 1 + j from by omega]
              exact List.mem_cons_of_mem _ (List.mem_append.2 (.inl this))
            · rw [List.getElem?_append_right h] at hq
              have := b2 _ q hq hqp
              rw [show n + (j + 1) = n + (flatD p).length + (j - (flatsD p.parts).length) from by omega]
              exact List.mem_cons_of_mem _ (List.mem_append.2 (.inr this))
  intro ps n me hm
  exact key _ ps (Nat.le_refl _) n me hm
/-- .. of one part with all in it, the first. -/
theorem wth_facts (p : PartD) :
    (wthD p 0 (-1))[0]? = some (-1) ∧
    (∀ (j : Nat) (x : Int), (wthD p 0 (-1))[j + 1]? = some x → 0 ≤ x ∧ x ≤ j ∧ ∃ q, (flatD p)[x.toNat]? = some q ∧ q.parts ≠ []) ∧
    (∀ (j : Nat) q, (flatD p)[j]? = some q → q.parts ≠ [] → ((j : Nat) : Int) ∈ wthD p 0 (-1)) := by
  obtain ⟨a1, a2, a3⟩ := wths_facts p.parts 1 0 (by omega)
  rw [wthD_eq, flatD_eq]
  refine ⟨rfl, ?_, ?_⟩
  · intro j x hx
    rw [List.getElem?_cons_succ] at hx
    rcases a1 j x hx with rfl | ⟨h1, h2, q, hq, hqp⟩
    · refine ⟨by omega, by omega, p, by simp, ?_⟩
      intro hp
      rw [hp] at hx
      simp [wthsD] at hx
    · refine ⟨by omega, by omega, q, ?_, hqp⟩
      have e2 : x.toNat = (x - ((1 : Nat) : Int)).toNat + 1 := by omega
      rw [e2, List.getElem?_cons_succ]
      exact hq
  · intro j q hq hqp
    cases j with
    | zero => simp at hq; subst hq; exact List.mem_cons_of_mem _ (a3 hqp)
    | succ j =>
      rw [List.getElem?_cons_succ] at hq
      have := a2 j q hq hqp
      rw [show ((j + 1 : Nat) : Int) = ((1 + j : Nat) : Int) from by omega]
      exact List.mem_cons_of_mem _ this
end Go.Proofs.YtdhmmepcnladcaaDoor
