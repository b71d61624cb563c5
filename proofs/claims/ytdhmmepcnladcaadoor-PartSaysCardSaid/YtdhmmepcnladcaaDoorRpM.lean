import Derived.Test.YtdhmmepcnladcaaDoorPartM
namespace Go.Proofs.YtdhmmepcnladcaaDoor

/-! ### How many, how deep: the document's way -/
mutual
/-- sized, where so deep may still be gone. -/
def sizedD : Nat → PartD → Nat × Nat
  | 0, _ => (0, 99)
  | k + 1, ⟨_, _, _, _, _, _, parts⟩ => sizedsD k 1 0 parts
/-- Its loop. -/
def sizedsD (k : Nat) : Nat → Nat → List PartD → Nat × Nat
  | many, deep, [] => (many, deep + 1)
  | many, deep, p :: ps => if 100 < many + (sizedD k p).1 ∨ 50 < max deep (sizedD k p).2 then (100, 99) else sizedsD k (many + (sizedD k p).1) (max deep (sizedD k p).2) ps
end
def overD (k : Nat) (r : Nat × Nat) : Prop := 12 < r.1 ∨ k < r.2
theorem sizedsD_over (k : Nat) (hk : k ≤ 50) : ∀ (ps : List PartD) (many deep : Nat), (12 < many ∨ k < deep) → overD (k + 1) (sizedsD k many deep ps) := by
  intro ps
  induction ps with
  | nil =>
    intro many deep h
    rw [sizedsD]
    rcases h with h | h
    · exact .inl h
    · exact .inr (Nat.succ_lt_succ h)
  | cons p ps ih =>
    intro many deep h
    rw [sizedsD]
    split
    · exact .inl (by show 12 < 100; omega)
    · exact ih _ _ (by omega)
/-- What the two say of each other. -/
def LawSz (k : Nat) (p : PartD) : Prop := (cntD k p = none → overD k (sizedD k p)) ∧ ∀ c, cntD k p = some c → ∃ d, sizedD k p = (c, d) ∧ d ≤ k
theorem sizeds_law (k : Nat) (hk : k ≤ 50) (ihp : ∀ p, LawSz k p) : ∀ (ps : List PartD) (n deep : Nat), n ≤ 12 → deep ≤ k →
    (cntsD k n ps = none → overD (k + 1) (sizedsD k n deep ps)) ∧ ∀ c, cntsD k n ps = some c → ∃ d, sizedsD k n deep ps = (c, d) ∧ d ≤ k + 1 := by
  intro ps
  induction ps with
  | nil =>
    intro n deep hn hd
    rw [cntsD, sizedsD]
    refine ⟨fun h => (by cases h), fun c h => ?_⟩
    injection h with h
    subst h
    exact ⟨_, rfl, by omega⟩
  | cons p ps ih =>
    intro n deep hn hd
    obtain ⟨l1, l2⟩ := ihp p
    rw [cntsD_cons, sizedsD]
    cases hc : cntD k p with
    | none =>
      have ho := l1 hc
      unfold overD at ho
      refine ⟨fun _ => ?_, fun c h => (by cases h)⟩
      split
      · exact .inl (by show 12 < 100; omega)
      · exact sizedsD_over k hk _ _ _ (by omega)
    | some c =>
      obtain ⟨d, hs, hdk⟩ := l2 c hc
      rw [hs]
      have hc12 := (cntD_le k p c hc).2
      show (cntNext k n ps (some c) = none → _) ∧ ∀ c', cntNext k n ps (some c) = some c' → _
      unfold cntNext
      have hmax : max deep d ≤ k := Nat.max_le.2 ⟨hd, hdk⟩
      rw [if_neg (by simp only; omega)]
      simp only
      by_cases h12 : 12 < n + c
      · rw [if_pos h12]
        exact ⟨fun _ => sizedsD_over k hk _ _ _ (.inl h12), fun c' h => (by cases h)⟩
      · rw [if_neg h12]
        exact ih (n + c) (max deep d) (by omega) hmax
theorem sized_law : ∀ (k : Nat), k ≤ 50 → ∀ p, LawSz k p := by
  intro k
  induction k with
  | zero =>
    intro _ p
    refine ⟨fun _ => ?_, fun c h => ?_⟩
    · rw [sizedD]; exact .inr (by show 0 < 99; omega)
    · rw [cntD] at h; cases h
  | succ k ih =>
    intro hk p
    obtain ⟨t, cs, id, loc, how, body, parts⟩ := p
    unfold LawSz
    rw [cntD, sizedD]
    exact sizeds_law k (by omega) (ih (by omega)) parts 1 0 (by omega) (by omega)
theorem sizedD_succ (k : Nat) (p : PartD) : sizedD (k + 1) p = sizedsD k 1 0 p.parts := by cases p; rw [sizedD]
theorem checkD_sized (p : PartD) : checkD p = if 12 < (sizedD 3 p).1 ∨ 3 < (sizedD 3 p).2 then 2 else firstErr (flatD p) := by
  obtain ⟨l1, l2⟩ := sized_law 3 (by omega) p
  cases hc : cntD 3 p with
  | none => have h := l1 hc; unfold overD at h; rw [checkD_none p hc, if_pos h]
  | some c =>
    obtain ⟨d, hs, hd⟩ := l2 c hc
    have := (cntD_le 3 p c hc).2
    rw [checkD_some p c hc, hs, if_neg (by simp only; omega)]
/-- It stays small. -/
theorem sizedsD_small (k : Nat) : ∀ (ps : List PartD) (many deep : Nat), many ≤ 100 → deep ≤ 50 → (sizedsD k many deep ps).1 ≤ 100 ∧ (sizedsD k many deep ps).2 ≤ 99 := by
  intro ps
  induction ps with
  | nil => intro many deep h1 h2; rw [sizedsD]; exact ⟨h1, by show deep + 1 ≤ 99; omega⟩
  | cons p ps ih =>
    intro many deep h1 h2
    rw [sizedsD]
    split
    · exact ⟨by show 100 ≤ 100; omega, by show 99 ≤ 99; omega⟩
    · exact ih _ _ (by omega) (by omega)
theorem sizedD_small (k : Nat) (p : PartD) : (sizedD k p).1 ≤ 100 ∧ (sizedD k p).2 ≤ 99 := by
  cases k with
  | zero => rw [sizedD]; exact ⟨by show 0 ≤ 100; omega, by show 99 ≤ 99; omega⟩
  | succ k => rw [sizedD_succ]; exact sizedsD_small k _ 1 0 (by omega) (by omega)
end Go.Proofs.YtdhmmepcnladcaaDoor
