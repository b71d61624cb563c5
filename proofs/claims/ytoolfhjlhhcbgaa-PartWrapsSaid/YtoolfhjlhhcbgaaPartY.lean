import Derived.Test.YtoolfhjlhhcbgaaPartX
namespace Go.Proofs.Ytoolfhjlhhcbgaa

theorem wth_any (d : Nat) (p : PartD) (n : Nat) (j i : Int) : wthD p (n + d) j = j :: ((wthD p n i).drop 1).map (fun x => x + (d : Int)) := by
  rw [wthD_eq, wthD_eq p n i, show n + d + 1 = n + 1 + d from by omega, wths_shift d]
  rfl
theorem wrap_in0 (p q : PartD) : wthD (wrapD p q) 0 (-1) = -1 :: (wthD p 1 0 ++ wthD q (1 + (flatD p).length) 0) := by
  rw [wthD_eq]
  show _ :: wthsD [p, q] (0 + 1) 0 = _
  rw [wthsD, wthsD, wthsD, List.append_nil]
  rfl
/-- The numbers of a wrapper, and those of what is in it. -/
theorem wrap_in (p q : PartD) (n : Nat) (v : Int) (h : (wthD p 0 (-1) ++ wthD q 0 (-1))[n]? = some v) :
    -1 ≤ v ∧ v ≤ n ∧ (n < (flatD p).length → (wthD (wrapD p q) 0 (-1))[n + 1]? = some (v + 1)) ∧
    ((flatD p).length ≤ n → v < 0 → (wthD (wrapD p q) 0 (-1))[n + 1]? = some (v + 1)) ∧
    ((flatD p).length ≤ n → 0 ≤ v → (wthD (wrapD p q) 0 (-1))[n + 1]? = some (v + 1 + (flatD p).length)) := by
  have lp := wthD_len p 0 (-1)
  have l1 := wthD_len p 1 0
  obtain ⟨a0, a1, _⟩ := wth_facts p
  obtain ⟨b0, b1, _⟩ := wth_facts q
  have e1 := wth_any 1 p 0 0 (-1)
  have e2 := wth_any (1 + (flatD p).length) q 0 0 (-1)
  rw [Nat.zero_add] at e1 e2
  rw [wrap_in0, List.getElem?_cons_succ]
  generalize (flatD p).length = m at *
  generalize wthD p 0 (-1) = X at *
  generalize wthD q 0 (-1) = Y at *
  rcases Nat.lt_or_ge n m with hn | hn
  · rw [List.getElem?_append_left (by omega)] at h
    rw [List.getElem?_append_left (by omega), e1]
    refine ⟨?_, ?_, fun _ => ?_, fun h' => absurd h' (by omega), fun h' => absurd h' (by omega)⟩
    · cases n with
      | zero => rw [a0] at h; injection h with h; omega
      | succ n => have := a1 n v h; omega
    · cases n with
      | zero => rw [a0] at h; injection h with h; omega
      | succ n => have := a1 n v h; omega
    · cases n with
      | zero => rw [a0] at h; injection h with h; subst h; rfl
      | succ n => simp [Nat.add_comm 1 n, h]
  · rw [List.getElem?_append_right (by omega), lp] at h
    rw [List.getElem?_append_right (by omega), l1, e2]
    obtain ⟨k, rfl⟩ : ∃ k, n = m + k := ⟨n - m, by omega⟩
    rw [Nat.add_sub_cancel_left] at h ⊢
    refine ⟨?_, ?_, fun h' => absurd h' (by omega), fun _ hv => ?_, fun _ hv => ?_⟩
    · cases k with
      | zero => rw [b0] at h; injection h with h; omega
      | succ k => have := b1 k v h; omega
    · cases k with
      | zero => rw [b0] at h; injection h with h; omega
      | succ k => have := b1 k v h; omega
    · cases k with
      | zero => rw [b0] at h; injection h with h; subst h; rfl
      | succ k => have := b1 k v h; omega
    · cases k with
      | zero => rw [b0] at h; injection h with h; omega
      | succ k =>
        simp only [List.getElem?_cons_succ, List.getElem?_map, List.getElem?_drop, Nat.add_comm 1 k, h, Option.map_some]
        congr 1
        push_cast
        omega
theorem wrap_len (p q : PartD) : (flatD (wrapD p q)).length = (flatD p).length + (flatD q).length + 1 := by
  rw [flat_wrap]; simp
end Go.Proofs.Ytoolfhjlhhcbgaa
