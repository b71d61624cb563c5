import Derived.Test.YtdhmmepcnladcaaDoorPart7
namespace Go.Proofs.YtdhmmepcnladcaaDoor
open Go.RowKit

theorem ints_cells {w : World} {B : Nat} {A : Option Addr} {n : Nat} {l : List Int} (h : Sl w B 1 A n (iCells l)) : l.length = n ∧ (0 < n → ∃ b off, A = some ⟨b, off, none⟩ ∧ b < B ∧ ∀ j, j < l.length → w.cell? ⟨b, off + j, none⟩ = some (.int .i64 (l.getD j 0))) := by
  have hl : l.length = n := by have := h.1; rw [iCells_len] at this; omega
  refine ⟨hl, fun hn => ?_⟩
  obtain ⟨b, off, hA, hb, hc⟩ := h.2 hn
  exact ⟨b, off, hA, hb, fun j hj => hc j _ (by simp [iCells, hj])⟩
theorem Equal_ints (A A' : Option Addr) (n c n' c' B B' : Nat) (l l' : List Int) (w : World) (h : Sl w B 1 A n (iCells l)) (h' : Sl w B' 1 A' n' (iCells l')) (hn : n ≤ 1000000) (hn' : n' ≤ 1000000) :
    Calls Tryd.prog 26 #[.slice A n c, .slice A' n' c'] w fun e w' => e = .returned (.bool (l == l')) ∧ ∃ q, w' = w.drewN q := by
  obtain ⟨hl, hc⟩ := ints_cells h
  obtain ⟨hl', hc'⟩ := ints_cells h'
  by_cases hnn : n = n'
  · subst hnn
    rcases Nat.eq_zero_or_pos n with h0 | h0
    · subst h0
      have e1 : l = [] := List.eq_nil_of_length_eq_zero hl
      have e2 : l' = [] := List.eq_nil_of_length_eq_zero hl'
      subst e1
      subst e2
      exact (Go.Proofs.Tryd.slices_Equal_int_empty A A' c 0 c' w (by omega)).mono fun e w' ⟨h1, h2⟩ => ⟨by rw [h1]; rfl, 0, h2⟩
    · obtain ⟨b, off, rfl, _, hc⟩ := hc h0
      obtain ⟨b', off', rfl, _, hc'⟩ := hc' h0
      refine (Go.Proofs.Tryd.slices_Equal_int b off n c b' off' n c' l l' w (by omega) (by omega) (by omega) (by omega) hc hc').mono fun e w' ⟨h1, h2⟩ => ⟨?_, h2⟩
      rw [h1, List.take_of_length_le (by omega), List.take_of_length_le (by omega)]
  · have hne : (l == l') = false := by rw [beq_eq_false_iff_ne]; rintro rfl; exact hnn (hl.symm.trans hl')
    exact (Go.Proofs.Tryd.slices_Equal_int_lens A A' n c n' c' w hnn).mono fun e w' ⟨h1, h2⟩ => ⟨by rw [h1, hne], 0, h2⟩
end Go.Proofs.YtdhmmepcnladcaaDoor
