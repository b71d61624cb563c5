import Derived.Test.YtoolfhjlhhcbgaaDoorLinkR
namespace Go.Proofs.YtoolfhjlhhcbgaaDoor

theorem no60 {b : List UInt8} (h : b.any (fun c => c == 60) = false) : ∀ x ∈ b, pIs 60 x.toNat = false := by
  intro x hx
  have := List.any_eq_false.1 h x hx
  simp only [beq_iff_eq] at this
  simp only [pIs, beq_eq_false_iff_ne]
  intro e
  exact this (UInt8.toNat_inj.1 e)
theorem pcs_step (r : List UInt8) (h : r ≠ []) : pcs r = prep (stopT (pIs 60) r) (catP (stepP (stopD (pIs 60) r)).1 (pcs (stepP (stopD (pIs 60) r)).2)) := by
  have h1 := pcs_find r (r.length + 1) (by omega)
  have hlt := stepP_round r h
  unfold findP at h1
  rw [if_neg h, pcs_find _ r.length (by omega)] at h1
  exact (Option.some.inj h1).symm
theorem pcs_nil : pcs [] = raw [] := rfl
theorem pcs_ahead (b c : List UInt8) (h : b.any (fun c => c == 60) = false) : pcs (b ++ c) = prep b (pcs c) := by
  have hb := no60 h
  have hp := stopD_pre (pIs 60) b c hb
  by_cases hbc : b ++ c = []
  · have h1 : b = [] := by cases b with | nil => rfl | cons a b => simp at hbc
    subst h1
    rw [List.nil_append]
    rfl
  · rw [pcs_step _ hbc, hp.1, hp.2]
    by_cases hc : c = []
    · subst hc
      rw [pcs_nil]
      have e : stopD (pIs 60) [] = [] := rfl
      have e2 : stopT (pIs 60) [] = [] := rfl
      rw [e, e2, stepP_nil, pcs_nil]
      simp [prep, catP, catL, raw]
    · rw [pcs_step c hc]
      simp [prep]
theorem pcs_no60 (b : List UInt8) (h : b.any (fun c => c == 60) = false) : pcs b = raw b := by
  have := pcs_ahead b [] h
  rw [List.append_nil, pcs_nil] at this
  rw [this]
  simp [prep, raw]
def shiftL (k : Nat) (l : List LinkD) : List LinkD := l.map fun x => ⟨x.frm + k, x.til + k, x.text⟩
theorem linksL_shift (k : Nat) : ∀ (l : List (List UInt8 × List UInt8)) (pos : Nat), linksL (pos + k) l = shiftL k (linksL pos l)
  | [], _ => rfl
  | x :: l, pos => by
    have := linksL_shift k l (pos + x.1.length + x.2.length)
    simp only [linksL, shiftL, List.map_cons] at this ⊢
    rw [← this]
    congr 1
    · congr 1; omega
    · congr 1; omega
theorem find_ahead (b c : List UInt8) (h : b.any (fun c => c == 60) = false) : findB (b ++ c) = (findB c).map (shiftL b.length) := by
  rw [findB_eq, findB_eq, pcs_ahead b c h]
  have e : (prep b (pcs c)).2 = (pcs c).2 := rfl
  rw [e]
  split
  · rfl
  · rw [links_prep]
    unfold links
    rw [Option.map_some, ← linksL_shift]
    congr 2
    omega
theorem find_no60 (b : List UInt8) (h : b.any (fun c => c == 60) = false) : findB b = some [] := by
  rw [findB_eq, pcs_no60 b h]
  rfl
theorem picks_none : ∀ (l : List (List UInt8 × List UInt8)), picks l (List.replicate l.length []) = l.map (·.1)
  | [] => rfl
  | x :: l => by simp [picks, pick, List.replicate_succ, picks_none l]
/-- Where nothing is put all stays. -/
theorem put_none (b : List UInt8) (l : List LinkD) (hl : findB b = some l) (h4 : b.length ≤ 4000) : putB b (List.replicate l.length []) = (b, 0) := by
  have hf := findB_eq b
  rw [hl] at hf
  split at hf
  · cases hf
  · have hf := Option.some.inj hf
    unfold putB
    rw [hl]
    simp only
    have hany : (List.replicate l.length ([] : List UInt8)).any (fun t => t.any fun c => badPut c.toNat) = false := by
      rw [List.any_eq_false]
      intro x hx
      rw [(List.mem_replicate.1 hx).2]
      simp
    have hp : putL b 0 [] l (List.replicate l.length []) = b := by
      have hn : l.length = (pcs b).2.length := by rw [hf, links_len]
      rw [hn, hf, putL_weave b _ (by simp), picks_none]
      exact (pcs_app b).symm
    rw [if_neg (by simp), hany, hp, if_neg (by simp), if_neg (show ¬ 4000 < b.length by omega)]
end Go.Proofs.YtoolfhjlhhcbgaaDoor
