import Derived.Test.YtdhmmepcnladcaaDoorUrl9
import Derived.Test.YtdhmmepcnladcaaDoorRU6
namespace Go.Proofs.YtdhmmepcnladcaaDoor

/-! ### What the document's LedTo needs of the addresses -/
theorem host_root {u : UrlD} (h : checkU u = 0) (hh : u.hasHost = true) : u.path = [] ∨ Lib.hasPrefix u.path [47] = true := by
  obtain ⟨_, _, _, h1, _⟩ := check_ok h
  unfold formB at h1
  rw [hh] at h1
  simp only [if_true, Bool.and_eq_false_iff, Bool.not_eq_false', beq_iff_eq] at h1
  by_cases e : u.path = []
  · exact .inl e
  · rcases h1 with h1 | h1
    · exact absurd h1 e
    · exact .inr (prefix_one.2 ⟨e, h1⟩)
theorem prefix_app {a b : List UInt8} (h : Lib.hasPrefix a [47] = true) : Lib.hasPrefix (a ++ b) [47] = true := by
  obtain ⟨h0, h1⟩ := prefix_one.1 h
  cases a with
  | nil => exact absurd rfl h0
  | cons x r => exact prefix_one.2 ⟨by simp, h1⟩
theorem prefix_takeU {a : List UInt8} {n : Nat} (h : Lib.hasPrefix a [47] = true) (hn : 0 < n) : Lib.hasPrefix (a.take n) [47] = true := by
  obtain ⟨h0, h1⟩ := prefix_one.1 h
  cases a with
  | nil => exact absurd rfl h0
  | cons x r =>
    cases n with
    | zero => omega
    | succ n => exact prefix_one.2 ⟨by simp, h1⟩
theorem lastIdx_root {x : List UInt8} (h : Lib.hasPrefix x [47] = true) : 0 ≤ Lib.lastIndexByte ⟨x.toArray⟩ 47 := by
  obtain ⟨h0, h1⟩ := prefix_one.1 h
  rcases Lib.lastIndexByte_spec ⟨x.toArray⟩ 47 with ⟨e, hn⟩ | ⟨i, _, e, _⟩
  · exfalso
    cases x with
    | nil => exact h0 rfl
    | cons a r =>
      have := hn 0 (by simp [ByteArray.size])
      apply this
      have h2 : nth (a :: r) 0 = a.toNat := rfl
      rw [h2] at h1
      simp [h1]
  · omega
theorem lastIdx_nil : Lib.lastIndexByte ⟨([] : List UInt8).toArray⟩ 47 = -1 := rfl
theorem merged_root {b : UrlD} (p : List UInt8) (h : checkU b = 0) (hh : b.hasHost = true) : Lib.hasPrefix (mergedU b p) [47] = true := by
  unfold mergedU
  rw [hh]
  rcases host_root h hh with e | e
  · rw [e]
    exact prefix_one.2 ⟨by simp, rfl⟩
  · have h0 : b.path ≠ [] := (prefix_one.1 e).1
    have hb : (b.path == []) = false := by simpa using h0
    rw [hb]
    have := lastIdx_root e
    exact prefix_app (prefix_takeU e (by omega))
theorem led_root {b u : UrlD} (hb : checkU b = 0) (hu : checkU u = 0) (hh : (ledU b u).hasHost = true) : (ledU b u).path = [] ∨ Lib.hasPrefix (ledU b u).path [47] = true := by
  unfold ledU at hh ⊢
  by_cases h1 : u.scheme ≠ []
  · rw [if_pos h1] at hh ⊢; exact host_root hu hh
  · rw [if_neg h1] at hh ⊢
    by_cases h2 : u.hasHost = true
    · rw [if_pos h2] at hh ⊢; exact (show u.path = [] ∨ Lib.hasPrefix u.path [47] = true from host_root hu hh)
    · rw [if_neg h2] at hh ⊢
      by_cases h3 : u.path = []
      · rw [if_pos h3] at hh ⊢
        by_cases h4 : u.hasQuery = true
        · rw [if_pos h4] at hh ⊢; exact (show b.path = [] ∨ Lib.hasPrefix b.path [47] = true from host_root hb hh)
        · rw [if_neg h4] at hh ⊢; exact (show b.path = [] ∨ Lib.hasPrefix b.path [47] = true from host_root hb hh)
      · rw [if_neg h3] at hh ⊢
        by_cases h5 : nth u.path 0 = 47
        · rw [if_pos h5] at hh ⊢; exact .inr (prefix_one.2 ⟨h3, h5⟩)
        · rw [if_neg h5] at hh ⊢; exact .inr (merged_root _ hb hh)
theorem end_ref (o : UrlD) : endU o = if checkU o = 0 then (o, 0) else (zeroU, if (!o.hasHost && Lib.hasPrefix o.path [47, 47]) = true then 4 else checkU o) := by
  by_cases h : checkU o = 0
  · rw [if_pos h, end_same h]
  · rw [if_neg h]
    unfold endU
    by_cases h2 : (!o.hasHost && Lib.hasPrefix o.path [47, 47]) = true
    · rw [if_pos h2, if_pos h2]
    · rw [if_neg h2, if_neg h2, if_neg h]
theorem merged_dir (b : UrlD) (p : List UInt8) : (if (b.hasHost && b.path == []) = true then [47] else b.path.take (Lib.lastIndexByte ⟨b.path.toArray⟩ 47 + 1).toNat) ++ p = mergedU b p := by
  unfold mergedU
  split <;> rfl
end Go.Proofs.YtdhmmepcnladcaaDoor
