import Derived.Test.YtdhmmepcnladcaaDoorUrlL
import Derived.Lib.Split
import Derived.Lib.Join
import Derived.Lib.IndexAny
namespace Go.Proofs.YtdhmmepcnladcaaDoor

/-! ### The library's words, by segments -/
theorem index_free (x : List UInt8) (c : UInt8) (h : c ∉ x) : Lib.index x [c] = -1 := by
  rw [Lib.index_one, indexByte_tw, if_neg h]
theorem index_seg (x r : List UInt8) (c : UInt8) (h : c ∉ x) : Lib.index (x ++ c :: r) [c] = x.length := by
  rw [Lib.index_one, indexByte_tw, if_pos (by simp), List.takeWhile_append_of_pos (fun b hb => by simp only [bne_iff_ne, ne_eq]; exact fun e => h (e ▸ hb))]
  simp
theorem drop_seg (x r : List UInt8) (c : UInt8) : (x ++ c :: r).drop (((x.length : Nat) : Int).toNat + ([c] : List UInt8).length) = r := by
  rw [Int.toNat_natCast]
  show List.drop (x.length + 1) _ = r
  rw [← List.drop_drop, List.drop_left]
  rfl
theorem count_seg (c : UInt8) : ∀ (fuel : Nat) (L : List (List UInt8)), L.length ≤ fuel → (∀ x ∈ L, c ∉ x) → Lib.countFrom [c] fuel (joinC c L) = L.length - 1 := by
  intro fuel
  induction fuel with
  | zero => intro L h _; have : L = [] := List.eq_nil_of_length_eq_zero (by omega); subst this; rfl
  | succ f ih =>
    intro L h hx
    match L, h, hx with
    | [], _, _ => rfl
    | [x], _, hx =>
      show (if Lib.index x [c] == -1 then 0 else _) = 0
      rw [index_free x c (hx x (by simp))]
      rfl
    | x :: y :: r, h, hx =>
      rw [joinC_cons, Lib.countFrom, index_seg x _ c (hx x (by simp)), drop_seg, ih (y :: r) (by simp at h ⊢; omega) (fun z hz => hx z (by simp at hz ⊢; exact .inr hz))]
      have : ((x.length : Int) == -1) = false := by simp
      rw [this]
      simp
      omega
theorem joinC_len (c : UInt8) : ∀ (L : List (List UInt8)), L.length ≤ (joinC c L).length + 1 := by
  intro L
  induction L with
  | nil => simp
  | cons x L ih =>
    match L, ih with
    | [], _ => simp
    | y :: r, ih =>
      rw [joinC_cons]
      simp only [List.length_cons, List.length_append] at ih ⊢
      omega
theorem count_split (c : UInt8) (l : List UInt8) : Lib.count l [c] = (splitC c l).length - 1 := by
  have h := count_seg c (l.length + 1) (splitC c l) (by have := joinC_len c (splitC c l); rw [join_split] at this; exact this) (splitC_free c l)
  rw [join_split] at h
  exact h
theorem splitK_seg (c : UInt8) : ∀ (L : List (List UInt8)), L ≠ [] → (∀ x ∈ L, c ∉ x) → Lib.splitK [c] 0 (L.length - 1) (joinC c L) = L := by
  intro L
  induction L with
  | nil => intro h; exact absurd rfl h
  | cons x L ih =>
    intro _ hx
    match L, ih, hx with
    | [], _, _ => rfl
    | y :: r, ih, hx =>
      have h1 := ih (by simp) (fun z hz => hx z (by simp at hz ⊢; exact .inr hz))
      show Lib.splitK [c] 0 ((y :: r).length - 1 + 1) (joinC c (x :: y :: r)) = _
      rw [joinC_cons, Lib.splitK, index_seg x _ c (hx x (by simp)), drop_seg, h1]
      have : ((x.length : Int) == -1) = false := by simp
      rw [this]
      simp
theorem splitK_split (c : UInt8) (l : List UInt8) : Lib.splitK [c] 0 (Lib.count l [c]) l = splitC c l := by
  have h := splitK_seg c (splitC c l) (splitC_ne c l) (splitC_free c l)
  rw [join_split, ← count_split] at h
  exact h
theorem splitB_split (c : UInt8) (l : List UInt8) : (Lib.splitB ⟨#[c]⟩ 0 (Lib.countB ⟨l.toArray⟩ ⟨#[c]⟩) ⟨l.toArray⟩).map Value.string = (splitC c l).map str ∧ Lib.countB ⟨l.toArray⟩ ⟨#[c]⟩ + 1 = (splitC c l).length := by
  have hc : Lib.countB ⟨l.toArray⟩ ⟨#[c]⟩ = Lib.count l [c] := rfl
  have hd := Lib.splitB_data ⟨#[c]⟩ 0 (Lib.count l [c]) ⟨l.toArray⟩
  constructor
  · rw [hc]
    have h2 := splitK_split c l
    have e : ∀ L : List ByteArray, L.map Value.string = (L.map (fun s => s.data.toList)).map str := by
      intro L
      rw [List.map_map]
      exact List.map_congr_left fun x _ => str_of x
    rw [e]
    congr 1
    exact hd.trans h2
  · rw [hc, count_split]
    have := splitC_ne c l
    have : (splitC c l).length ≠ 0 := fun h => this (List.eq_nil_of_length_eq_zero h)
    omega
theorem splitC_len (c : UInt8) (l : List UInt8) : (splitC c l).length ≤ l.length + 1 := by
  have := joinC_len c (splitC c l)
  rwa [join_split] at this
theorem join_joinC (c : UInt8) : ∀ L : List (List UInt8), Lib.join L [c] = joinC c L
  | [] => rfl
  | [x] => Lib.join_one x [c]
  | x :: y :: r => by
    have ih := join_joinC c (y :: r)
    rw [joinC_cons, ← ih]
    simp [Lib.join, List.intercalate, List.intersperse]
theorem indexAny_tw (l : List UInt8) : Lib.indexAny l [58, 47] = if l.dropWhile stopCS = [] then -1 else ((l.takeWhile stopCS).length : Int) := by
  induction l with
  | nil => rfl
  | cons b l ih =>
    unfold Lib.indexAny
    by_cases h : stopCS b = true
    · have hc : ([58, 47] : List UInt8).contains b = false := by
        unfold stopCS at h
        simp only [Bool.and_eq_true, bne_iff_ne, ne_eq] at h
        simp [h.1, h.2]
      rw [hc, ih]
      simp only [Bool.false_eq_true, if_false, List.dropWhile_cons, h, if_true, List.takeWhile_cons]
      by_cases hd : l.dropWhile stopCS = []
      · rw [if_pos hd, if_pos hd]; rfl
      · rw [if_neg hd, if_neg hd, if_neg (by simp)]
        simp
    · have hc : ([58, 47] : List UInt8).contains b = true := by
        by_cases e : b = 58
        · simp [e]
        · by_cases e2 : b = 47
          · simp [e2]
          · exact absurd (by simp [stopCS, e, e2]) h
      rw [hc]
      simp only [if_true, List.dropWhile_cons, List.takeWhile_cons, h, if_false]
      simp
/-- The place of the first : or /, and what stands there. -/
theorem place_cs {l : List UInt8} {c : UInt8} {r : List UInt8} (h : l.dropWhile stopCS = c :: r) : (l.takeWhile stopCS).length < l.length ∧ nth l (l.takeWhile stopCS).length = c.toNat ∧ l.take (l.takeWhile stopCS).length = l.takeWhile stopCS ∧ l.drop ((l.takeWhile stopCS).length + 1) = r := by
  have e := List.takeWhile_append_dropWhile (p := stopCS) (l := l)
  rw [h] at e
  generalize l.takeWhile stopCS = x at e
  subst e
  refine ⟨by simp, ?_, by simp, by rw [← List.drop_drop, List.drop_left]; rfl⟩
  rw [nth_of _ _ (by simp)]
  simp
theorem lastIdx_range (l : List UInt8) : -1 ≤ Lib.lastIndexByte ⟨l.toArray⟩ 47 ∧ Lib.lastIndexByte ⟨l.toArray⟩ 47 < l.length := by
  have hsz : (⟨l.toArray⟩ : ByteArray).size = l.length := by simp [ByteArray.size]
  rcases Lib.lastIndexByte_spec ⟨l.toArray⟩ 47 with ⟨h, _⟩ | ⟨i, hi, h, _⟩
  · rw [h]; omega
  · rw [h]; rw [hsz] at hi; omega
theorem not47_stop (l : List UInt8) : Lib.indexByte l 47 = if l.dropWhile not47 = [] then -1 else ((l.takeWhile not47).length : Int) := by
  rw [indexByte_tw]
  by_cases h : (47 : UInt8) ∈ l
  · rw [if_pos h, if_neg]
    · rfl
    · obtain ⟨x, y, rfl, hx⟩ := first_of l 47 h
      rw [List.dropWhile_append_of_pos (fun b hb => by simp [not47, hx b hb])]
      simp [not47]
  · rw [if_neg h, if_pos]
    have hall : ∀ b ∈ l, not47 b = true := by
      intro b hb
      simp only [not47, bne_iff_ne, ne_eq]
      exact fun e => h (e ▸ hb)
    have := (takeWhile_all hall []).2
    rw [List.append_nil] at this
    exact this
theorem tw_take (p : UInt8 → Bool) (l : List UInt8) : l.take (l.takeWhile p).length = l.takeWhile p ∧ l.drop (l.takeWhile p).length = l.dropWhile p := by
  have e := List.takeWhile_append_dropWhile (p := p) (l := l)
  constructor
  · have := congrArg (List.take (l.takeWhile p).length) e
    rw [List.take_left] at this
    exact this.symm
  · have := congrArg (List.drop (l.takeWhile p).length) e
    rw [List.drop_left] at this
    exact this.symm
end Go.Proofs.YtdhmmepcnladcaaDoor
