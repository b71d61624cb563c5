import Derived.Test.YtdhmmepcnladcaaDoorUrlP
import Derived.Test.YtdhmmepcnladcaaDoorTokM
import Derived.Lib.SlTrimSet
namespace Go.Proofs.YtdhmmepcnladcaaDoor

/-! ### Fields, as data; what package header computes -/
structure FieldD where
  name : List UInt8
  value : List UInt8
def FieldD.cells (f : FieldD) : List Value := [str f.name, str f.value]
def badVal (x : Nat) : Bool := decide (x < 32) || decide (126 < x)
/-- header.Value. -/
def valB (s : List UInt8) : Bool := decide (s.length ≤ 900) && (s == Lib.trimS s [32]) && !s.any (fun b => badVal b.toNat)
def okF (f : FieldD) : Bool := tokB f.name && valB f.value
/-- header.Check. -/
def chkF (l : List FieldD) : Nat := if 20 < l.length then 2 else if l.all okF then 0 else 1
def lineF (f : FieldD) : List UInt8 := f.name ++ [58, 32] ++ f.value ++ [13, 10]
/-- header.Text. -/
def textF (l : List FieldD) : List UInt8 := l.flatMap lineF ++ [13, 10]
/-- header.Print. -/
def printF (l : List FieldD) : List UInt8 × Nat := if chkF l = 0 then (textF l, 0) else ([], chkF l)
/-- A line without the end that it may have. -/
def chopF (line : List UInt8) : List UInt8 := if Lib.hasSuffix line [13] then line.take (line.length - 1) else line
def blankF (x : Nat) : Bool := x == 32 || x == 9
/-- The last field's value goes on. -/
def moreF (l : List FieldD) (line : List UInt8) : List FieldD :=
  match l.getLast? with
  | none => l
  | some f => l.dropLast ++ [{ f with value := Lib.trimS (f.value ++ 32 :: Lib.trimS line [32, 9]) [32] }]
/-- One line that isn't empty. -/
def goF (l : List FieldD) (line : List UInt8) : Option (List FieldD) :=
  if blankF (nth line 0) then (if l = [] then none else some (moreF l line))
  else if (Lib.cut line [58]).2.2 then some (l ++ [⟨(Lib.cut line [58]).1, Lib.trimS (Lib.cut line [58]).2.1 [32, 9]⟩]) else none
/-- The fields, what is behind them, what is wrong. -/
def linesF : Nat → List UInt8 → List FieldD → List FieldD × List UInt8 × Nat
  | 0, _, _ => ([], [], 1)
  | k + 1, s, l =>
    if (Lib.cut s [10]).2.2 = false then ([], [], 1)
    else if chopF (Lib.cut s [10]).1 = [] then (if chkF l = 0 then (l, (Lib.cut s [10]).2.1, 0) else ([], [], chkF l))
    else match goF l (chopF (Lib.cut s [10]).1) with
      | none => ([], [], 1)
      | some m => if 20 < m.length then ([], [], 2) else linesF k (Lib.cut s [10]).2.1 m
/-- header.Parse. -/
def parseF (b : List UInt8) : List FieldD × Nat × Nat :=
  if 40000 < b.length then ([], 0, 2)
  else if (linesF (b.length + 1) b []).2.2 = 0 then ((linesF (b.length + 1) b []).1, b.length - (linesF (b.length + 1) b []).2.1.length, 0)
  else ([], 0, (linesF (b.length + 1) b []).2.2)

/-! ### Trims -/
theorem trim_pad (a l b cs : List UInt8) (ha : ∀ x ∈ a, cs.contains x = true) (hb : ∀ x ∈ b, cs.contains x = true) (h0 : ∀ x, l.head? = some x → cs.contains x = false) (h1 : ∀ x, l.getLast? = some x → cs.contains x = false) : Lib.trimS (a ++ l ++ b) cs = l := by
  unfold Lib.trimS Lib.trimLeftS Lib.trimRightS
  rw [List.reverse_append, List.reverse_append, List.dropWhile_append_of_pos (fun x hx => hb x (List.mem_reverse.1 hx))]
  cases hl : l.getLast? with
  | none =>
    have : l = [] := List.getLast?_eq_none_iff.1 hl
    subst this
    rw [List.reverse_nil, List.nil_append]
    have e : a.reverse.dropWhile (cs.contains ·) = [] := by
      have := List.dropWhile_append_of_pos (p := (cs.contains ·)) (l₁ := a.reverse) (l₂ := []) (fun x hx => ha x (List.mem_reverse.1 hx))
      rw [List.append_nil] at this
      exact this
    rw [e]
    rfl
  | some z =>
    have hr : l.reverse = z :: l.reverse.tail := by
      have : l.reverse.head? = some z := by rw [List.head?_reverse, hl]
      cases h : l.reverse with
      | nil => rw [h] at this; cases this
      | cons y r => rw [h] at this; injection this with this; subst this; rfl
    have hz := h1 z hl
    have e : (l.reverse ++ a.reverse).dropWhile (cs.contains ·) = l.reverse ++ a.reverse := by
      rw [hr, List.cons_append, List.dropWhile_cons, if_neg (by rw [hz]; simp)]
    rw [e, List.reverse_append, List.reverse_reverse, List.reverse_reverse, List.dropWhile_append_of_pos ha]
    cases l with
    | nil => rfl
    | cons y r => rw [List.dropWhile_cons, if_neg (by rw [h0 y rfl]; simp)]
theorem trim_left (l cs : List UInt8) : ∀ x, (Lib.trimS l cs).head? = some x → cs.contains x = false := fun x h => head_stop _ _ x h
theorem getLast_suffix {a b : List UInt8} (h : a <:+ b) (h0 : a ≠ []) : a.getLast? = b.getLast? := by
  obtain ⟨t, rfl⟩ := h
  rw [List.getLast?_append]
  cases ha : a.getLast? with
  | none => exact absurd (List.getLast?_eq_none_iff.1 ha) h0
  | some z => rfl
theorem trim_right (l cs : List UInt8) : ∀ x, (Lib.trimS l cs).getLast? = some x → cs.contains x = false := by
  intro x h
  have h0 : Lib.trimS l cs ≠ [] := fun e => by rw [e] at h; cases h
  have hs : Lib.trimS l cs <:+ Lib.trimRightS l cs := List.dropWhile_suffix _
  rw [getLast_suffix hs h0] at h
  unfold Lib.trimRightS at h
  rw [List.getLast?_reverse] at h
  exact head_stop _ _ x h
theorem trim_len (l cs : List UInt8) : (Lib.trimS l cs).length ≤ l.length := by
  unfold Lib.trimS Lib.trimLeftS Lib.trimRightS
  have h1 := (List.dropWhile_suffix (cs.contains ·) (l := (l.reverse.dropWhile (cs.contains ·)).reverse)).length_le
  have h2 := (List.dropWhile_suffix (cs.contains ·) (l := l.reverse)).length_le
  rw [List.length_reverse] at h1 h2
  omega
theorem trim_mem {l cs : List UInt8} {x : UInt8} (h : x ∈ Lib.trimS l cs) : x ∈ l := by
  unfold Lib.trimS Lib.trimLeftS Lib.trimRightS at h
  have h1 := (List.dropWhile_suffix _).subset h
  rw [List.mem_reverse] at h1
  exact List.mem_reverse.1 ((List.dropWhile_suffix _).subset h1)

/-! ### Tokens and values -/
theorem tok_mem {s : List UInt8} (h : tokB s = true) : s ≠ [] ∧ s.length ≤ 30 ∧ ∀ b ∈ s, 32 < b.toNat ∧ b.toNat ≤ 126 ∧ b ∉ tspec := by
  unfold tokB at h
  simp only [Bool.and_eq_true, Bool.not_eq_true', beq_eq_false_iff_ne, ne_eq, decide_eq_true_eq] at h
  refine ⟨h.1.1, h.1.2, fun b hb => ?_⟩
  have := List.any_eq_false.1 h.2 b hb
  unfold badTok idxB at this
  rw [ofNat_toNat8] at this
  simp only [Bool.or_eq_true, decide_eq_true_eq, not_or] at this
  refine ⟨by omega, by omega, ?_⟩
  exact (indexByte_neg tspec b).1 (by omega)
theorem val_mem {s : List UInt8} (h : valB s = true) : s.length ≤ 900 ∧ s = Lib.trimS s [32] ∧ ∀ b ∈ s, 32 ≤ b.toNat ∧ b.toNat ≤ 126 := by
  unfold valB at h
  simp only [Bool.and_eq_true, Bool.not_eq_true', beq_iff_eq, decide_eq_true_eq] at h
  refine ⟨h.1.1, h.1.2, fun b hb => ?_⟩
  have := List.any_eq_false.1 h.2 b hb
  unfold badVal at this
  simp only [Bool.or_eq_true, decide_eq_true_eq, not_or] at this
  omega
theorem val_ends {s : List UInt8} (h : valB s = true) : (∀ x, s.head? = some x → x ≠ 32 ∧ x ≠ 9) ∧ (∀ x, s.getLast? = some x → x ≠ 32 ∧ x ≠ 9) := by
  obtain ⟨_, ht, hm⟩ := val_mem h
  refine ⟨fun x hx => ⟨?_, ?_⟩, fun x hx => ⟨?_, ?_⟩⟩
  · rw [ht] at hx
    have := trim_left s [32] x hx
    intro e
    rw [e] at this
    cases this
  · have h1 := (hm x (List.mem_of_mem_head? (by rw [hx]; rfl))).1
    intro e
    rw [e] at h1
    exact absurd h1 (by decide)
  · rw [ht] at hx
    have := trim_right s [32] x hx
    intro e
    rw [e] at this
    cases this
  · have h1 := (hm x (List.mem_of_getLast? hx)).1
    intro e
    rw [e] at h1
    exact absurd h1 (by decide)
theorem has_tab {x : UInt8} (h : x ≠ 32 ∧ x ≠ 9) : ([32, 9] : List UInt8).contains x = false := by
  simp [h.1, h.2]
theorem val_trim {s : List UInt8} (h : valB s = true) : Lib.trimS (32 :: s) [32, 9] = s := by
  obtain ⟨h0, h1⟩ := val_ends h
  have := trim_pad [32] s [] [32, 9] (by decide) (by simp) (fun x hx => has_tab (h0 x hx)) (fun x hx => has_tab (h1 x hx))
  rw [List.append_nil] at this
  exact this
theorem chk_len {l : List FieldD} (h : chkF l = 0) : l.length ≤ 20 ∧ ∀ f ∈ l, okF f = true := by
  unfold chkF at h
  split at h
  · cases h
  · split at h
    · rename_i h1 h2; exact ⟨by omega, List.all_eq_true.1 h2⟩
    · cases h
theorem ok_field {f : FieldD} (h : okF f = true) : tokB f.name = true ∧ valB f.value = true := by
  unfold okF at h
  rwa [Bool.and_eq_true] at h
theorem lineF_len {f : FieldD} (h : okF f = true) : (lineF f).length ≤ 934 := by
  obtain ⟨h1, h2⟩ := ok_field h
  have a := (tok_mem h1).2.1
  have b := (val_mem h2).1
  unfold lineF
  simp only [List.length_append, List.length_cons, List.length_nil]
  omega
theorem textF_len : ∀ {l : List FieldD}, (∀ f ∈ l, okF f = true) → (textF l).length ≤ 934 * l.length + 2
  | [], _ => by decide
  | f :: r, h => by
    have h1 := lineF_len (h f (by simp))
    have h2 := textF_len (l := r) (fun g hg => h g (by simp [hg]))
    unfold textF at h2 ⊢
    rw [List.flatMap_cons]
    simp only [List.length_append, List.length_cons, List.length_nil] at h2 ⊢
    omega
theorem text_len {l : List FieldD} (h : chkF l = 0) : (textF l).length ≤ 18682 := by
  obtain ⟨h1, h2⟩ := chk_len h
  have := textF_len h2
  omega

/-! ### What is printed is read -/
theorem suffix_13 (x : List UInt8) : Lib.hasSuffix (x ++ [13]) [13] = true := by
  unfold Lib.hasSuffix
  rw [List.isSuffixOf_iff_suffix]
  exact List.suffix_append _ _
theorem chop_13 (x : List UInt8) : chopF (x ++ [13]) = x := by
  unfold chopF
  rw [if_pos (suffix_13 x)]
  simp
theorem parse_line {f : FieldD} (h : okF f = true) (rest : List UInt8) : Lib.cut (lineF f ++ rest) [10] = (f.name ++ [58, 32] ++ f.value ++ [13], rest, true) := by
  obtain ⟨h1, h2⟩ := ok_field h
  have m1 := (tok_mem h1).2.2
  have m2 := (val_mem h2).2.2
  have e : lineF f ++ rest = (f.name ++ [58, 32] ++ f.value ++ [13]) ++ 10 :: rest := by unfold lineF; simp
  rw [e]
  refine cut_app _ _ _ ?_
  intro b hb
  simp only [List.mem_append, List.mem_cons, List.not_mem_nil, or_false] at hb
  rcases hb with ((hb | rfl | rfl) | hb) | rfl
  · intro e; have := (m1 b hb).1; rw [e] at this; exact absurd this (by decide)
  · decide
  · decide
  · intro e; have := (m2 b hb).1; rw [e] at this; exact absurd this (by decide)
  · decide
theorem go_line {f : FieldD} (h : okF f = true) (l : List FieldD) : f.name ++ [58, 32] ++ f.value ≠ [] ∧ goF l (f.name ++ [58, 32] ++ f.value) = some (l ++ [f]) := by
  obtain ⟨h1, h2⟩ := ok_field h
  obtain ⟨n0, _, m1⟩ := tok_mem h1
  refine ⟨by simp, ?_⟩
  have hb : blankF (nth (f.name ++ [58, 32] ++ f.value) 0) = false := by
    cases hn : f.name with
    | nil => exact absurd hn n0
    | cons a r =>
      have := (m1 a (by rw [hn]; simp)).1
      show blankF a.toNat = false
      unfold blankF
      simp
      omega
  have hc : Lib.cut (f.name ++ [58, 32] ++ f.value) [58] = (f.name, 32 :: f.value, true) := by
    have e : f.name ++ [58, 32] ++ f.value = f.name ++ 58 :: (32 :: f.value) := by simp
    rw [e]
    refine cut_app _ _ _ fun b hb e => ?_
    have := (m1 b hb).2.2
    rw [e] at this
    exact this (by decide)
  unfold goF
  rw [hb, hc, val_trim h2]
  rfl
theorem lines_text : ∀ (m acc : List FieldD) (k : Nat) (more : List UInt8), chkF (acc ++ m) = 0 → m.length < k → linesF k (textF m ++ more) acc = (acc ++ m, more, 0) := by
  intro m
  induction m with
  | nil =>
    intro acc k more hc hk
    obtain ⟨k, rfl⟩ : ∃ j, k = j + 1 := ⟨k - 1, by simp at hk; omega⟩
    have e : Lib.cut (textF [] ++ more) [10] = ([13], more, true) := cut_app [13] more 10 (by decide)
    rw [linesF, e, if_neg (by simp), if_pos (show chopF [13] = [] by decide)]
    rw [List.append_nil] at hc ⊢
    rw [if_pos hc]
  | cons f r ih =>
    intro acc k more hc hk
    obtain ⟨k, rfl⟩ : ∃ j, k = j + 1 := ⟨k - 1, by simp at hk; omega⟩
    obtain ⟨hl, ho⟩ := chk_len hc
    have hf := ho f (by simp)
    have e0 : textF (f :: r) ++ more = lineF f ++ (textF r ++ more) := by unfold textF; simp
    obtain ⟨g0, g1⟩ := go_line hf acc
    rw [e0, linesF, parse_line hf, if_neg (by simp)]
    simp only
    rw [chop_13, if_neg g0, g1]
    simp only
    have hl2 : ¬ 20 < (acc ++ [f]).length := by simp only [List.length_append, List.length_cons, List.length_nil] at hl ⊢; omega
    rw [if_neg hl2]
    have := ih (acc ++ [f]) k more (by rw [List.append_assoc]; exact hc) (by simp at hk; omega)
    rw [this]
    simp
theorem parse_text {l : List FieldD} (h : chkF l = 0) : parseF (textF l) = (l, (textF l).length, 0) := by
  have hl := text_len h
  have hc := (chk_len h).1
  have hk : l.length < (textF l).length + 1 := by
    have : ∀ m : List FieldD, m.length ≤ (textF m).length := by
      intro m
      induction m with
      | nil => simp
      | cons f r ih => unfold textF lineF at ih ⊢; simp only [List.flatMap_cons, List.length_append, List.length_cons, List.length_nil] at ih ⊢; omega
    have := this l
    omega
  have h1 := lines_text l [] ((textF l).length + 1) [] h hk
  rw [List.append_nil, List.nil_append] at h1
  unfold parseF
  rw [if_neg (by omega), h1]
  simp

/-! ### What is read -/
theorem lines_back : ∀ (k : Nat) (s : List UInt8) (l m : List FieldD) (rest : List UInt8), linesF k s l = (m, rest, 0) → chkF m = 0 ∧ ∃ pre, s = pre ++ rest ∧ ∀ k' more, pre.length < k' → linesF k' (pre ++ more) l = (m, more, 0) := by
  intro k
  induction k with
  | zero => intro s l m rest h; rw [linesF] at h; cases h
  | succ k ih =>
    intro s l m rest h
    rw [linesF] at h
    by_cases hm : (10 : UInt8) ∈ s
    · obtain ⟨x, y, rfl, hx⟩ := first_of s 10 hm
      rw [cut_app x y 10 hx, if_neg (by simp)] at h
      simp only at h
      by_cases hc : chopF x = []
      · rw [if_pos hc] at h
        by_cases hk : chkF l = 0
        · rw [if_pos hk] at h
          injection h with h1 h2
          injection h2 with h2 _
          subst h1; subst h2
          refine ⟨hk, x ++ [10], by simp, fun k' more hk' => ?_⟩
          obtain ⟨k', rfl⟩ : ∃ j, k' = j + 1 := ⟨k' - 1, by omega⟩
          have e : x ++ [10] ++ more = x ++ 10 :: more := by simp
          rw [e, linesF, cut_app x more 10 hx, if_neg (by simp)]
          simp only
          rw [if_pos hc, if_pos hk]
        · rw [if_neg hk] at h
          injection h with _ h
          injection h with _ h
          exact absurd h hk
      · rw [if_neg hc] at h
        cases hg : goF l (chopF x) with
        | none => rw [hg] at h; cases h
        | some l2 =>
          rw [hg] at h
          simp only at h
          by_cases h20 : 20 < l2.length
          · rw [if_pos h20] at h; cases h
          · rw [if_neg h20] at h
            obtain ⟨c0, pre, hy, hmo⟩ := ih y l2 m rest h
            refine ⟨c0, x ++ 10 :: pre, by rw [hy]; simp, fun k' more hk' => ?_⟩
            obtain ⟨k', rfl⟩ : ∃ j, k' = j + 1 := ⟨k' - 1, by omega⟩
            have e : x ++ 10 :: pre ++ more = x ++ 10 :: (pre ++ more) := by simp
            rw [e, linesF, cut_app x _ 10 hx, if_neg (by simp)]
            simp only
            rw [if_neg hc, hg]
            simp only
            rw [if_neg h20]
            refine hmo k' more ?_
            simp only [List.length_append, List.length_cons] at hk'
            omega
    · rw [cut_not s 10 (fun b hb e => hm (e ▸ hb)), if_pos rfl] at h
      cases h
theorem parse_back {b : List UInt8} {l : List FieldD} {k : Nat} (h : parseF b = (l, k, 0)) :
    chkF l = 0 ∧ k ≤ b.length ∧ b.length ≤ 40000 ∧ ∀ more, (b.take k ++ more).length ≤ 40000 → parseF (b.take k ++ more) = (l, k, 0) := by
  unfold parseF at h
  by_cases h0 : 40000 < b.length
  · rw [if_pos h0] at h; cases h
  · rw [if_neg h0] at h
    rcases hr : linesF (b.length + 1) b [] with ⟨m, rest, e⟩
    rw [hr] at h
    simp only at h
    by_cases he : e = 0
    · subst he
      rw [if_pos rfl] at h
      injection h with h1 h2
      injection h2 with h2 _
      subst h1
      obtain ⟨c0, pre, hb, hmo⟩ := lines_back _ _ _ _ _ hr
      have hk : k = pre.length := by rw [← h2, hb, List.length_append]; omega
      refine ⟨c0, by rw [hk, hb, List.length_append]; omega, by omega, fun more hl => ?_⟩
      have ht : b.take k = pre := by rw [hk, hb, List.take_left]
      rw [ht] at hl ⊢
      have h1 := hmo ((pre ++ more).length + 1) more (by rw [List.length_append]; omega)
      unfold parseF
      rw [if_neg (by omega), h1, hk]
      simp
    · rw [if_neg he] at h
      injection h with _ h
      injection h with _ h
      exact absurd h he
theorem parse_many {b : List UInt8} (h : 40000 < b.length) : parseF b = ([], 0, 2) := by unfold parseF; rw [if_pos h]
theorem parse_ok {b : List UInt8} {l : List FieldD} {k e : Nat} (h : parseF b = (l, k, e)) (he : e ≠ 0) : l = [] ∧ k = 0 := by
  unfold parseF at h
  split at h
  · injection h with h1 h2; injection h2 with h2 _; exact ⟨h1.symm, h2.symm⟩
  · split at h
    · injection h with _ h2; injection h2 with _ h2; exact absurd h2.symm he
    · injection h with h1 h2; injection h2 with h2 _; exact ⟨h1.symm, h2.symm⟩
end Go.Proofs.YtdhmmepcnladcaaDoor
