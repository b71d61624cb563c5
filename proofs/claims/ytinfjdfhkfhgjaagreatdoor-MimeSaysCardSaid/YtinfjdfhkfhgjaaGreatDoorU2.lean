import Derived.Test.YtinfjdfhkfhgjaaGreatDoorU1
import Derived.Lib.SlTrimSet
import Derived.Lib.Fold
import Derived.Lib.Case
import Derived.KernelRfl
import Derived.Lib.IndexLaws
import Derived.Lib.IndexMore
import Derived.Lib.Replace
import Derived.Lib.Split
import Derived.Lib.ItoaNum
set_option maxRecDepth 100000
set_option maxHeartbeats 40000000
namespace Go.Proofs.YtinfjdfhkfhgjaaGreatDoor
structure FieldD where
 name : List UInt8
 value : List UInt8
def FieldD.cells (f : FieldD) : List Value := [str f.name, str f.value]
def badVal (x : Nat) : Bool := decide (x < 32) || decide (126 < x)
/-- header.Value. -/
def valB (s : List UInt8) : Bool := decide (s.length ≤ 900) && (s == Lib.trimS s [32]) && !s.any (fun b => badVal b.toNat)
def okF (f : FieldD) : Bool := tokB f.name && valB f.value
/-- header.Check. -/
def chkF (l : List FieldD) : Nat := if 20 < l.length then 2 else if l.all okF then 0 else 1
def lineF (f : FieldD) : List UInt8 := f.name ++ [58, 32] ++ f.value ++ [13, 10]
/-- header.Text. -/
def textF (l : List FieldD) : List UInt8 := l.flatMap lineF ++ [13, 10]
/-- A line without the end that it may have. -/
def chopF (line : List UInt8) : List UInt8 := if Lib.hasSuffix line [13] then line.take (line.length - 1) else line
def blankF (x : Nat) : Bool := x == 32 || x == 9
/-- The last field's value goes on. -/
def moreF (l : List FieldD) (line : List UInt8) : List FieldD :=
 match l.getLast? with
 | none => l
 | some f => l.dropLast ++ [{ f with value := Lib.trimS (f.value ++ 32 :: Lib.trimS line [32, 9]) [32] }]
/-- One line that isn't empty. -/
def goF (l : List FieldD) (line : List UInt8) : Option (List FieldD) :=
 if blankF (nth line 0) then (if l = [] then none else some (moreF l line))
 else if (Lib.cut line [58]).2.2 then some (l ++ [⟨(Lib.cut line [58]).1, Lib.trimS (Lib.cut line [58]).2.1 [32, 9]⟩]) else none
/-- The fields, what is behind them, what is wrong. -/
def linesF : Nat → List UInt8 → List FieldD → List FieldD × List UInt8 × Nat
 | 0, _, _ => ([], [], 1)
 | k + 1, s, l =>
  if (Lib.cut s [10]).2.2 = false then ([], [], 1)
  else if chopF (Lib.cut s [10]).1 = [] then (if chkF l = 0 then (l, (Lib.cut s [10]).2.1, 0) else ([], [], chkF l))
  else match goF l (chopF (Lib.cut s [10]).1) with
   | none => ([], [], 1)
   | some m => if 20 < m.length then ([], [], 2) else linesF k (Lib.cut s [10]).2.1 m
/-- header.Parse. -/
def parseF (b : List UInt8) : List FieldD × Nat × Nat :=
 if 40000 < b.length then ([], 0, 2)
 else if (linesF (b.length + 1) b []).2.2 = 0 then ((linesF (b.length + 1) b []).1, b.length - (linesF (b.length + 1) b []).2.1.length, 0)
 else ([], 0, (linesF (b.length + 1) b []).2.2)
theorem trim_pad (a l b cs : List UInt8) (ha : ∀ x ∈ a, cs.contains x = true) (hb : ∀ x ∈ b, cs.contains x = true) (h0 : ∀ x, l.head? = some x → cs.contains x = false) (h1 : ∀ x, l.getLast? = some x → cs.contains x = false) : Lib.trimS (a ++ l ++ b) cs = l := by
 unfold Lib.trimS Lib.trimLeftS Lib.trimRightS
 rw [List.reverse_append, List.reverse_append, List.dropWhile_append_of_pos (fun x hx => hb x (List.mem_reverse.1 hx))]
 cases hl : l.getLast? with
 | none =>
  have : l = [] := List.getLast?_eq_none_iff.1 hl
  subst this
  rw [List.reverse_nil, List.nil_append]
  have e : a.reverse.dropWhile (cs.contains ·) = [] := by
   have := List.dropWhile_append_of_pos (p := (cs.contains ·)) (l₁ := a.reverse) (l₂ := []) (fun x hx => ha x (List.mem_reverse.1 hx))
   rw [List.append_nil] at this
   exact this
  rw [e]
  rfl
 | some z =>
  have hr : l.reverse = z :: l.reverse.tail := by
   have : l.reverse.head? = some z := by rw [List.head?_reverse, hl]
   cases h : l.reverse with
   | nil => rw [h] at this; cases this
   | cons y r => rw [h] at this; injection this with this; subst this; rfl
  have hz := h1 z hl
  have e : (l.reverse ++ a.reverse).dropWhile (cs.contains ·) = l.reverse ++ a.reverse := by
   rw [hr, List.cons_append, List.dropWhile_cons, if_neg (by rw [hz]; simp)]
  rw [e, List.reverse_append, List.reverse_reverse, List.reverse_reverse, List.dropWhile_append_of_pos ha]
  cases l with
  | nil => rfl
  | cons y r => rw [List.dropWhile_cons, if_neg (by rw [h0 y rfl]; simp)]
theorem trim_left (l cs : List UInt8) : ∀ x, (Lib.trimS l cs).head? = some x → cs.contains x = false := fun x h => head_stop _ _ x h
theorem getLast_suffix {a b : List UInt8} (h : a <:+ b) (h0 : a ≠ []) : a.getLast? = b.getLast? := by
 obtain ⟨t, rfl⟩ := h
 rw [List.getLast?_append]
 cases ha : a.getLast? with
 | none => exact absurd (List.getLast?_eq_none_iff.1 ha) h0
 | some z => rfl
theorem trim_right (l cs : List UInt8) : ∀ x, (Lib.trimS l cs).getLast? = some x → cs.contains x = false := by
 intro x h
 have h0 : Lib.trimS l cs ≠ [] := fun e => by rw [e] at h; cases h
 have hs : Lib.trimS l cs <:+ Lib.trimRightS l cs := List.dropWhile_suffix _
 rw [getLast_suffix hs h0] at h
 unfold Lib.trimRightS at h
 rw [List.getLast?_reverse] at h
 exact head_stop _ _ x h
theorem trim_len (l cs : List UInt8) : (Lib.trimS l cs).length ≤ l.length := by
 unfold Lib.trimS Lib.trimLeftS Lib.trimRightS
 have h1 := (List.dropWhile_suffix (cs.contains ·) (l := (l.reverse.dropWhile (cs.contains ·)).reverse)).length_le
 have h2 := (List.dropWhile_suffix (cs.contains ·) (l := l.reverse)).length_le
 rw [List.length_reverse] at h1 h2
 omega
theorem trim_mem {l cs : List UInt8} {x : UInt8} (h : x ∈ Lib.trimS l cs) : x ∈ l := by
 unfold Lib.trimS Lib.trimLeftS Lib.trimRightS at h
 have h1 := (List.dropWhile_suffix _).subset h
 rw [List.mem_reverse] at h1
 exact List.mem_reverse.1 ((List.dropWhile_suffix _).subset h1)
theorem tok_mem {s : List UInt8} (h : tokB s = true) : s ≠ [] ∧ s.length ≤ 30 ∧ ∀ b ∈ s, 32 < b.toNat ∧ b.toNat ≤ 126 ∧ b ∉ tspec := by
 unfold tokB at h
 simp only [Bool.and_eq_true, Bool.not_eq_true', beq_eq_false_iff_ne, ne_eq, decide_eq_true_eq] at h
 refine ⟨h.1.1, h.1.2, fun b hb => ?_⟩
 have := List.any_eq_false.1 h.2 b hb
 unfold badTok idxB at this
 rw [ofNat_toNat8] at this
 simp only [Bool.or_eq_true, decide_eq_true_eq, not_or] at this
 refine ⟨by omega, by omega, ?_⟩
 exact (indexByte_neg tspec b).1 (by omega)
theorem val_mem {s : List UInt8} (h : valB s = true) : s.length ≤ 900 ∧ s = Lib.trimS s [32] ∧ ∀ b ∈ s, 32 ≤ b.toNat ∧ b.toNat ≤ 126 := by
 unfold valB at h
 simp only [Bool.and_eq_true, Bool.not_eq_true', beq_iff_eq, decide_eq_true_eq] at h
 refine ⟨h.1.1, h.1.2, fun b hb => ?_⟩
 have := List.any_eq_false.1 h.2 b hb
 unfold badVal at this
 simp only [Bool.or_eq_true, decide_eq_true_eq, not_or] at this
 omega
theorem val_ends {s : List UInt8} (h : valB s = true) : (∀ x, s.head? = some x → x ≠ 32 ∧ x ≠ 9) ∧ (∀ x, s.getLast? = some x → x ≠ 32 ∧ x ≠ 9) := by
 obtain ⟨_, ht, hm⟩ := val_mem h
 refine ⟨fun x hx => ⟨?_, ?_⟩, fun x hx => ⟨?_, ?_⟩⟩
 · rw [ht] at hx
   have := trim_left s [32] x hx
   intro e
   rw [e] at this
   cases this
 · have h1 := (hm x (List.mem_of_mem_head? (by rw [hx]; rfl))).1
   intro e
   rw [e] at h1
   exact absurd h1 (by decide)
 · rw [ht] at hx
   have := trim_right s [32] x hx
   intro e
   rw [e] at this
   cases this
 · have h1 := (hm x (List.mem_of_getLast? hx)).1
   intro e
   rw [e] at h1
   exact absurd h1 (by decide)
theorem has_tab {x : UInt8} (h : x ≠ 32 ∧ x ≠ 9) : ([32, 9] : List UInt8).contains x = false := by
 simp [h.1, h.2]
theorem val_trim {s : List UInt8} (h : valB s = true) : Lib.trimS (32 :: s) [32, 9] = s := by
 obtain ⟨h0, h1⟩ := val_ends h
 have := trim_pad [32] s [] [32, 9] (by decide) (by simp) (fun x hx => has_tab (h0 x hx)) (fun x hx => has_tab (h1 x hx))
 rw [List.append_nil] at this
 exact this
theorem chk_len {l : List FieldD} (h : chkF l = 0) : l.length ≤ 20 ∧ ∀ f ∈ l, okF f = true := by
 unfold chkF at h
 split at h
 · cases h
 · split at h
   · rename_i h1 h2; exact ⟨by omega, List.all_eq_true.1 h2⟩
   · cases h
theorem ok_field {f : FieldD} (h : okF f = true) : tokB f.name = true ∧ valB f.value = true := by
 unfold okF at h
 rwa [Bool.and_eq_true] at h
theorem lineF_len {f : FieldD} (h : okF f = true) : (lineF f).length ≤ 934 := by
 obtain ⟨h1, h2⟩ := ok_field h
 have a := (tok_mem h1).2.1
 have b := (val_mem h2).1
 unfold lineF
 simp only [List.length_append, List.length_cons, List.length_nil]
 omega
theorem textF_len : ∀ {l : List FieldD}, (∀ f ∈ l, okF f = true) → (textF l).length ≤ 934 * l.length + 2
 | [], _ => by decide
 | f :: r, h => by
  have h1 := lineF_len (h f (by simp))
  have h2 := textF_len (l := r) (fun g hg => h g (by simp [hg]))
  unfold textF at h2 ⊢
  rw [List.flatMap_cons]
  simp only [List.length_append, List.length_cons, List.length_nil] at h2 ⊢
  omega
theorem text_len {l : List FieldD} (h : chkF l = 0) : (textF l).length ≤ 18682 := by
 obtain ⟨h1, h2⟩ := chk_len h
 have := textF_len h2
 omega
theorem suffix_13 (x : List UInt8) : Lib.hasSuffix (x ++ [13]) [13] = true := by
 unfold Lib.hasSuffix
 rw [List.isSuffixOf_iff_suffix]
 exact List.suffix_append _ _
theorem chop_13 (x : List UInt8) : chopF (x ++ [13]) = x := by
 unfold chopF
 rw [if_pos (suffix_13 x)]
 simp
theorem parse_line {f : FieldD} (h : okF f = true) (rest : List UInt8) : Lib.cut (lineF f ++ rest) [10] = (f.name ++ [58, 32] ++ f.value ++ [13], rest, true) := by
 obtain ⟨h1, h2⟩ := ok_field h
 have m1 := (tok_mem h1).2.2
 have m2 := (val_mem h2).2.2
 have e : lineF f ++ rest = (f.name ++ [58, 32] ++ f.value ++ [13]) ++ 10 :: rest := by unfold lineF; simp
 rw [e]
 refine cut_app _ _ _ ?_
 intro b hb
 simp only [List.mem_append, List.mem_cons, List.not_mem_nil, or_false] at hb
 rcases hb with ((hb | rfl | rfl) | hb) | rfl
 · intro e; have := (m1 b hb).1; rw [e] at this; exact absurd this (by decide)
 · decide
 · decide
 · intro e; have := (m2 b hb).1; rw [e] at this; exact absurd this (by decide)
 · decide
theorem go_line {f : FieldD} (h : okF f = true) (l : List FieldD) : f.name ++ [58, 32] ++ f.value ≠ [] ∧ goF l (f.name ++ [58, 32] ++ f.value) = some (l ++ [f]) := by
 obtain ⟨h1, h2⟩ := ok_field h
 obtain ⟨n0, _, m1⟩ := tok_mem h1
 refine ⟨by simp, ?_⟩
 have hb : blankF (nth (f.name ++ [58, 32] ++ f.value) 0) = false := by
  cases hn : f.name with
  | nil => exact absurd hn n0
  | cons a r =>
   have := (m1 a (by rw [hn]; simp)).1
   show blankF a.toNat = false
   unfold blankF
   simp
   omega
 have hc : Lib.cut (f.name ++ [58, 32] ++ f.value) [58] = (f.name, 32 :: f.value, true) := by
  have e : f.name ++ [58, 32] ++ f.value = f.name ++ 58 :: (32 :: f.value) := by simp
  rw [e]
  refine cut_app _ _ _ fun b hb e => ?_
  have := (m1 b hb).2.2
  rw [e] at this
  exact this (by decide)
 unfold goF
 rw [hb, hc, val_trim h2]
 rfl
theorem lines_text : ∀ (m acc : List FieldD) (k : Nat) (more : List UInt8), chkF (acc ++ m) = 0 → m.length < k → linesF k (textF m ++ more) acc = (acc ++ m, more, 0) := by
 intro m
 induction m with
 | nil =>
  intro acc k more hc hk
  obtain ⟨k, rfl⟩ : ∃ j, k = j + 1 := ⟨k - 1, by simp at hk; omega⟩
  have e : Lib.cut (textF [] ++ more) [10] = ([13], more, true) := cut_app [13] more 10 (by decide)
  rw [linesF, e, if_neg (by simp), if_pos (show chopF [13] = [] by decide)]
  rw [List.append_nil] at hc ⊢
  rw [if_pos hc]
 | cons f r ih =>
  intro acc k more hc hk
  obtain ⟨k, rfl⟩ : ∃ j, k = j + 1 := ⟨k - 1, by simp at hk; omega⟩
  obtain ⟨hl, ho⟩ := chk_len hc
  have hf := ho f (by simp)
  have e0 : textF (f :: r) ++ more = lineF f ++ (textF r ++ more) := by unfold textF; simp
  obtain ⟨g0, g1⟩ := go_line hf acc
  rw [e0, linesF, parse_line hf, if_neg (by simp)]
  simp only
  rw [chop_13, if_neg g0, g1]
  simp only
  have hl2 : ¬ 20 < (acc ++ [f]).length := by simp only [List.length_append, List.length_cons, List.length_nil] at hl ⊢; omega
  rw [if_neg hl2]
  have := ih (acc ++ [f]) k more (by rw [List.append_assoc]; exact hc) (by simp at hk; omega)
  rw [this]
  simp
theorem parse_text {l : List FieldD} (h : chkF l = 0) : parseF (textF l) = (l, (textF l).length, 0) := by
 have hl := text_len h
 have hc := (chk_len h).1
 have hk : l.length < (textF l).length + 1 := by
  have : ∀ m : List FieldD, m.length ≤ (textF m).length := by
   intro m
   induction m with
   | nil => simp
   | cons f r ih => unfold textF lineF at ih ⊢; simp only [List.flatMap_cons, List.length_append, List.length_cons, List.length_nil] at ih ⊢; omega
  have := this l
  omega
 have h1 := lines_text l [] ((textF l).length + 1) [] h hk
 rw [List.append_nil, List.nil_append] at h1
 unfold parseF
 rw [if_neg (by omega), h1]
 simp
theorem lines_back : ∀ (k : Nat) (s : List UInt8) (l m : List FieldD) (rest : List UInt8), linesF k s l = (m, rest, 0) → chkF m = 0 ∧ ∃ pre, s = pre ++ rest ∧ ∀ k' more, pre.length < k' → linesF k' (pre ++ more) l = (m, more, 0) := by
 intro k
 induction k with
 | zero => intro s l m rest h; rw [linesF] at h; cases h
 | succ k ih =>
  intro s l m rest h
  rw [linesF] at h
  by_cases hm : (10 : UInt8) ∈ s
  · obtain ⟨x, y, rfl, hx⟩ := first_of s 10 hm
    rw [cut_app x y 10 hx, if_neg (by simp)] at h
    simp only at h
    by_cases hc : chopF x = []
    · rw [if_pos hc] at h
      by_cases hk : chkF l = 0
      · rw [if_pos hk] at h
        injection h with h1 h2
        injection h2 with h2 _
        subst h1; subst h2
        refine ⟨hk, x ++ [10], by simp, fun k' more hk' => ?_⟩
        obtain ⟨k', rfl⟩ : ∃ j, k' = j + 1 := ⟨k' - 1, by omega⟩
        have e : x ++ [10] ++ more = x ++ 10 :: more := by simp
        rw [e, linesF, cut_app x more 10 hx, if_neg (by simp)]
        simp only
        rw [if_pos hc, if_pos hk]
      · rw [if_neg hk] at h
        injection h with _ h
        injection h with _ h
        exact absurd h hk
    · rw [if_neg hc] at h
      cases hg : goF l (chopF x) with
      | none => rw [hg] at h; cases h
      | some l2 =>
       rw [hg] at h
       simp only at h
       by_cases h20 : 20 < l2.length
       · rw [if_pos h20] at h; cases h
       · rw [if_neg h20] at h
         obtain ⟨c0, pre, hy, hmo⟩ := ih y l2 m rest h
         refine ⟨c0, x ++ 10 :: pre, by rw [hy]; simp, fun k' more hk' => ?_⟩
         obtain ⟨k', rfl⟩ : ∃ j, k' = j + 1 := ⟨k' - 1, by omega⟩
         have e : x ++ 10 :: pre ++ more = x ++ 10 :: (pre ++ more) := by simp
         rw [e, linesF, cut_app x _ 10 hx, if_neg (by simp)]
         simp only
         rw [if_neg hc, hg]
         simp only
         rw [if_neg h20]
         refine hmo k' more ?_
         simp only [List.length_append, List.length_cons] at hk'
         omega
  · rw [cut_not s 10 (fun b hb e => hm (e ▸ hb)), if_pos rfl] at h
    cases h
theorem parse_back {b : List UInt8} {l : List FieldD} {k : Nat} (h : parseF b = (l, k, 0)) :
 chkF l = 0 ∧ k ≤ b.length ∧ b.length ≤ 40000 ∧ ∀ more, (b.take k ++ more).length ≤ 40000 → parseF (b.take k ++ more) = (l, k, 0) := by
 unfold parseF at h
 by_cases h0 : 40000 < b.length
 · rw [if_pos h0] at h; cases h
 · rw [if_neg h0] at h
   rcases hr : linesF (b.length + 1) b [] with ⟨m, rest, e⟩
   rw [hr] at h
   simp only at h
   by_cases he : e = 0
   · subst he
     rw [if_pos rfl] at h
     injection h with h1 h2
     injection h2 with h2 _
     subst h1
     obtain ⟨c0, pre, hb, hmo⟩ := lines_back _ _ _ _ _ hr
     have hk : k = pre.length := by rw [← h2, hb, List.length_append]; omega
     refine ⟨c0, by rw [hk, hb, List.length_append]; omega, by omega, fun more hl => ?_⟩
     have ht : b.take k = pre := by rw [hk, hb, List.take_left]
     rw [ht] at hl ⊢
     have h1 := hmo ((pre ++ more).length + 1) more (by rw [List.length_append]; omega)
     unfold parseF
     rw [if_neg (by omega), h1, hk]
     simp
   · rw [if_neg he] at h
     injection h with _ h
     injection h with _ h
     exact absurd h he
theorem parse_many {b : List UInt8} (h : 40000 < b.length) : parseF b = ([], 0, 2) := by unfold parseF; rw [if_pos h]
end Go.Proofs.YtinfjdfhkfhgjaaGreatDoor
namespace Go.Proofs.YtinfjdfhkfhgjaaGreatDoor
/-- header.Params' loop: the fields, what is wrong. -/
def loopP : Nat → List UInt8 → Bool → List FieldD → List FieldD × Nat
 | 0, _, _, _ => ([], 1)
 | k + 1, rest, more, l =>
  if more = false then (l, 0)
  else
   let c := Lib.cut (Lib.trimLeftS rest [32]) [61]
   let name := Lib.trimS c.1 [32]
   if (!c.2.2 || !tokB name) = true then ([], 1)
   else
    let v := Lib.trimLeftS c.2.1 [32]
    if Lib.hasPrefix v [34] = true then
     let d := Lib.cut (v.drop 1) [34]
     if d.2.2 = false then ([], 1)
     else
      let g := Lib.cut d.2.1 [59]
      if Lib.trimS g.1 [32] ≠ [] then ([], 1)
      else if 20 < (l ++ [FieldD.mk (lowL name) d.1]).length then ([], 2)
      else loopP k g.2.1 g.2.2 (l ++ [FieldD.mk (lowL name) d.1])
    else
     let d := Lib.cut v [59]
     let p := Lib.trimRightS d.1 [32]
     if tokB p = false then ([], 1)
     else if 20 < (l ++ [FieldD.mk (lowL name) p]).length then ([], 2)
     else loopP k d.2.1 d.2.2 (l ++ [FieldD.mk (lowL name) p])
/-- header.Params. -/
def paramsF (s : List UInt8) : List UInt8 × List FieldD × Nat :=
 if valB s = false then ([], [], 1)
 else
  let c := Lib.cut s [59]
  let r := loopP (s.length + 2) c.2.1 c.2.2 []
  if r.2 = 0 then (lowL (Lib.trimS c.1 [32]), r.1, 0) else ([], [], r.2)
structure PieceD where
 quoted : Bool
 name : List UInt8
 value : List UInt8
def PieceD.text (p : PieceD) : List UInt8 := if p.quoted then [59] ++ p.name ++ [32, 61, 34] ++ p.value ++ [34, 32] else [32, 59, 32] ++ p.name ++ [61, 32] ++ p.value
def PieceD.good (p : PieceD) : Prop := tokB p.name = true ∧ (if p.quoted then valB p.value = true ∧ (34 : UInt8) ∉ p.value else tokB p.value = true)
def PieceD.field (p : PieceD) : FieldD := ⟨lowL p.name, p.value⟩
def PieceD.pre (p : PieceD) : List UInt8 := if p.quoted then [] else [32]
/-- What stands behind the ;, and with what behind it. -/
def PieceD.body (p : PieceD) (r : List PieceD) : List UInt8 := if p.quoted then p.name ++ [32] ++ 61 :: (34 :: (p.value ++ 34 :: (if r.isEmpty then [] else [32]))) else 32 :: (p.name ++ 61 :: (32 :: p.value))
theorem last_append (a b : List UInt8) (h : b ≠ []) : (a ++ b).getLast? = b.getLast? := by
 rw [List.getLast?_append]
 cases hb : b.getLast? with
 | none => exact absurd (List.getLast?_eq_none_iff.1 hb) h
 | some z => rfl
theorem trimR_pad (l b cs : List UInt8) (hb : ∀ x ∈ b, cs.contains x = true) (h1 : ∀ x, l.getLast? = some x → cs.contains x = false) : Lib.trimRightS (l ++ b) cs = l := by
 unfold Lib.trimRightS
 rw [List.reverse_append, List.dropWhile_append_of_pos (fun x hx => hb x (List.mem_reverse.1 hx))]
 cases hr : l.reverse with
 | nil => have := congrArg List.reverse hr; rw [List.reverse_reverse] at this; rw [this]; rfl
 | cons z t =>
  have hz := h1 z (by rw [← List.head?_reverse, hr]; rfl)
  rw [List.dropWhile_cons, if_neg (by rw [hz]; simp), ← hr, List.reverse_reverse]
theorem trimL_pad (a l cs : List UInt8) (ha : ∀ x ∈ a, cs.contains x = true) (h0 : ∀ x, l.head? = some x → cs.contains x = false) : Lib.trimLeftS (a ++ l) cs = l := by
 unfold Lib.trimLeftS
 rw [List.dropWhile_append_of_pos ha]
 cases l with
 | nil => rfl
 | cons y r => rw [List.dropWhile_cons, if_neg (by rw [h0 y rfl]; simp)]
end Go.Proofs.YtinfjdfhkfhgjaaGreatDoor
namespace Go.Proofs.YtinfjdfhkfhgjaaGreatDoor
/-- header.Get. -/
def getF : List FieldD → List UInt8 → List UInt8
 | [], _ => []
 | f :: r, n => if Lib.equalFold f.name n then f.value else getF r n
theorem foldEq_iff (x y : UInt8) : Lib.foldEq x y = true ↔ lowB x = lowB y := by
 unfold Lib.foldEq
 rw [decide_eq_true_eq]
 constructor
 · intro h
   apply UInt8.toNat_inj.1
   rw [lowB_nat, lowB_nat]
   split <;> split <;> omega
 · intro h
   have h := congrArg UInt8.toNat h
   rw [lowB_nat, lowB_nat] at h
   split at h <;> split at h <;> omega
theorem fold_iff : ∀ (a b : List UInt8), Lib.equalFold a b = true ↔ lowL a = lowL b
 | [], [] => by simp [Lib.equalFold]
 | [], _ :: _ => by simp [Lib.equalFold, lowL]
 | _ :: _, [] => by simp [Lib.equalFold, lowL]
 | x :: a, y :: b => by
  have ih := fold_iff a b
  have h1 := foldEq_iff x y
  unfold lowL at ih ⊢
  simp only [Lib.equalFold, Bool.and_eq_true, List.map_cons, List.cons.injEq]
  rw [ih, h1]
end Go.Proofs.YtinfjdfhkfhgjaaGreatDoor
namespace Go.Proofs.YtinfjdfhkfhgjaaGreatDoor
/-- The 64 letters. -/
def letters : List UInt8 := [65, 66, 67, 68, 69, 70, 71, 72, 73, 74, 75, 76, 77, 78, 79, 80, 81, 82, 83, 84, 85, 86, 87, 88, 89, 90, 97, 98, 99, 100, 101, 102, 103, 104, 105, 106, 107, 108, 109, 110, 111, 112, 113, 114, 115, 116, 117, 118, 119, 120, 121, 122, 48, 49, 50, 51, 52, 53, 54, 55, 56, 57, 43, 47]
theorem letters_len : letters.length = 64 := by decide
/-- Three bytes as one number; what lacks is 0. -/
def val3 (l : List UInt8) : Nat := nth l 0 * 65536 + nth l 1 * 256 + nth l 2
/-- The number behind i rounds. -/
def valTo (l : List UInt8) : Nat → Nat
 | 0 => 0
 | i + 1 => valTo l i * 256 + nth l i
theorem valTo_three (l : List UInt8) : valTo l 3 = val3 l := by simp only [valTo, val3]; omega
theorem valTo_lt (l : List UInt8) (i : Nat) : valTo l i < 256 ^ i := by
 induction i with
 | zero => simp [valTo]
 | succ i ih =>
  have := nth_lt l i
  simp only [valTo, Nat.pow_succ]
  omega
/-- Letter i of four, of n bytes with the number v. -/
def quadL (n v i : Nat) : UInt8 := if n < i then 61 else letters.getD (v / 2 ^ (18 - 6 * i) % 64) 0
def quad (l : List UInt8) : List UInt8 := (List.range 4).map (quadL (min 3 l.length) (val3 l))
def brk (wide : Nat) : List UInt8 := if wide = 76 then [13, 10] else []
def after (wide : Nat) : Nat := if wide = 76 then 4 else wide + 4
/-- base.Text, where so many letters stand in the line already. -/
def enc (wide : Nat) (l : List UInt8) : List UInt8 :=
 match l with
 | [] => []
 | a :: t => brk wide ++ quad (a :: t) ++ enc (after wide) (t.drop 2)
termination_by l.length
decreasing_by simp; omega
theorem enc_nil (wide : Nat) : enc wide [] = [] := by rw [enc]
theorem enc_step (wide : Nat) (l : List UInt8) (h : 0 < l.length) : enc wide l = brk wide ++ quad l ++ enc (after wide) (l.drop (min 3 l.length)) := by
 cases l with
 | nil => simp at h
 | cons a t =>
  rw [enc]
  congr 2
  match t with
  | [] => rfl
  | [_] => rfl
  | _ :: _ :: t' => simp
theorem quad_len (l : List UInt8) : (quad l).length = 4 := by simp [quad]
theorem quad_take (l : List UInt8) (i : Nat) (h : i < 4) : (quad l).take (i + 1) = (quad l).take i ++ [quadL (min 3 l.length) (val3 l) i] := by
 rw [List.take_succ_eq_append_getElem (by rw [quad_len]; exact h)]
 simp [quad]
theorem quadL_gt {n v i : Nat} (h : n < i) : quadL n v i = 61 := by simp [quadL, h]
theorem quadL_le {n v i : Nat} (h : ¬ n < i) : quadL n v i = UInt8.ofNat (nth letters (v / 2 ^ (18 - 6 * i) % 64)) := by simp [quadL, h, nth]
theorem enc_len (k : Nat) : ∀ (wide : Nat) (l : List UInt8), l.length ≤ k → (enc wide l).length ≤ 6 * l.length := by
 induction k with
 | zero => intro wide l h; have : l = [] := List.eq_nil_of_length_eq_zero (by omega); subst this; simp [enc_nil]
 | succ k ih =>
  intro wide l h
  rcases Nat.eq_zero_or_pos l.length with h0 | h0
  · have : l = [] := List.eq_nil_of_length_eq_zero h0; subst this; simp [enc_nil]
  · rw [enc_step wide l h0]
    have hb : (brk wide).length ≤ 2 := by unfold brk; split <;> simp
    have := ih (after wide) (l.drop (min 3 l.length)) (by simp; omega)
    simp only [List.length_append, quad_len, List.length_drop] at this ⊢
    omega
end Go.Proofs.YtinfjdfhkfhgjaaGreatDoor
namespace Go.Proofs.YtinfjdfhkfhgjaaGreatDoor
/-- A blank or an end of a line. -/
def blankN (x : Nat) : Bool := x == 32 || x == 9 || x == 13 || x == 10
/-- The first place of a byte; -1: none. -/
def idxI (l : List UInt8) (x : Nat) : Int := Lib.indexByte l (UInt8.ofNat x)
theorem indexByte_bd (l : List UInt8) (c : UInt8) : -1 ≤ Lib.indexByte l c ∧ Lib.indexByte l c < l.length := by
 induction l with
 | nil => simp [Lib.indexByte]
 | cons a l ih =>
  simp only [Lib.indexByte, List.length_cons]
  split
  · omega
  · split <;> omega
theorem idxI_bd (l : List UInt8) (x : Nat) : -1 ≤ idxI l x ∧ idxI l x < l.length := indexByte_bd l _
/-- base.Read's first loop. -/
def scanB (vals : List Nat) (pad : Nat) : List UInt8 → Option (List Nat × Nat)
 | [] => some (vals, pad)
 | c :: r =>
  if blankN c.toNat then scanB vals pad r
  else if c.toNat == 61 then scanB (vals ++ [0]) (pad + 1) r
  else if decide (idxI letters c.toNat < 0) || decide (0 < pad) then none
  else scanB (vals ++ [(idxI letters c.toNat).toNat]) pad r
def num4 (a b c d : Nat) : Nat := a * 262144 + b * 4096 + c * 64 + d
def three (v : Nat) : List UInt8 := [UInt8.ofNat (v / 65536), UInt8.ofNat (v / 256), UInt8.ofNat v]
/-- base.Read's second loop. -/
def bytes3 : List Nat → List UInt8
 | a :: b :: c :: d :: r => three (num4 a b c d) ++ bytes3 r
 | _ => []
def cutPad (out : List UInt8) (pad : Nat) : List UInt8 × Nat :=
 if (out.drop (out.length - pad)).any (fun c => c != 0) then ([], 1)
 else if 4000 < out.length - pad then ([], 2) else (out.take (out.length - pad), 0)
def readFin : Option (List Nat × Nat) → List UInt8 × Nat
 | none => ([], 1)
 | some (vals, pad) => if vals.length % 4 != 0 || decide (2 < pad) then ([], 1) else cutPad (bytes3 vals) pad
/-- base.Read. -/
def readB (s : List UInt8) : List UInt8 × Nat := if 8000 < s.length then ([], 2) else readFin (scanB [] 0 s)
def nthN (l : List Nat) (k : Nat) : Nat := l.getD k 0
theorem drop_nth (s : List UInt8) (i : Nat) (h : i < s.length) : ∃ c : UInt8, c.toNat = nth s i ∧ s.drop i = c :: s.drop (i + 1) :=
 ⟨s[i], by rw [nth_of s i h], List.drop_eq_getElem_cons h⟩
theorem scan_blank {vals : List Nat} {pad i : Nat} {s : List UInt8} (h : i < s.length) (hb : blankN (nth s i) = true) : scanB vals pad (s.drop i) = scanB vals pad (s.drop (i + 1)) := by
 obtain ⟨c, hc, hd⟩ := drop_nth s i h
 rw [hd]; simp only [scanB, hc, hb, if_true]
theorem scan_eq {vals : List Nat} {pad i : Nat} {s : List UInt8} (h : i < s.length) (_hb : blankN (nth s i) = false) (he : nth s i = 61) : scanB vals pad (s.drop i) = scanB (vals ++ [0]) (pad + 1) (s.drop (i + 1)) := by
 obtain ⟨c, hc, hd⟩ := drop_nth s i h
 rw [hd]; simp only [scanB, hc, he]; simp [blankN]
theorem scan_bad {vals : List Nat} {pad i : Nat} {s : List UInt8} (h : i < s.length) (hb : blankN (nth s i) = false) (he : nth s i ≠ 61) (hx : idxI letters (nth s i) < 0 ∨ 0 < pad) : scanB vals pad (s.drop i) = none := by
 obtain ⟨c, hc, hd⟩ := drop_nth s i h
 rw [hd]; simp only [scanB, hc, hb]; simp [he]; intro h1; omega
theorem scan_val {vals : List Nat} {pad i : Nat} {s : List UInt8} (h : i < s.length) (hb : blankN (nth s i) = false) (he : nth s i ≠ 61) (hx : 0 ≤ idxI letters (nth s i)) (hp : pad = 0) : scanB vals pad (s.drop i) = scanB (vals ++ [(idxI letters (nth s i)).toNat]) pad (s.drop (i + 1)) := by
 obtain ⟨c, hc, hd⟩ := drop_nth s i h
 rw [hd]; simp only [scanB, hc, hb]; subst hp; simp [he]; intro h1; omega
theorem blank_cases (x : Nat) : (blankN x = true ∧ ((x : Int) == 32) = true) ∨ (blankN x = true ∧ ((x : Int) == 32) = false ∧ ((x : Int) == 9) = true) ∨
 (blankN x = true ∧ ((x : Int) == 32) = false ∧ ((x : Int) == 9) = false ∧ ((x : Int) == 13) = true) ∨
 (blankN x = true ∧ ((x : Int) == 32) = false ∧ ((x : Int) == 9) = false ∧ ((x : Int) == 13) = false ∧ ((x : Int) == 10) = true) ∨
 (blankN x = false ∧ ((x : Int) == 32) = false ∧ ((x : Int) == 9) = false ∧ ((x : Int) == 13) = false ∧ ((x : Int) == 10) = false) := by
 simp only [blankN, beq_iff_eq, beq_eq_false_iff_ne, Bool.or_eq_true, Bool.or_eq_false_iff]
 omega
theorem bytes3_step (l : List Nat) (j : Nat) (h : 4 * j + 4 ≤ l.length) : bytes3 (l.drop (4 * j)) = three (num4 (nthN l (4 * j)) (nthN l (4 * j + 1)) (nthN l (4 * j + 2)) (nthN l (4 * j + 3))) ++ bytes3 (l.drop (4 * (j + 1))) := by
 have e : l.drop (4 * j) = l[4 * j] :: l[4 * j + 1] :: l[4 * j + 2] :: l[4 * j + 3] :: l.drop (4 * (j + 1)) := by
  rw [List.drop_eq_getElem_cons (by omega), List.drop_eq_getElem_cons (by omega), List.drop_eq_getElem_cons (by omega), List.drop_eq_getElem_cons (by omega)]
  rfl
 rw [e]
 simp only [bytes3, nthN, List.getD]
 simp [show 4 * j < l.length by omega, show 4 * j + 1 < l.length by omega, show 4 * j + 2 < l.length by omega, show 4 * j + 3 < l.length by omega]
theorem three_cells (v : Nat) (h : v < 16777216) : Lib.byteCells (three v) = [Value.int .u8 ((v : Int) / 65536), Value.int .u8 ((v : Int) / 256 % 256), Value.int .u8 ((v : Int) % 256)] := by
 have e1 : ((UInt8.ofNat (v / 65536)).toNat : Int) = (v : Int) / 65536 := by rw [UInt8.toNat_ofNat']; omega
 have e2 : ((UInt8.ofNat (v / 256)).toNat : Int) = (v : Int) / 256 % 256 := by rw [UInt8.toNat_ofNat']; omega
 have e3 : ((UInt8.ofNat v).toNat : Int) = (v : Int) % 256 := by rw [UInt8.toNat_ofNat']; omega
 simp only [Lib.byteCells, three, List.map_cons, List.map_nil, e1, e2, e3]
theorem cutPad_bad (out : List UInt8) (pad q k : Nat) (hq : q + pad = out.length) (hk : k < pad) (h : nth (out.drop q) k ≠ 0) : cutPad out pad = ([], 1) := by
 have hq' : out.length - pad = q := by omega
 have hl : k < (out.drop q).length := by simp; omega
 rw [nth_of _ k hl] at h
 unfold cutPad
 rw [hq', if_pos]
 rw [List.any_eq_true]
 refine ⟨(out.drop q)[k], List.getElem_mem hl, ?_⟩
 rw [bne_iff_ne]
 rintro h0
 rw [h0] at h
 exact h rfl
theorem cutPad_ok (out : List UInt8) (pad q : Nat) (hq : q + pad = out.length) (h : ∀ k, k < pad → nth (out.drop q) k = 0) : cutPad out pad = if 4000 < q then ([], 2) else (out.take q, 0) := by
 have hq' : out.length - pad = q := by omega
 unfold cutPad
 rw [hq', if_neg]
 rw [List.any_eq_true]
 rintro ⟨x, hx, hx0⟩
 obtain ⟨k, hk, rfl⟩ := List.mem_iff_getElem.1 hx
 have hk' : k < pad := by simp at hk; omega
 have h1 := h k hk'
 rw [nth_of _ k hk] at h1
 rw [bne_iff_ne] at hx0
 exact hx0 (UInt8.toNat_inj.1 h1)
theorem nthN_lt (l : List Nat) (k b : Nat) (hb : 0 < b) (h : ∀ x ∈ l, x < b) : nthN l k < b := by
 unfold nthN
 rcases Nat.lt_or_ge k l.length with hk | hk
 · rw [List.getD_eq_getElem?_getD, List.getElem?_eq_getElem hk]; exact h _ (List.getElem_mem hk)
 · simp [List.getD, hk]; exact hb
theorem ints_opn {w : World} {B n : Nat} {A : Option Addr} {l : List Nat} (h : Sl w B 1 A n (intCells l)) (hn : 0 < n) : ∃ b off, A = some ⟨b, off, none⟩ ∧ b < B ∧ ∀ k, k < n → w.cell? ⟨b, off + k, none⟩ = some (.int .i64 (nthN l k : Nat)) := by
 obtain ⟨b, off, hA, hb, hc⟩ := And.right h hn
 have hl : l.length = n := by have := h.len; rwa [intCells_len] at this
 exact ⟨b, off, hA, hb, fun k hk => hc k _ (intCells_at l k (by omega))⟩
end Go.Proofs.YtinfjdfhkfhgjaaGreatDoor
namespace Go.Proofs.YtinfjdfhkfhgjaaGreatDoor
end Go.Proofs.YtinfjdfhkfhgjaaGreatDoor
namespace Go.Proofs.YtinfjdfhkfhgjaaGreatDoor
theorem letter_facts : ∀ q : Fin 64, blankN (nth letters q.val) = false ∧ (nth letters q.val == 61) = false ∧ idxI letters (nth letters q.val) = (q.val : Int) := by decide +kernel
/-- Letter i's value. -/
def lv (l : List UInt8) (i : Nat) : Nat := val3 l / 2 ^ (18 - 6 * i) % 64
theorem lv_lt (l : List UInt8) (i : Nat) : lv l i < 64 := Nat.mod_lt _ (by omega)
theorem scan_letter (vals : List Nat) (q : Nat) (hq : q < 64) (r : List UInt8) : scanB vals 0 (letters.getD q 0 :: r) = scanB (vals ++ [q]) 0 r := by
 obtain ⟨h1, h2, h3⟩ := letter_facts ⟨q, hq⟩
 have e : (letters.getD q 0).toNat = nth letters q := rfl
 simp only [scanB, e]
 rw [h1, h2, h3]
 simp
 intro h
 omega
theorem scan_pad (vals : List Nat) (pad : Nat) (r : List UInt8) : scanB vals pad (61 :: r) = scanB (vals ++ [0]) (pad + 1) r := by
 simp [scanB, blankN]
theorem scan_brk (vals : List Nat) (pad wide : Nat) (r : List UInt8) : scanB vals pad (brk wide ++ r) = scanB vals pad r := by
 unfold brk
 split
 · simp [scanB, blankN]
 · rfl
def padOf (l : List UInt8) : Nat := 3 - min 3 l.length
theorem scan_quad (vals : List Nat) (l r : List UInt8) (h : 0 < l.length) : scanB vals 0 (quad l ++ r) = scanB (vals ++ [lv l 0, lv l 1, lv l 2, lv l 3]) (padOf l) r := by
 have hq : quad l = [quadL (min 3 l.length) (val3 l) 0, quadL (min 3 l.length) (val3 l) 1, quadL (min 3 l.length) (val3 l) 2, quadL (min 3 l.length) (val3 l) 3] := rfl
 have hlet : ∀ i, ¬ min 3 l.length < i → quadL (min 3 l.length) (val3 l) i = letters.getD (lv l i) 0 := fun i hi => by simp [quadL, hi, lv]
 rw [hq]
 rcases (by omega : l.length = 1 ∨ l.length = 2 ∨ 3 ≤ l.length) with h1 | h2 | h3
 · have z2 : lv l 2 = 0 := by
    have a := nth_ge l 1 (by omega); have b := nth_ge l 2 (by omega)
    simp only [lv, val3, a, b]; omega
   have z3 : lv l 3 = 0 := by
    have a := nth_ge l 1 (by omega); have b := nth_ge l 2 (by omega)
    simp only [lv, val3, a, b]; omega
   rw [hlet 0 (by omega), hlet 1 (by omega), quadL_gt (by omega), quadL_gt (by omega), z2, z3]
   simp only [List.cons_append, List.nil_append]
   rw [scan_letter _ _ (lv_lt l 0), scan_letter _ _ (lv_lt l 1), scan_pad, scan_pad]
   simp [padOf, h1]
 · have z3 : lv l 3 = 0 := by
    have b := nth_ge l 2 (by omega)
    simp only [lv, val3, b]; omega
   rw [hlet 0 (by omega), hlet 1 (by omega), hlet 2 (by omega), quadL_gt (by omega), z3]
   simp only [List.cons_append, List.nil_append]
   rw [scan_letter _ _ (lv_lt l 0), scan_letter _ _ (lv_lt l 1), scan_letter _ _ (lv_lt l 2), scan_pad]
   simp [padOf, h2]
 · rw [hlet 0 (by omega), hlet 1 (by omega), hlet 2 (by omega), hlet 3 (by omega)]
   simp only [List.cons_append, List.nil_append]
   rw [scan_letter _ _ (lv_lt l 0), scan_letter _ _ (lv_lt l 1), scan_letter _ _ (lv_lt l 2), scan_letter _ _ (lv_lt l 3)]
   simp [padOf, Nat.min_eq_left h3]
theorem num4_lv (l : List UInt8) : num4 (lv l 0) (lv l 1) (lv l 2) (lv l 3) = val3 l := by
 have h0 := nth_lt l 0
 have h1 := nth_lt l 1
 have h2 := nth_lt l 2
 have hv : val3 l < 16777216 := by unfold val3; omega
 unfold num4 lv
 generalize val3 l = v at hv ⊢
 simp only [Nat.reduceMul, Nat.reduceSub, Nat.reducePow]
 omega
theorem three_val (l : List UInt8) : three (val3 l) = [UInt8.ofNat (nth l 0), UInt8.ofNat (nth l 1), UInt8.ofNat (nth l 2)] := by
 have h0 := nth_lt l 0
 have h1 := nth_lt l 1
 have h2 := nth_lt l 2
 have e1 : ∀ x y : Nat, x % 256 = y % 256 → UInt8.ofNat x = UInt8.ofNat y := fun x y h => by
  rw [← UInt8.toNat_inj, UInt8.toNat_ofNat', UInt8.toNat_ofNat']; exact h
 have a0 : UInt8.ofNat (val3 l / 65536) = UInt8.ofNat (nth l 0) := e1 _ _ (by unfold val3; omega)
 have a1 : UInt8.ofNat (val3 l / 256) = UInt8.ofNat (nth l 1) := e1 _ _ (by unfold val3; omega)
 have a2 : UInt8.ofNat (val3 l) = UInt8.ofNat (nth l 2) := e1 _ _ (by unfold val3; omega)
 unfold three
 rw [a0, a1, a2]
theorem three_head (l : List UInt8) (h : 3 ≤ l.length) : [UInt8.ofNat (nth l 0), UInt8.ofNat (nth l 1), UInt8.ofNat (nth l 2)] ++ l.drop 3 = l := by
 match l, h with
 | a :: b :: c :: r, _ =>
  show [UInt8.ofNat a.toNat, UInt8.ofNat b.toNat, UInt8.ofNat c.toNat] ++ r = _
  rw [UInt8.ofNat_toNat, UInt8.ofNat_toNat, UInt8.ofNat_toNat]
  rfl
/-- What is written is scanned as fours that give the bytes back. -/
theorem scan_enc (k : Nat) : ∀ (l : List UInt8) (wide : Nat) (vals : List Nat), l.length ≤ k → ∃ xs z, scanB vals 0 (enc wide l) = some (vals ++ xs, z) ∧ xs.length % 4 = 0 ∧ z ≤ 2 ∧ bytes3 xs = l ++ List.replicate z 0 := by
 induction k with
 | zero =>
  intro l wide vals h
  have : l = [] := List.eq_nil_of_length_eq_zero (by omega)
  subst this
  exact ⟨[], 0, by simp [enc_nil, scanB], rfl, by omega, rfl⟩
 | succ k ih =>
  intro l wide vals h
  rcases Nat.eq_zero_or_pos l.length with h0 | h0
  · have : l = [] := List.eq_nil_of_length_eq_zero h0
    subst this
    exact ⟨[], 0, by simp [enc_nil, scanB], rfl, by omega, rfl⟩
  · rw [enc_step wide l h0, List.append_assoc, scan_brk, scan_quad vals l _ h0]
    rcases (by omega : l.length < 3 ∨ 3 ≤ l.length) with h3 | h3
    · have hd : l.drop (min 3 l.length) = [] := List.drop_of_length_le (by omega)
      rw [hd, enc_nil]
      refine ⟨[lv l 0, lv l 1, lv l 2, lv l 3], padOf l, rfl, by simp, by unfold padOf; omega, ?_⟩
      show three (num4 _ _ _ _) ++ [] = _
      rw [num4_lv, three_val, List.append_nil]
      match l, h0, h3 with
      | [a], _, _ => simp [nth, padOf, List.replicate]
      | [a, b], _, _ => simp [nth, padOf]
    · have hp : padOf l = 0 := by unfold padOf; omega
      rw [hp, Nat.min_eq_left h3]
      obtain ⟨xs, z, h1, h2, h4, h5⟩ := ih (l.drop 3) (after wide) (vals ++ [lv l 0, lv l 1, lv l 2, lv l 3]) (by simp; omega)
      refine ⟨[lv l 0, lv l 1, lv l 2, lv l 3] ++ xs, z, by rw [h1]; simp, by simp; omega, h4, ?_⟩
      show three (num4 _ _ _ _) ++ bytes3 xs = _
      rw [num4_lv, three_val, h5, ← List.append_assoc, three_head l h3]
theorem cutPad_zeros (l : List UInt8) (z : Nat) (h : l.length ≤ 4000) : cutPad (l ++ List.replicate z 0) z = (l, 0) := by
 unfold cutPad
 have e : (l ++ List.replicate z (0 : UInt8)).length - z = l.length := by simp
 rw [e, List.drop_left, List.take_left, if_neg (by simp), if_neg (by omega)]
theorem enc_len2 (k : Nat) : ∀ (i : Nat) (l : List UInt8), l.length ≤ k → i ≤ 19 → (enc (4 * i) l).length ≤ 4 * ((l.length + 2) / 3) + 2 * (((l.length + 2) / 3 + i) / 19) := by
 induction k with
 | zero => intro i l h _; have : l = [] := List.eq_nil_of_length_eq_zero (by omega); subst this; simp [enc_nil]
 | succ k ih =>
  intro i l h hi
  rcases Nat.eq_zero_or_pos l.length with h0 | h0
  · have : l = [] := List.eq_nil_of_length_eq_zero h0; subst this; simp [enc_nil]
  · rw [enc_step _ l h0]
    simp only [List.length_append, quad_len]
    have hdl : (l.drop (min 3 l.length)).length = l.length - min 3 l.length := by simp
    by_cases h19 : i = 19
    · subst h19
      have h1 := ih 1 (l.drop (min 3 l.length)) (by omega) (by omega)
      have ha : after (4 * 19) = 4 * 1 := rfl
      have hb : (brk (4 * 19)).length = 2 := rfl
      rw [ha, hb]
      rw [hdl] at h1
      omega
    · have h1 := ih (i + 1) (l.drop (min 3 l.length)) (by omega) (by omega)
      have ha : after (4 * i) = 4 * (i + 1) := by unfold after; rw [if_neg (by omega)]; omega
      have hb : (brk (4 * i)).length = 0 := by unfold brk; rw [if_neg (by omega)]; rfl
      rw [ha, hb]
      rw [hdl] at h1
      omega
/-- BaseBack, the first half, plain: what is written is read. -/
theorem read_enc (l : List UInt8) (h : l.length ≤ 4000) : readB (enc 0 l) = (l, 0) := by
 have h8 := enc_len2 l.length 0 l (Nat.le_refl _) (by omega)
 rw [Nat.mul_zero] at h8
 unfold readB
 rw [if_neg (by omega)]
 obtain ⟨xs, z, h1, h2, h3, h4⟩ := scan_enc l.length l 0 [] (Nat.le_refl _)
 rw [h1]
 simp only [readFin, List.nil_append]
 rw [if_neg (by simp [h2]; omega), h4, cutPad_zeros l z h]
end Go.Proofs.YtinfjdfhkfhgjaaGreatDoor
namespace Go.Proofs.YtinfjdfhkfhgjaaGreatDoor
/-- The sixteen digits. -/
def digits : List UInt8 := [48, 49, 50, 51, 52, 53, 54, 55, 56, 57, 65, 66, 67, 68, 69, 70]
/-- Is a byte written as itself? -/
def plainQ (x : Nat) : Bool := decide (32 < x) && decide (x ≤ 126) && !(x == 61)
/-- quote.one. -/
def oneQ (c : UInt8) : List UInt8 := if plainQ c.toNat then [c] else [61, digits.getD (c.toNat / 16) 0, digits.getD (c.toNat % 16) 0]
theorem oneQ_len (c : UInt8) : (oneQ c).length = 1 ∨ (oneQ c).length = 3 := by
 unfold oneQ; split <;> simp
/-- quote.Text, where so many letters stand in the line already. -/
def encQ (wide : Nat) : List UInt8 → List UInt8
 | [] => []
 | c :: r => if 75 < wide + (oneQ c).length then [61, 13, 10] ++ oneQ c ++ encQ (oneQ c).length r else oneQ c ++ encQ (wide + (oneQ c).length) r
theorem encQ_len : ∀ (l : List UInt8) (wide : Nat), (encQ wide l).length ≤ 6 * l.length := by
 intro l
 induction l with
 | nil => intro wide; simp [encQ]
 | cons c r ih =>
  intro wide
  have h1 := oneQ_len c
  have h2 := ih (oneQ c).length
  have h3 := ih (wide + (oneQ c).length)
  unfold encQ
  split
  · simp only [List.length_append, List.length_cons, List.length_nil]; omega
  · simp only [List.length_append, List.length_cons]; omega
end Go.Proofs.YtinfjdfhkfhgjaaGreatDoor
namespace Go.Proofs.YtinfjdfhkfhgjaaGreatDoor
/-- quote.hex. -/
def hexQ (c : Nat) : Int := idxI digits (if decide (97 ≤ c) && decide (c ≤ 102) then c - 32 else c)
/-- One line, its end struck: quote.Read's inner loop. -/
def decQ : List UInt8 → Option (List UInt8)
 | [] => some []
 | c :: r =>
  if c.toNat == 61 then
   match r with
   | a :: b :: r' => if decide (hexQ a.toNat < 0) || decide (hexQ b.toNat < 0) then none else (decQ r').map (UInt8.ofNat ((hexQ a.toNat).toNat * 16 + (hexQ b.toNat).toNat) :: ·)
   | _ => none
  else (decQ r).map (c :: ·)
/-- A line behind its blanks' going. -/
def trimQ (line : List UInt8) : List UInt8 := Lib.trimRightS line [32, 9, 13]
def softQ (line : List UInt8) : Bool := Lib.hasSuffix line [61]
def bareQ (line : List UInt8) : List UInt8 := if softQ line then line.take (line.length - 1) else line
/-- What a line's end gives. -/
def endQ (s : List UInt8) : List UInt8 := if (Lib.cut s [10]).2.2 && !softQ (trimQ (Lib.cut s [10]).1) then [13, 10] else []
/-- quote.Read's outer loop. -/
def linesQ : Nat → List UInt8 → List UInt8 → List UInt8 × Nat
 | 0, _, out => (out, 0)
 | k + 1, s, out =>
  if s.isEmpty then (out, 0)
  else match decQ (bareQ (trimQ (Lib.cut s [10]).1)) with
   | none => ([], 1)
   | some x =>
    if 4000 < (out ++ x ++ endQ s).length then ([], 2)
    else linesQ k (Lib.cut s [10]).2.1 (out ++ x ++ endQ s)
/-- quote.Read. -/
def readQ (s : List UInt8) : List UInt8 × Nat := if 16000 < s.length then ([], 2) else linesQ s.length s []
theorem hex_digit : ∀ k : Fin 16, hexQ (digits.getD k.val 0).toNat = (k.val : Int) := by decide +kernel
theorem digit_print : ∀ k : Fin 16, 32 < (digits.getD k.val 0).toNat ∧ (digits.getD k.val 0).toNat ≤ 126 ∧ (digits.getD k.val 0).toNat ≠ 61 := by decide +kernel
theorem oneQ_print (c x : UInt8) (h : x ∈ oneQ c) : 32 < x.toNat ∧ x.toNat ≤ 126 := by
 have hc := c.toNat_lt
 unfold oneQ at h
 split at h
 · rename_i hp
   simp at h; subst h
   simp [plainQ] at hp
   omega
 · have h1 := digit_print ⟨c.toNat / 16, by omega⟩
   have h2 := digit_print ⟨c.toNat % 16, by omega⟩
   simp only [List.mem_cons, List.not_mem_nil, or_false] at h
   rcases h with rfl | rfl | rfl
   · decide
   · exact ⟨h1.1, h1.2.1⟩
   · exact ⟨h2.1, h2.2.1⟩
theorem decQ_one (c : UInt8) (r : List UInt8) : decQ (oneQ c ++ r) = (decQ r).map (c :: ·) := by
 have hc := c.toNat_lt
 unfold oneQ
 split
 · rename_i hp
   have h61 : (c.toNat == 61) = false := by simp [plainQ] at hp; simp; omega
   show decQ (c :: r) = _
   conv => lhs; unfold decQ
   rw [h61]
   rfl
 · have h1 := hex_digit ⟨c.toNat / 16, by omega⟩
   have h2 := hex_digit ⟨c.toNat % 16, by omega⟩
   simp only at h1 h2
   show decQ (61 :: digits.getD (c.toNat / 16) 0 :: digits.getD (c.toNat % 16) 0 :: r) = _
   conv => lhs; unfold decQ
   rw [if_pos (by decide)]
   simp only [h1, h2]
   have e : UInt8.ofNat (((c.toNat / 16 : Nat) : Int).toNat * 16 + ((c.toNat % 16 : Nat) : Int).toNat) = c := by
    rw [Int.toNat_natCast, Int.toNat_natCast, show c.toNat / 16 * 16 + c.toNat % 16 = c.toNat from by omega, UInt8.ofNat_toNat]
   rw [e, if_neg (by simp; omega)]
/-- Bytes as they are written, without ends of lines. -/
def payQ (l : List UInt8) : List UInt8 := l.flatMap oneQ
theorem decQ_pay (l : List UInt8) : decQ (payQ l) = some l := by
 induction l with
 | nil => rfl
 | cons c l ih => show decQ (oneQ c ++ payQ l) = _; rw [decQ_one, ih]; rfl
theorem payQ_print (l : List UInt8) (x : UInt8) (h : x ∈ payQ l) : 32 < x.toNat ∧ x.toNat ≤ 126 := by
 obtain ⟨c, _, hx⟩ := List.mem_flatMap.1 h
 exact oneQ_print c x hx
theorem payQ_end (l : List UInt8) : Lib.hasSuffix (payQ l) [61] = false := by
 have key : ∀ (l : List UInt8), l ≠ [] → ∃ p x, payQ l = p ++ [x] ∧ x.toNat ≠ 61 := by
  intro l hl
  obtain ⟨q, c, rfl⟩ : ∃ q c, l = q ++ [c] := ⟨l.dropLast, l.getLast hl, (List.dropLast_concat_getLast hl).symm⟩
  have hc := c.toNat_lt
  have e : payQ (q ++ [c]) = payQ q ++ oneQ c := by simp [payQ]
  rw [e]
  unfold oneQ
  split
  · rename_i hp
    exact ⟨payQ q, c, rfl, by simp [plainQ] at hp; omega⟩
  · exact ⟨payQ q ++ [61, digits.getD (c.toNat / 16) 0], _, by simp, (digit_print ⟨c.toNat % 16, by omega⟩).2.2⟩
 by_cases hl : l = []
 · subst hl; rfl
 · obtain ⟨p, x, h1, h2⟩ := key l hl
   rw [h1]
   have : ¬ ([61] : List UInt8) <:+ (p ++ [x]) := by
    rintro ⟨t, ht⟩
    have := (List.append_inj' ht rfl).2
    simp at this
    exact h2 (by rw [← this]; rfl)
   simp only [Lib.hasSuffix, Bool.eq_false_iff, ne_eq, List.isSuffixOf_iff_suffix]
   exact this
/-- A text in which bytes are written so, and lines go on. -/
inductive StrQ : List UInt8 → List UInt8 → Prop
 | nil : StrQ [] []
 | one (c : UInt8) {T l : List UInt8} : StrQ T l → StrQ (oneQ c ++ T) (c :: l)
 | brk {T l : List UInt8} : StrQ T l → StrQ (61 :: 13 :: 10 :: T) l
theorem encQ_str : ∀ (l : List UInt8) (wide : Nat), StrQ (encQ wide l) l := by
 intro l
 induction l with
 | nil => intro _; exact .nil
 | cons c r ih =>
  intro wide
  unfold encQ
  split
  · show StrQ (61 :: 13 :: 10 :: (oneQ c ++ _)) _
    exact .brk (.one c (ih _))
  · exact .one c (ih _)
theorem StrQ.app {T l T' l' : List UInt8} (h : StrQ T l) (h' : StrQ T' l') : StrQ (T ++ T') (l ++ l') := by
 induction h with
 | nil => exact h'
 | one c _ ih => rw [List.append_assoc]; exact .one c ih
 | brk _ ih => exact .brk ih
theorem StrQ.split {T l : List UInt8} (h : StrQ T l) : T = payQ l ∨ ∃ l1 l2 T2, l = l1 ++ l2 ∧ T = payQ l1 ++ 61 :: 13 :: 10 :: T2 ∧ StrQ T2 l2 := by
 induction h with
 | nil => exact .inl rfl
 | one c h ih =>
  rcases ih with rfl | ⟨l1, l2, T2, rfl, rfl, h2⟩
  · exact .inl rfl
  · exact .inr ⟨c :: l1, l2, T2, rfl, by simp [payQ], h2⟩
 | brk h ih => exact .inr ⟨[], _, _, rfl, rfl, h⟩
theorem index10_none : ∀ (x : List UInt8), (∀ c ∈ x, c ≠ 10) → Lib.index x [10] = -1 := by
 intro x
 induction x with
 | nil => intro _; rfl
 | cons b x ih =>
  intro h
  have hb : (([10] : List UInt8).isPrefixOf (b :: x)) = false := by
   have : (10 : UInt8) ≠ b := fun e => h b (by simp) e.symm
   simp [List.isPrefixOf, this]
  rw [Lib.index, hb, ih (fun c hc => h c (by simp [hc]))]
  rfl
theorem index10_at : ∀ (x r : List UInt8), (∀ c ∈ x, c ≠ 10) → Lib.index (x ++ 10 :: r) [10] = x.length := by
 intro x
 induction x with
 | nil => intro r _; simp [Lib.index, List.isPrefixOf]
 | cons b x ih =>
  intro r h
  have hb : (([10] : List UInt8).isPrefixOf (b :: (x ++ 10 :: r))) = false := by
   have : (10 : UInt8) ≠ b := fun e => h b (by simp) e.symm
   simp [List.isPrefixOf, this]
  have h1 := ih r (fun c hc => h c (by simp [hc]))
  show Lib.index (b :: (x ++ 10 :: r)) [10] = _
  rw [Lib.index, hb, h1]
  have : ((x.length : Int) == -1) = false := by simp
  rw [this]
  simp
theorem cut10_none (x : List UInt8) (h : ∀ c ∈ x, c ≠ 10) : Lib.cut x [10] = (x, [], false) := by
 unfold Lib.cut
 rw [index10_none x h, if_neg (by decide)]
theorem cut10_at (x r : List UInt8) (h : ∀ c ∈ x, c ≠ 10) : Lib.cut (x ++ 10 :: r) [10] = (x, r, true) := by
 unfold Lib.cut
 rw [index10_at x r h, if_pos (by omega), Int.toNat_natCast, List.take_left]
 have : (x ++ 10 :: r).drop (x.length + ([10] : List UInt8).length) = r := by
  rw [← List.drop_drop, List.drop_left]; rfl
 rw [this]
theorem pay10 (l : List UInt8) : ∀ c ∈ payQ l, c ≠ 10 := by
 intro c hc h
 have := (payQ_print l c hc).1
 subst h
 exact absurd this (by decide)
theorem trim_pay (l : List UInt8) : trimQ (payQ l) = payQ l := by
 unfold trimQ
 rw [Lib.trimRightS_take _ _ (payQ l).length (Nat.le_refl _) (fun j b hj hb => by rw [List.getElem?_eq_none (by omega)] at hb; cases hb) (fun b h0 hb => ?_), List.take_length]
 have hm : b ∈ payQ l := List.mem_of_getElem? hb
 have h32 := (payQ_print l b hm).1
 have n1 : (b == 32) = false := by rw [beq_eq_false_iff_ne]; rintro rfl; exact absurd h32 (by decide)
 have n2 : (b == 9) = false := by rw [beq_eq_false_iff_ne]; rintro rfl; exact absurd h32 (by decide)
 have n3 : (b == 13) = false := by rw [beq_eq_false_iff_ne]; rintro rfl; exact absurd h32 (by decide)
 simp only [List.contains, List.elem, n1, n2, n3]
theorem trim_soft (x : List UInt8) : trimQ (x ++ [61, 13]) = x ++ [61] := by
 unfold trimQ Lib.trimRightS
 rw [List.reverse_append]
 show (List.dropWhile _ (13 :: 61 :: x.reverse)).reverse = _
 rw [List.dropWhile_cons_of_pos (by decide), List.dropWhile_cons_of_neg (by decide)]
 simp
theorem soft_soft (x : List UInt8) : softQ (x ++ [61]) = true := by
 unfold softQ Lib.hasSuffix
 rw [List.isSuffixOf_iff_suffix]
 exact ⟨x, rfl⟩
theorem bare_soft (x : List UInt8) : bareQ (x ++ [61]) = x := by
 unfold bareQ
 rw [soft_soft, if_pos rfl]
 simp
theorem bare_pay (l : List UInt8) : bareQ (payQ l) = payQ l := by
 unfold bareQ softQ
 rw [payQ_end, if_neg (by decide)]
theorem linesQ_str : ∀ (k : Nat) (T l out : List UInt8), StrQ T l → T.length ≤ k → out.length + l.length ≤ 4000 → linesQ k T out = (out ++ l, 0) := by
 intro k
 induction k with
 | zero =>
  intro T l out h hk hl
  have hT : T = [] := List.eq_nil_of_length_eq_zero (by omega)
  rcases h.split with h1 | ⟨_, _, _, _, h1, _⟩
  · have : l = [] := by
     cases l with
     | nil => rfl
     | cons c l =>
      have h3 := oneQ_len c
      rw [hT] at h1
      have := congrArg List.length h1
      simp [payQ] at this
      omega
    subst this
    simp [linesQ]
  · rw [hT] at h1; have := congrArg List.length h1; simp at this
 | succ k ih =>
  intro T l out h hk hl
  unfold linesQ
  split
  · rename_i hT
    have hT : T = [] := by simpa using hT
    rcases h.split with h1 | ⟨_, _, _, _, h1, _⟩
    · have : l = [] := by
       cases l with
       | nil => rfl
       | cons c l =>
        have h3 := oneQ_len c
        rw [hT] at h1
        have := congrArg List.length h1
        simp [payQ] at this
        omega
      subst this
      simp
    · rw [hT] at h1; have := congrArg List.length h1; simp at this
  · unfold endQ
    rcases h.split with rfl | ⟨l1, l2, T2, rfl, rfl, h2⟩
    · rw [cut10_none _ (pay10 l)]
      simp only [trim_pay, bare_pay, decQ_pay, Bool.false_and]
      rw [if_neg (by simp; omega)]
      have h0 : linesQ k [] (out ++ l ++ if false = true then [13, 10] else []) = (out ++ l, 0) := by
       cases k <;> simp [linesQ]
      exact h0
    · have hc : Lib.cut (payQ l1 ++ 61 :: 13 :: 10 :: T2) [10] = (payQ l1 ++ [61, 13], T2, true) := by
       rw [show payQ l1 ++ 61 :: 13 :: 10 :: T2 = (payQ l1 ++ [61, 13]) ++ 10 :: T2 from by simp]
       refine cut10_at _ _ fun c hc => ?_
       simp only [List.mem_append, List.mem_cons, List.not_mem_nil, or_false] at hc
       rcases hc with hc | rfl | rfl
       · exact pay10 l1 c hc
       · decide
       · decide
      rw [hc]
      simp only [trim_soft, bare_soft, decQ_pay, soft_soft, Bool.not_true, Bool.and_false]
      have hll : (l1 ++ l2).length = l1.length + l2.length := List.length_append
      rw [if_neg (by simp; omega)]
      have h3 := ih T2 l2 (out ++ l1) h2 (by simp at hk; omega) (by simp; omega)
      rw [List.append_assoc] at h3
      simpa using h3
/-- What is written in such a text is read. -/
theorem readQ_str (T l : List UInt8) (h : StrQ T l) (hT : T.length ≤ 16000) (hl : l.length ≤ 4000) : readQ T = (l, 0) := by
 unfold readQ
 rw [if_neg (by omega), linesQ_str _ T l [] h (Nat.le_refl _) (by simpa using hl)]
 rfl
theorem encQ_len3 : ∀ (l : List UInt8) (wide : Nat), wide ≤ 75 → 73 * (encQ wide l).length ≤ 228 * l.length + 3 * wide := by
 intro l
 induction l with
 | nil => intro wide _; simp [encQ]
 | cons c r ih =>
  intro wide hw
  have h1 := oneQ_len c
  unfold encQ
  split
  · have h2 := ih (oneQ c).length (by omega)
    simp only [List.length_append, List.length_cons, List.length_nil]; omega
  · have h3 := ih (wide + (oneQ c).length) (by omega)
    simp only [List.length_append, List.length_cons]; omega
theorem readQ_enc (l : List UInt8) (hl : l.length ≤ 4000) : readQ (encQ 0 l) = (l, 0) := by
 have := encQ_len3 l 0 (by omega)
 exact readQ_str _ l (encQ_str l 0) (by omega) hl
end Go.Proofs.YtinfjdfhkfhgjaaGreatDoor
namespace Go.Proofs.YtinfjdfhkfhgjaaGreatDoor
/-- strings.Split's parts, on lists. -/
def splitK (sep : List UInt8) : Nat → List UInt8 → List (List UInt8)
 | 0, s => [s]
 | k + 1, s => if Lib.index s sep == -1 then [s] else s.take (Lib.index s sep).toNat :: splitK sep k (s.drop ((Lib.index s sep).toNat + sep.length))
theorem splitB_data (sep : List UInt8) (k : Nat) : ∀ s : ByteArray, (Lib.splitB ⟨sep.toArray⟩ 0 k s).map Value.string = (splitK sep k s.data.toList).map str := by
 induction k with
 | zero => intro s; rfl
 | succ k ih =>
  intro s
  unfold Lib.splitB splitK
  show (if (Lib.index s.data.toList sep == -1) = true then [s] else _).map Value.string = (if (Lib.index s.data.toList sep == -1) = true then [s.data.toList] else _).map str
  by_cases h : (Lib.index s.data.toList sep == -1) = true
  · rw [if_pos h, if_pos h]; rfl
  · rw [if_neg h, if_neg h]
    simp only [List.map_cons]
    rw [ih]
    congr 1
    · rw [str_of, Lib.extract_data]
      simp [Lib.indexB]
    · congr 1
      congr 1
      rw [Lib.extract_data]
      simp only [Lib.indexB]
      rw [List.take_of_length_le (by rw [List.length_drop]; exact Nat.le_refl _)]
      rfl
end Go.Proofs.YtinfjdfhkfhgjaaGreatDoor
namespace Go.Proofs.YtinfjdfhkfhgjaaGreatDoor
end Go.Proofs.YtinfjdfhkfhgjaaGreatDoor
namespace Go.Proofs.YtinfjdfhkfhgjaaGreatDoor
/-- Does a text hold another one? -/
def hasS (s t : List UInt8) : Bool := decide (0 ≤ Lib.index s t)
end Go.Proofs.YtinfjdfhkfhgjaaGreatDoor
namespace Go.Proofs.YtinfjdfhkfhgjaaGreatDoor
open Go.RowKit
def ctN : List UInt8 := [67, 111, 110, 116, 101, 110, 116, 45, 84, 121, 112, 101]
def idN : List UInt8 := [67, 111, 110, 116, 101, 110, 116, 45, 73, 68]
def locN : List UInt8 := [67, 111, 110, 116, 101, 110, 116, 45, 76, 111, 99, 97, 116, 105, 111, 110]
def cteN : List UInt8 := [67, 111, 110, 116, 101, 110, 116, 45, 84, 114, 97, 110, 115, 102, 101, 114, 45, 69, 110, 99, 111, 100, 105, 110, 103]
def csS : List UInt8 := [59, 32, 99, 104, 97, 114, 115, 101, 116, 61]
def bdS : List UInt8 := [59, 32, 98, 111, 117, 110, 100, 97, 114, 121, 61, 34]
def howS (h : Int) : List UInt8 := if h = 1 then [98, 97, 115, 101, 54, 52] else if h = 2 then [113, 117, 111, 116, 101, 100, 45, 112, 114, 105, 110, 116, 97, 98, 108, 101] else [56, 98, 105, 116]
/-- The value of a part's type. -/
def typeV (t cs border : List UInt8) : List UInt8 := t ++ (if cs = [] then [] else csS ++ cs) ++ (if border = [] then [] else bdS ++ border ++ [34])
def fieldsM (t cs id loc : List UInt8) (how : Int) (border : List UInt8) : List FieldD :=
 [⟨ctN, typeV t cs border⟩] ++ (if id = [] then [] else [⟨idN, [60] ++ id ++ [62]⟩]) ++ (if loc = [] then [] else [⟨locN, loc⟩]) ++ (if border = [] then [⟨cteN, howS how⟩] else [])
def encM (how : Int) (body : List UInt8) : List UInt8 := if how = 1 then enc 0 body else if how = 2 then encQ 0 body else body
def markM (n : Nat) : List UInt8 := [45, 45, 61, 95] ++ Lib.decDigits n
/-- The first number whose mark isn't in a text. -/
def bordF (J : List UInt8) : Nat → Nat → Nat
 | 0, n => n
 | f + 1, n => if hasS J (markM n) then bordF J f (n + 1) else n
def bordN (J : List UInt8) : Nat := bordF J 2000000 1
def nlJ : List (List UInt8) → List UInt8 := joinC 10
def bordM (n : Nat) : List UInt8 := [61, 95] ++ Lib.decDigits n
def wrapM (border : List UInt8) : List (List UInt8) → List UInt8
 | [] => [45, 45] ++ border ++ [45, 45, 13, 10]
 | k :: l => [45, 45] ++ border ++ [13, 10] ++ k ++ [13, 10] ++ wrapM border l
mutual
def textM : PartD → List UInt8
 | ⟨t, cs, id, loc, how, body, parts⟩ => if manyB t then textF (fieldsM t cs id loc how (bordM (bordN (nlJ (textsM parts))))) ++ wrapM (bordM (bordN (nlJ (textsM parts)))) (textsM parts)
  else textF (fieldsM t cs id loc how []) ++ encM how body
def textsM : List PartD → List (List UInt8)
 | [] => []
 | p :: ps => textM p :: textsM ps
end
/-- mime.Write. -/
def writeM (p : PartD) : List UInt8 × Nat := if checkD p ≠ 0 then ([], checkD p) else if 40000 < (textM p).length then ([], 2) else (textM p, 0)
/-- The end of the last line belongs to the border. -/
def chopB (b : List UInt8) (c : UInt8) : List UInt8 := if Lib.hasSuffix b [c] then b.take (b.length - 1) else b
def innerM (b : List UInt8) : List UInt8 := chopB (chopB b 10) 13
def bareM (line : List UInt8) : List UInt8 := Lib.trimRightS line [32, 9, 13, 10]
/-- The first line, its end too; and what is behind it. -/
def lineM (b : List UInt8) : List UInt8 × List UInt8 := if Lib.indexByte b 10 < 0 then (b, []) else (b.take ((Lib.indexByte b 10).toNat + 1), b.drop ((Lib.indexByte b 10).toNat + 1))
def openM (cur : Option (List UInt8)) (out : List (List UInt8)) : List (List UInt8) := match cur with | none => out | some c => out ++ [innerM c]
/-- mime.Split's loop: cur: what has been read of a part, if one is open. -/
def splitF (border : List UInt8) : Nat → List UInt8 → Option (List UInt8) → List (List UInt8) → List (List UInt8) × Nat
 | 0, _, _, _ => ([], 1)
 | k + 1, b, cur, out =>
  if b = [] then ([], 1)
  else if bareM (lineM b).1 = [45, 45] ++ border then splitF border k (lineM b).2 (some []) (openM cur out)
  else if bareM (lineM b).1 = [45, 45] ++ border ++ [45, 45] then (openM cur out, 0)
  else splitF border k (lineM b).2 (cur.map (· ++ (lineM b).1)) out
def splitM (b border : List UInt8) : List (List UInt8) × Nat :=
 if 40000 < b.length then ([], 2) else if border = [] ∨ 60 < border.length then ([], 3) else splitF border (b.length + 1) b none []
def idM (s : List UInt8) : List UInt8 := if Lib.hasPrefix s [60] && Lib.hasSuffix s [62] then (s.take (s.length - 1)).drop 1 else s
def bodyM (how b : List UInt8) : Int × List UInt8 × Nat :=
 if lowL how = [] ∨ lowL how = [55, 98, 105, 116] ∨ lowL how = [56, 98, 105, 116] ∨ lowL how = [98, 105, 110, 97, 114, 121] then (if 4000 < b.length then (0, [], 2) else (0, b, 0))
 else if lowL how = [98, 97, 115, 101, 54, 52] then (1, readB b)
 else if lowL how = [113, 117, 111, 116, 101, 100, 45, 112, 114, 105, 110, 116, 97, 98, 108, 101] then (2, readQ b)
 else (0, [], 4)
def zeroPD : PartD := ⟨[], [], [], [], 0, [], []⟩
/-- What one level does with the parts between borders: their answers, the count, an error. -/
def eachM (rd : Nat → List UInt8 → PartD × Nat × Nat) : List (List UInt8) → Nat → List PartD → List PartD × Nat × Nat
 | [], cnt, out => (out, cnt, 0)
 | x :: xs, cnt, out => if (rd cnt x).2.2 = 0 then eachM rd xs (rd cnt x).2.1 (out ++ [(rd cnt x).1]) else ([], (rd cnt x).2.1, (rd cnt x).2.2)
/-- (*reader).part: so many levels are left; so many parts there have been. Part, count, error. -/
def partM : Nat → Nat → List UInt8 → PartD × Nat × Nat
 | 0, cnt, _ => (zeroPD, cnt + 1, 2)
 | k + 1, cnt, b =>
  if 12 < cnt + 1 then (zeroPD, cnt + 1, 2)
  else if (parseF b).2.2 ≠ 0 then (zeroPD, cnt + 1, (parseF b).2.2)
  else
   let l := (parseF b).1
   let rest := b.drop (parseF b).2.1
   let t := if getF l ctN = [] then [116, 101, 120, 116, 47, 112, 108, 97, 105, 110] else getF l ctN
   let main := (paramsF t).1
   let ps := (paramsF t).2.1
   if (paramsF t).2.2 ≠ 0 then (zeroPD, cnt + 1, (paramsF t).2.2)
   else if manyB main then
    (if (splitM rest (getF ps [98, 111, 117, 110, 100, 97, 114, 121])).2 ≠ 0 then (zeroPD, cnt + 1, (splitM rest (getF ps [98, 111, 117, 110, 100, 97, 114, 121])).2)
    else
     let r := eachM (partM k) (splitM rest (getF ps [98, 111, 117, 110, 100, 97, 114, 121])).1 (cnt + 1) []
     if r.2.2 ≠ 0 then (zeroPD, r.2.1, r.2.2) else (⟨main, [], idM (getF l idN), getF l locN, 0, [], r.1⟩, r.2.1, 0))
   else
    let y := bodyM (getF l cteN) rest
    if y.2.2 ≠ 0 then (zeroPD, cnt + 1, y.2.2) else (⟨main, getF ps [99, 104, 97, 114, 115, 101, 116], idM (getF l idN), getF l locN, y.1, y.2.1, []⟩, cnt + 1, 0)
/-- mime.Read. -/
def readM (b : List UInt8) : PartD × Nat :=
 if 40000 < b.length then (zeroPD, 2)
 else if (partM 3 0 b).2.2 ≠ 0 then (zeroPD, (partM 3 0 b).2.2)
 else if checkD (partM 3 0 b).1 ≠ 0 then (zeroPD, checkD (partM 3 0 b).1) else ((partM 3 0 b).1, 0)
def hasI (m s : List UInt8) : Prop := ∃ a b, s = a ++ m ++ b
theorem occ_iff (s m : List UInt8) (j : Nat) : Lib.occAt s m j = true ↔ ∃ b, s.drop j = m ++ b := by
 unfold Lib.occAt
 rw [List.isPrefixOf_iff_prefix]
 constructor
 · rintro ⟨t, ht⟩; exact ⟨t, ht.symm⟩
 · rintro ⟨b, hb⟩; exact ⟨b, hb.symm⟩
theorem hasS_false {s m : List UInt8} (h : hasS s m = false) : ¬ hasI m s := by
 rintro ⟨a, b, rfl⟩
 unfold hasS at h
 rcases Lib.index_spec (a ++ m ++ b) m with ⟨_, h2⟩ | ⟨i, h2, _⟩
 · have := h2 a.length (by simp)
   rw [(occ_iff _ _ _).2 ⟨b, by rw [List.append_assoc, List.drop_left]⟩] at this
   cases this
 · rw [h2] at h
   simp at h
theorem hasS_true {s m : List UInt8} (h : hasS s m = true) : ∃ i b, Lib.index s m = (i : Nat) ∧ i ≤ s.length ∧ s.drop i = m ++ b := by
 unfold hasS at h
 rcases Lib.index_spec s m with ⟨h1, _⟩ | ⟨i, h2, h3, h4, _⟩
 · rw [h1] at h; simp at h
 · obtain ⟨b, hb⟩ := (occ_iff _ _ _).1 h4
   exact ⟨i, b, h2, h3, hb⟩
theorem hasS_of {s m : List UInt8} (h : hasI m s) : hasS s m = true := by
 cases hs : hasS s m with
 | true => rfl
 | false => exact absurd h (hasS_false hs)
theorem hasI_left {m s t : List UInt8} (h : hasI m s) : hasI m (s ++ t) := by
 obtain ⟨a, b, rfl⟩ := h
 exact ⟨a, b ++ t, by simp⟩
theorem hasI_right {m s t : List UInt8} (h : hasI m t) : hasI m (s ++ t) := by
 obtain ⟨a, b, rfl⟩ := h
 exact ⟨s ++ a, b, by simp⟩
/-- A byte that isn't in what is looked for parts the text. -/
theorem hasI_split {m x y : List UInt8} {c : UInt8} (hc : c ∉ m) (h : hasI m (x ++ c :: y)) : hasI m x ∨ hasI m y := by
 obtain ⟨a, b, e⟩ := h
 rw [List.append_assoc] at e
 rcases List.append_eq_append_iff.1 e with ⟨z, h1, h2⟩ | ⟨z, h1, h2⟩
 · -- a = x ++ z, c :: y = z ++ (m ++ b)
   cases z with
   | nil =>
    cases m with
    | nil => exact .inl ⟨x, [], by simp⟩
    | cons d m => simp at h2; exact absurd h2.1 (fun e => hc (by simp [e]))
   | cons d z =>
    simp at h2
    exact .inr ⟨z, b, by rw [h2.2]; simp⟩
 · -- x = a ++ z, m ++ b = z ++ c :: y
   rcases List.append_eq_append_iff.1 h2 with ⟨u, h3, h4⟩ | ⟨u, h3, h4⟩
   · -- z = m ++ u
     exact .inl ⟨a, u, by rw [h1, h3]; simp⟩
   · -- m = z ++ u, c :: y = u ++ b
     cases u with
     | nil => exact .inl ⟨a, [], by rw [h1]; simp at h3; simp [h3]⟩
     | cons d u => simp at h4; exact absurd h4.1 (fun e => hc (by rw [h3]; simp [e]))
theorem dig_big {u : Nat} (h : ¬ u < 10) : Lib.decDigits u = Lib.decDigits (u / 10) ++ [UInt8.ofNat (48 + u % 10)] := by rw [Lib.decDigits, dif_neg h]
theorem ofNat8_inj {a b : Nat} (ha : a < 256) (hb : b < 256) (h : UInt8.ofNat a = UInt8.ofNat b) : a = b := by
 have := congrArg UInt8.toNat h
 simpa [Nat.mod_eq_of_lt ha, Nat.mod_eq_of_lt hb] using this
theorem dig_inj : ∀ (k u v : Nat), u ≤ k → Lib.decDigits u = Lib.decDigits v → u = v := by
 intro k
 induction k with
 | zero =>
  intro u v hu h
  obtain rfl : u = 0 := by omega
  by_cases hv : v < 10
  · rw [Lib.decDigits_one (by omega), Lib.decDigits_one hv] at h
    simp only [List.cons.injEq, and_true] at h
    have := ofNat8_inj (by omega) (by omega) h
    omega
  · have hl := congrArg List.length h
    rw [Lib.decDigits_length, Lib.decDigits_length, Lib.nDigits_small (by omega), Lib.nDigits_big hv] at hl
    have := Lib.nDigits_pos (v / 10)
    omega
 | succ k ih =>
  intro u v hu h
  by_cases h1 : u < 10
  · by_cases hv : v < 10
    · rw [Lib.decDigits_one h1, Lib.decDigits_one hv] at h
      simp only [List.cons.injEq, and_true] at h
      have := ofNat8_inj (by omega) (by omega) h
      omega
    · have hl := congrArg List.length h
      rw [Lib.decDigits_length, Lib.decDigits_length, Lib.nDigits_small (by omega), Lib.nDigits_big hv] at hl
      have := Lib.nDigits_pos (v / 10)
      omega
  · by_cases hv : v < 10
    · have hl := congrArg List.length h
      rw [Lib.decDigits_length, Lib.decDigits_length, Lib.nDigits_small hv, Lib.nDigits_big h1] at hl
      have := Lib.nDigits_pos (u / 10)
      omega
    · rw [dig_big h1, dig_big hv] at h
      have h2 := List.append_inj' h rfl
      have h3 := ih (u / 10) (v / 10) (by omega) h2.1
      have h4 := h2.2
      simp only [List.cons.injEq, and_true] at h4
      have := ofNat8_inj (by omega) (by omega) h4
      omega
theorem dig_mem : ∀ (k u : Nat), u ≤ k → ∀ b ∈ Lib.decDigits u, 48 ≤ b.toNat ∧ b.toNat ≤ 57 := by
 intro k
 induction k with
 | zero =>
  intro u hu b hb
  rw [Lib.decDigits_one (by omega)] at hb
  simp at hb
  subst hb
  obtain rfl : u = 0 := by omega
  decide
 | succ k ih =>
  intro u hu b hb
  by_cases h1 : u < 10
  · rw [Lib.decDigits_one h1] at hb
    simp only [List.mem_cons, List.not_mem_nil, or_false] at hb
    subst hb
    rw [UInt8.toNat_ofNat', Nat.mod_eq_of_lt (by omega)]
    omega
  · rw [dig_big h1] at hb
    rcases List.mem_append.1 hb with hb | hb
    · exact ih _ (by omega) b hb
    · simp only [List.mem_cons, List.not_mem_nil, or_false] at hb
      subst hb
      rw [UInt8.toNat_ofNat', Nat.mod_eq_of_lt (by omega)]
      omega
theorem nDig_le : ∀ (k u : Nat), u < 10 ^ (k + 1) → Lib.nDigits u ≤ k + 1 := by
 intro k
 induction k with
 | zero => intro u h; rw [Lib.nDigits_small (by simpa using h)]; omega
 | succ k ih =>
  intro u h
  by_cases h1 : u < 10
  · rw [Lib.nDigits_small h1]; omega
  · rw [Lib.nDigits_big h1]
    have := ih (u / 10) (by rw [Nat.pow_succ] at h; omega)
    omega
theorem pigeon : ∀ (k : Nat) (l : List Nat), l.Nodup → (∀ x ∈ l, x < k) → l.length ≤ k
 | 0, l, _, h => by
  cases l with
  | nil => simp
  | cons x r => exact absurd (h x (by simp)) (by omega)
 | k + 1, l, hn, h => by
  have h1 := pigeon k (l.erase k) (hn.erase k) (fun x hx => by
   have h2 := (hn.mem_erase_iff).1 hx
   have := h x h2.2
   have := h2.1
   omega)
  have h2 := List.length_erase (a := k) (l := l)
  split at h2 <;> omega
theorem mark_len (n : Nat) : (markM n).length = Lib.nDigits n + 4 := by
 unfold markM
 rw [List.length_append, Lib.decDigits_length]
 simp
 omega
theorem marks_all (J : List UInt8) (N B : Nat) (hd : ∀ i, i < N → Lib.nDigits (B + i) = Lib.nDigits B) (h : ∀ i, i < N → hasS J (markM (B + i)) = true) : N ≤ J.length := by
 have hpos : ∀ i, i < N → (Lib.index J (markM (B + i))).toNat < J.length := by
  intro i hi
  obtain ⟨p, b, h1, h2, h3⟩ := hasS_true (h i hi)
  rw [h1, Int.toNat_natCast]
  have hl := congrArg List.length h3
  rw [List.length_drop, List.length_append, mark_len] at hl
  omega
 have hn : ((List.range N).map (fun i => (Lib.index J (markM (B + i))).toNat)).Nodup := by
  unfold List.Nodup
  rw [List.pairwise_map]
  refine List.Pairwise.imp_of_mem ?_ (List.pairwise_lt_range (n := N))
  intro i j hi hj hij e
  have hi := List.mem_range.1 hi
  have hj := List.mem_range.1 hj
  obtain ⟨p, b, h1, h2, h3⟩ := hasS_true (h i hi)
  obtain ⟨q, c, k1, k2, k3⟩ := hasS_true (h j hj)
  simp only [h1, k1, Int.toNat_natCast] at e
  subst e
  rw [h3] at k3
  have h4 := (List.append_inj k3 (by rw [mark_len, mark_len, hd i hi, hd j hj])).1
  unfold markM at h4
  have := dig_inj _ _ _ (Nat.le_refl _) (List.append_cancel_left h4)
  omega
 have := pigeon J.length _ hn (by
  intro x hx
  obtain ⟨i, hi, rfl⟩ := List.mem_map.1 hx
  exact hpos i (List.mem_range.1 hi))
 simpa using this
theorem mark_free (J : List UInt8) (hJ : J.length < 900000) : ∃ n, 100000 ≤ n ∧ n < 1000000 ∧ hasS J (markM n) = false := by
 refine Classical.byContradiction fun hno => ?_
 have := marks_all J 900000 100000 (fun i hi => by
  rw [Lib.nDigits_unique 5 (100000 + i) (by omega) (by omega), Lib.nDigits_unique 5 100000 (by omega) (by omega)]) (fun i hi => by
  cases hs : hasS J (markM (100000 + i)) with
  | true => rfl
  | false => exact absurd ⟨_, by omega, by omega, hs⟩ hno)
 omega
theorem bordF_spec (J : List UInt8) (n0 : Nat) (h0 : hasS J (markM n0) = false) : ∀ (f n : Nat), n ≤ n0 → n0 - n < f → n ≤ bordF J f n ∧ bordF J f n ≤ n0 ∧ hasS J (markM (bordF J f n)) = false ∧ ∀ m, n ≤ m → m < bordF J f n → hasS J (markM m) = true
 | 0, n, _, h => absurd h (by omega)
 | f + 1, n, hn, hf => by
  rw [bordF]
  cases hs : hasS J (markM n) with
  | false =>
   rw [if_neg (by simp)]
   exact ⟨by omega, hn, hs, fun m h1 h2 => absurd h2 (by omega)⟩
  | true =>
   rw [if_pos rfl]
   have hne : n ≠ n0 := fun e => by rw [e, h0] at hs; cases hs
   obtain ⟨h1, h2, h3, h4⟩ := bordF_spec J n0 h0 f (n + 1) (by omega) (by omega)
   refine ⟨by omega, h2, h3, fun m k1 k2 => ?_⟩
   by_cases hm : m = n
   · rw [hm]; exact hs
   · exact h4 m (by omega) k2
theorem bordN_spec (J : List UInt8) (hJ : J.length < 900000) : 1 ≤ bordN J ∧ bordN J < 1000000 ∧ hasS J (markM (bordN J)) = false ∧ ∀ m, 1 ≤ m → m < bordN J → hasS J (markM m) = true := by
 obtain ⟨n, h1, h2, h3⟩ := mark_free J hJ
 unfold bordN
 have := bordF_spec J n h3 2000000 1 (by omega) (by omega)
 exact ⟨this.1, by omega, this.2.2⟩
theorem bordF_le (J : List UInt8) : ∀ (f n : Nat), bordF J f n ≤ n + f
 | 0, n => by rw [bordF]; omega
 | f + 1, n => by
  rw [bordF]
  split
  · have := bordF_le J f (n + 1); omega
  · omega
theorem bord_len (J : List UInt8) : (bordM (bordN J)).length ≤ 9 := by
 have h1 : bordN J ≤ 1 + 2000000 := by unfold bordN; exact bordF_le J 2000000 1
 have := nDig_le 6 (bordN J) (by omega)
 unfold bordM
 rw [List.length_append, Lib.decDigits_length]
 simp
 omega
theorem bord_mem (n : Nat) : ∀ b ∈ bordM n, b = 61 ∨ b = 95 ∨ (48 ≤ b.toNat ∧ b.toNat ≤ 57) := by
 intro b hb
 unfold bordM at hb
 rcases List.mem_append.1 hb with hb | hb
 · simp at hb
   rcases hb with rfl | rfl
   · exact .inl rfl
   · exact .inr (.inl rfl)
 · exact .inr (.inr (dig_mem n n (Nat.le_refl _) b hb))
theorem typ_parts {t : List UInt8} (h : typB t = true) : t ≠ [] ∧ t.length ≤ 61 ∧ (∀ b ∈ t, 32 < b.toNat ∧ b.toNat ≤ 126 ∧ b ≠ 59) ∧ lowL t = t := by
 unfold typB at h
 simp only [Bool.and_eq_true, Bool.not_eq_true'] at h
 obtain ⟨⟨⟨h1, h2⟩, h3⟩, h4⟩ := h
 have e := cut_backT t 47 h1
 obtain ⟨_, l1, m1⟩ := tok_mem h2
 obtain ⟨_, l2, m2⟩ := tok_mem h3
 have hl := congrArg List.length e
 rw [List.length_append, List.length_cons] at hl
 refine ⟨fun e0 => ?_, by omega, fun b hb => ?_, ?_⟩
 · rw [e0] at hl; simp at hl
 · rw [e, List.mem_append, List.mem_cons] at hb
   rcases hb with hb | rfl | hb
   · obtain ⟨a, b, c⟩ := m1 _ hb
     exact ⟨a, b, fun e => c (by rw [e]; decide)⟩
   · decide
   · obtain ⟨a, b, c⟩ := m2 _ hb
     exact ⟨a, b, fun e => c (by rw [e]; decide)⟩
 · unfold lowL
   conv => rhs; rw [← List.map_id t]
   refine List.map_congr_left fun b hb => ?_
   have := List.any_eq_false.1 h4 b hb
   unfold upR at this
   simp only [Bool.and_eq_true, decide_eq_true_eq, not_and] at this
   unfold lowB
   rw [if_neg]
   · rfl
   · rintro ⟨k1, k2⟩
     have k1 := UInt8.le_iff_toNat_le.1 k1
     have k2 := UInt8.le_iff_toNat_le.1 k2
     exact this k1 k2
theorem wordP_mem {s : List UInt8} (h : wordB s = true) : s.length ≤ 120 ∧ ∀ b ∈ s, 32 < b.toNat ∧ b.toNat ≤ 126 := by
 unfold wordB at h
 simp only [Bool.and_eq_true, Bool.not_eq_true', decide_eq_true_eq] at h
 refine ⟨h.1, fun b hb => ?_⟩
 have := List.any_eq_false.1 h.2 b hb
 unfold badWord at this
 simp only [Bool.or_eq_true, decide_eq_true_eq, not_or] at this
 omega
theorem val_of {s : List UInt8} (h1 : s.length ≤ 900) (h2 : ∀ b ∈ s, 32 ≤ b.toNat ∧ b.toNat ≤ 126) (h3 : ∀ x, s.head? = some x → x ≠ 32) (h4 : ∀ x, s.getLast? = some x → x ≠ 32) : valB s = true := by
 unfold valB
 have h := trim_pad [] s [] [32] (by simp) (by simp) (fun x hx => by simp [h3 x hx]) (fun x hx => by simp [h4 x hx])
 rw [List.nil_append, List.append_nil] at h
 rw [h]
 simp only [Bool.and_eq_true, decide_eq_true_eq, beq_self_eq_true, Bool.not_eq_true', and_true]
 refine ⟨h1, List.any_eq_false.2 fun b hb => ?_⟩
 have := h2 b hb
 unfold badVal
 simp
 omega
theorem val_word {s : List UInt8} (h1 : s.length ≤ 900) (h2 : ∀ b ∈ s, 32 < b.toNat ∧ b.toNat ≤ 126) : valB s = true := by
 refine val_of h1 (fun b hb => ⟨by have := h2 b hb; omega, (h2 b hb).2⟩) (fun x hx e => ?_) (fun x hx e => ?_)
 · have := (h2 x (List.mem_of_mem_head? (by rw [hx]; rfl))).1
   rw [e] at this
   exact absurd this (by decide)
 · have := (h2 x (List.mem_of_getLast? hx)).1
   rw [e] at this
   exact absurd this (by decide)
/-- What a border may be. -/
def bordOk (b : List UInt8) : Prop := b ≠ [] ∧ b.length ≤ 60 ∧ (∀ x ∈ b, 32 < x.toNat ∧ x.toNat ≤ 126 ∧ x ≠ 34) 
theorem bordM_ok (J : List UInt8) : bordOk (bordM (bordN J)) := by
 refine ⟨fun e => ?_, by have := bord_len J; omega, fun x hx => ?_⟩
 · unfold bordM at e; simp at e
 · rcases bord_mem _ x hx with rfl | rfl | h
   · decide
   · decide
   · exact ⟨by omega, by omega, fun e => by rw [e] at h; exact absurd h (by decide)⟩
/-- The three shapes of a type's value. -/
theorem typeV_val {t cs b : List UInt8} (ht : typB t = true) (hcs : cs = [] ∨ tokB cs = true) (hb : b = [] ∨ bordOk b) : valB (typeV t cs b) = true := by
 obtain ⟨t0, t1, t2, _⟩ := typ_parts ht
 have c1 : cs.length ≤ 30 ∧ ∀ x ∈ cs, 32 < x.toNat ∧ x.toNat ≤ 126 := by
  rcases hcs with rfl | h
  · simp
  · obtain ⟨_, h1, h2⟩ := tok_mem h
    exact ⟨h1, fun x hx => ⟨(h2 x hx).1, (h2 x hx).2.1⟩⟩
 have b1 : b.length ≤ 60 ∧ ∀ x ∈ b, 32 < x.toNat ∧ x.toNat ≤ 126 := by
  rcases hb with rfl | h
  · simp
  · exact ⟨h.2.1, fun x hx => ⟨(h.2.2 x hx).1, (h.2.2 x hx).2.1⟩⟩
 have c2 : ∀ x ∈ csS, 32 ≤ x.toNat ∧ x.toNat ≤ 126 := by decide
 have b2 : ∀ x ∈ bdS, 32 ≤ x.toNat ∧ x.toNat ≤ 126 := by decide
 have hlen : (typeV t cs b).length ≤ 900 := by
  unfold typeV
  simp only [List.length_append]
  have : (if cs = [] then [] else csS ++ cs).length ≤ 40 := by
   split
   · simp
   · rw [List.length_append, show csS.length = 10 from rfl]; omega
  have : (if b = [] then [] else bdS ++ b ++ [34]).length ≤ 80 := by
   split
   · simp
   · rw [List.length_append, List.length_append, show bdS.length = 12 from rfl]; simp; omega
  omega
 refine val_of hlen (fun x hx => ?_) (fun x hx e => ?_) (fun x hx e => ?_)
 · unfold typeV at hx
   simp only [List.mem_append] at hx
   rcases hx with (hx | hx) | hx
   · have := t2 x hx; omega
   · split at hx
     · simp at hx
     · rcases List.mem_append.1 hx with hx | hx
       · exact c2 x hx
       · have := c1.2 x hx; omega
   · split at hx
     · simp at hx
     · rcases List.mem_append.1 hx with hx | hx
       · rcases List.mem_append.1 hx with hx | hx
         · exact b2 x hx
         · have := b1.2 x hx; omega
       · simp at hx; subst hx; decide
 · unfold typeV at hx
   cases t with
   | nil => exact t0 rfl
   | cons y r =>
    simp only [List.cons_append, List.head?_cons, Option.some.injEq] at hx
    have := (t2 y (by simp)).1
    rw [hx, e] at this
    exact absurd this (by decide)
 · unfold typeV at hx
   have h3 : x ∈ t ∨ x ∈ cs ∨ x = 34 := by
    by_cases hb0 : b = []
    · rw [if_pos hb0, List.append_nil] at hx
      by_cases hc0 : cs = []
      · rw [if_pos hc0, List.append_nil] at hx
        exact .inl (List.mem_of_getLast? hx)
      · rw [if_neg hc0, ← List.append_assoc, last_append _ _ hc0] at hx
        exact .inr (.inl (List.mem_of_getLast? hx))
    · rw [if_neg hb0, last_append _ _ (by simp), last_append _ _ (by simp)] at hx
      simp at hx
      exact .inr (.inr hx.symm)
   rcases h3 with h | h | h
   · have := (t2 x h).1; rw [e] at this; exact absurd this (by decide)
   · have := (c1.2 x h).1; rw [e] at this; exact absurd this (by decide)
   · rw [e] at h; exact absurd h (by decide)
theorem how_val (how : Int) : valB (howS how) = true := by
 unfold howS
 split
 · decide +kernel
 · split
   · decide +kernel
   · decide +kernel
theorem fields_chk {t cs id loc b : List UInt8} {how : Int} (ht : typB t = true) (hcs : cs = [] ∨ tokB cs = true) (hid : wordB id = true) (hloc : wordB loc = true) (hb : b = [] ∨ bordOk b) : chkF (fieldsM t cs id loc how b) = 0 := by
 have h1 := typeV_val ht hcs hb
 obtain ⟨i1, i2⟩ := wordP_mem hid
 obtain ⟨l1, l2⟩ := wordP_mem hloc
 have hi : valB ([60] ++ id ++ [62]) = true := val_word (by simp; omega) (fun x hx => by
  simp only [List.mem_append, List.mem_cons, List.not_mem_nil, or_false] at hx
  rcases hx with (rfl | hx) | rfl
  · decide
  · exact i2 x hx
  · decide)
 have hl := val_word (by omega : loc.length ≤ 900) l2
 have n1 : tokB ctN = true := by decide +kernel
 have n2 : tokB idN = true := by decide +kernel
 have n3 : tokB locN = true := by decide +kernel
 have n4 : tokB cteN = true := by decide +kernel
 have hh := how_val how
 unfold chkF fieldsM
 rw [if_neg (by
  simp only [List.length_append]
  have : (if id = [] then [] else [FieldD.mk idN ([60] ++ id ++ [62])]).length ≤ 1 := by split <;> simp
  have : (if loc = [] then [] else [FieldD.mk locN loc]).length ≤ 1 := by split <;> simp
  have : (if b = [] then [FieldD.mk cteN (howS how)] else []).length ≤ 1 := by split <;> simp
  simp only [List.length_cons, List.length_nil]
  omega), if_pos]
 rw [List.all_eq_true]
 intro f hf
 unfold okF
 simp only [List.mem_append, List.mem_cons, List.not_mem_nil, or_false] at hf
 rcases hf with ((rfl | hf) | hf) | hf
 · rw [n1, h1]; rfl
 · split at hf
   · simp at hf
   · simp at hf; subst hf; simp only [List.cons_append, List.nil_append] at hi; rw [n2, hi]; rfl
 · split at hf
   · simp at hf
   · simp at hf; subst hf; rw [n3, hl]; rfl
 · split at hf
   · simp at hf; subst hf; rw [n4, hh]; rfl
   · simp at hf
theorem fold_self (n : List UInt8) : Lib.equalFold n n = true := (fold_iff n n).2 rfl
theorem nf : Lib.equalFold ctN idN = false ∧ Lib.equalFold ctN locN = false ∧ Lib.equalFold ctN cteN = false ∧ Lib.equalFold idN locN = false ∧ Lib.equalFold idN cteN = false ∧ Lib.equalFold locN cteN = false := by decide +kernel
theorem get_ct (t cs id loc b : List UInt8) (how : Int) : getF (fieldsM t cs id loc how b) ctN = typeV t cs b := by
 unfold fieldsM
 simp only [List.append_assoc, List.cons_append, List.nil_append, getF]
 rw [if_pos (fold_self ctN)]
theorem get_id (t cs id loc b : List UInt8) (how : Int) : getF (fieldsM t cs id loc how b) idN = if id = [] then [] else [60] ++ id ++ [62] := by
 obtain ⟨n1, n2, n3, n4, n5, n6⟩ := nf
 have m4 : Lib.equalFold locN idN = false := by decide +kernel
 have m5 : Lib.equalFold cteN idN = false := by decide +kernel
 have sid := fold_self idN
 unfold fieldsM
 by_cases h1 : id = [] <;> by_cases h2 : loc = [] <;> by_cases h3 : b = [] <;> simp [h1, h2, h3, getF, n1, m4, m5, sid]
theorem get_loc (t cs id loc b : List UInt8) (how : Int) : getF (fieldsM t cs id loc how b) locN = loc := by
 obtain ⟨n1, n2, n3, n4, n5, n6⟩ := nf
 have m4 : Lib.equalFold cteN locN = false := by decide +kernel
 have sid := fold_self locN
 unfold fieldsM
 by_cases h1 : id = [] <;> by_cases h2 : loc = [] <;> by_cases h3 : b = [] <;> simp [h1, h2, h3, getF, n2, n4, m4, sid]
theorem get_cte (t cs id loc : List UInt8) (how : Int) : getF (fieldsM t cs id loc how []) cteN = howS how := by
 obtain ⟨n1, n2, n3, n4, n5, n6⟩ := nf
 have sid := fold_self cteN
 unfold fieldsM
 by_cases h1 : id = [] <;> by_cases h2 : loc = [] <;> simp [h1, h2, getF, n3, n5, n6, sid]
theorem id_back (id : List UInt8) : idM (if id = [] then [] else [60] ++ id ++ [62]) = id := by
 by_cases h : id = []
 · rw [if_pos h, h]; rfl
 · rw [if_neg h]
   unfold idM
   have h1 : Lib.hasPrefix ([60] ++ id ++ [62]) [60] = true := by unfold Lib.hasPrefix; rw [List.isPrefixOf_iff_prefix]; exact ⟨id ++ [62], by simp⟩
   have h2 : Lib.hasSuffix ([60] ++ id ++ [62]) [62] = true := by unfold Lib.hasSuffix; rw [List.isSuffixOf_iff_suffix]; exact ⟨[60] ++ id, rfl⟩
   rw [h1, h2]
   simp
theorem trimS_self {s : List UInt8} (h : ∀ b ∈ s, b ≠ 32) : Lib.trimS s [32] = s := by
 have := trim_pad [] s [] [32] (by simp) (by simp) (fun x hx => by simp [h x (List.mem_of_mem_head? (by rw [hx]; rfl))]) (fun x hx => by simp [h x (List.mem_of_getLast? hx)])
 rwa [List.nil_append, List.append_nil] at this
theorem trimL_self {s : List UInt8} (h : ∀ b ∈ s, b ≠ 32) : Lib.trimLeftS s [32] = s := by
 have := trimL_pad [] s [32] (by simp) (fun x hx => by simp [h x (List.mem_of_mem_head? (by rw [hx]; rfl))])
 rwa [List.nil_append] at this
theorem trimR_self {s : List UInt8} (h : ∀ b ∈ s, b ≠ 32) : Lib.trimRightS s [32] = s := by
 have := trimR_pad s [] [32] (by simp) (fun x hx => by simp [h x (List.mem_of_getLast? hx)])
 rwa [List.append_nil] at this
def charsetN : List UInt8 := [99, 104, 97, 114, 115, 101, 116]
def boundN : List UInt8 := [98, 111, 117, 110, 100, 97, 114, 121]
theorem ne32 {s : List UInt8} (h : ∀ b ∈ s, 32 < b.toNat) : ∀ b ∈ s, b ≠ 32 := fun b hb e => by
 have := h b hb
 rw [e] at this
 exact absurd this (by decide)
theorem params_none {t : List UInt8} (ht : typB t = true) : paramsF (typeV t [] []) = (t, [], 0) := by
 have hv := typeV_val ht (.inl rfl) (.inl rfl)
 obtain ⟨t0, t1, t2, t3⟩ := typ_parts ht
 unfold paramsF
 rw [hv, if_neg (by simp)]
 have e : typeV t [] [] = t := by unfold typeV; simp
 rw [e, cut_not t 59 (fun b hb => (t2 b hb).2.2)]
 simp only
 rw [show t.length + 2 = (t.length + 1) + 1 from rfl, loopP, if_pos rfl]
 simp only [if_true]
 rw [trimS_self (ne32 fun b hb => (t2 b hb).1), t3]
theorem params_cs {t cs : List UInt8} (ht : typB t = true) (hcs : tokB cs = true) : paramsF (typeV t cs []) = (t, [⟨charsetN, cs⟩], 0) := by
 have hv := typeV_val ht (.inr hcs) (.inl rfl)
 obtain ⟨t0, t1, t2, t3⟩ := typ_parts ht
 obtain ⟨c0, c1, c2⟩ := tok_mem hcs
 unfold paramsF
 rw [hv, if_neg (by simp)]
 have e : typeV t cs [] = t ++ 59 :: (32 :: charsetN ++ 61 :: cs) := by unfold typeV csS charsetN; simp [c0]
 have hname : ∀ b ∈ charsetN, b ≠ 61 := by decide
 have e3 : Lib.trimLeftS (32 :: charsetN ++ 61 :: cs) [32] = charsetN ++ 61 :: cs := by
  have := trimL_pad [32] (charsetN ++ 61 :: cs) [32] (by simp) (fun x hx => by unfold charsetN at hx; simp at hx; subst hx; decide)
  simpa using this
 have e4 : Lib.trimS charsetN [32] = charsetN := by decide +kernel
 have e5 : tokB charsetN = true := by decide +kernel
 have e6 : Lib.trimLeftS cs [32] = cs := trimL_self (ne32 fun b hb => (c2 b hb).1)
 have e7 : Lib.hasPrefix cs [34] = false := by
  unfold Lib.hasPrefix
  cases cs with
  | nil => rfl
  | cons y r =>
   have : y ≠ 34 := fun e => (c2 y (by simp)).2.2 (by rw [e]; decide)
   simp [List.isPrefixOf, Ne.symm this]
 have e8 := cut_not cs 59 (fun b hb e => (c2 b hb).2.2 (by rw [e]; decide))
 have e9 : Lib.trimRightS cs [32] = cs := trimR_self (ne32 fun b hb => (c2 b hb).1)
 have e10 : lowL charsetN = charsetN := by decide +kernel
 have hL : ∀ n, loopP (n + 2) (32 :: charsetN ++ 61 :: cs) true [] = ([⟨charsetN, cs⟩], 0) := by
  intro n
  rw [loopP, if_neg (by simp), e3, cut_app charsetN cs 61 hname]
  simp only
  rw [e4, e5, if_neg (by simp), e6, e7, if_neg (by simp), e8]
  simp only
  rw [e9, hcs, if_neg (by simp), if_neg (by simp), e10, loopP, if_pos rfl]
  rfl
 rw [e, cut_app t _ 59 (fun b hb => (t2 b hb).2.2)]
 simp only
 rw [hL]
 simp only [if_true]
 rw [trimS_self (ne32 fun b hb => (t2 b hb).1), t3]
theorem params_bd {t b : List UInt8} (ht : typB t = true) (hb : bordOk b) : paramsF (typeV t [] b) = (t, [⟨boundN, b⟩], 0) := by
 have hv := typeV_val ht (.inl rfl) (.inr hb)
 obtain ⟨t0, t1, t2, t3⟩ := typ_parts ht
 obtain ⟨b0, b1, b2⟩ := hb
 unfold paramsF
 rw [hv, if_neg (by simp)]
 have e : typeV t [] b = t ++ 59 :: (32 :: boundN ++ 61 :: (34 :: (b ++ 34 :: []))) := by unfold typeV bdS boundN; simp [b0]
 have hname : ∀ x ∈ boundN, x ≠ 61 := by decide
 have e3 : Lib.trimLeftS (32 :: boundN ++ 61 :: (34 :: (b ++ 34 :: []))) [32] = boundN ++ 61 :: (34 :: (b ++ 34 :: [])) := by
  have := trimL_pad [32] (boundN ++ 61 :: (34 :: (b ++ 34 :: []))) [32] (by simp) (fun x hx => by unfold boundN at hx; simp at hx; subst hx; decide)
  simpa using this
 have e4 : Lib.trimS boundN [32] = boundN := by decide +kernel
 have e5 : tokB boundN = true := by decide +kernel
 have e6 : Lib.trimLeftS (34 :: (b ++ 34 :: [])) [32] = 34 :: (b ++ 34 :: []) := by
  have := trimL_pad [] (34 :: (b ++ 34 :: [])) [32] (by simp) (fun x hx => by simp at hx; subst hx; decide)
  simpa using this
 have e7 : Lib.hasPrefix (34 :: (b ++ 34 :: [])) [34] = true := by unfold Lib.hasPrefix; rw [List.isPrefixOf_iff_prefix]; exact ⟨b ++ [34], rfl⟩
 have e8 := cut_app b [] 34 (fun x hx => (b2 x hx).2.2)
 have e9 : Lib.cut ([] : List UInt8) [59] = ([], [], false) := by decide +kernel
 have e10 : lowL boundN = boundN := by decide +kernel
 have e11 : Lib.trimS ([] : List UInt8) [32] = [] := by decide +kernel
 have hL : ∀ n, loopP (n + 2) (32 :: boundN ++ 61 :: (34 :: (b ++ 34 :: []))) true [] = ([⟨boundN, b⟩], 0) := by
  intro n
  rw [loopP, if_neg (by simp), e3, cut_app boundN _ 61 hname]
  simp only
  rw [e4, e5, if_neg (by simp), e6, e7, if_pos rfl]
  rw [show (34 :: (b ++ 34 :: [])).drop 1 = b ++ 34 :: [] from rfl, e8]
  simp only
  rw [if_neg (by simp), e9]
  simp only
  rw [e11, if_neg (by simp), if_neg (by simp), e10, loopP, if_pos rfl]
  rfl
 rw [e, cut_app t _ 59 (fun x hx => (t2 x hx).2.2)]
 simp only
 rw [hL]
 simp only [if_true]
 rw [trimS_self (ne32 fun x hx => (t2 x hx).1), t3]
theorem get_one (n v : List UInt8) : getF [⟨n, v⟩] n = v := by rw [getF, if_pos (fold_self n)]
theorem body_back (how : Int) (body : List UInt8) (h0 : 0 ≤ how) (h2 : how ≤ 2) (hb : body.length ≤ 4000) : bodyM (howS how) (encM how body) = (how, body, 0) := by
 have e8 : lowL ([56, 98, 105, 116]) = [56, 98, 105, 116] := by decide +kernel
 have e6 : lowL ([98, 97, 115, 101, 54, 52]) = [98, 97, 115, 101, 54, 52] := by decide +kernel
 have eq : lowL ([113, 117, 111, 116, 101, 100, 45, 112, 114, 105, 110, 116, 97, 98, 108, 101]) = [113, 117, 111, 116, 101, 100, 45, 112, 114, 105, 110, 116, 97, 98, 108, 101] := by decide +kernel
 rcases (by omega : how = 0 ∨ how = 1 ∨ how = 2) with rfl | rfl | rfl
 · unfold bodyM howS encM
   simp only [show ¬ ((0 : Int) = 1) from by decide, show ¬ ((0 : Int) = 2) from by decide, if_false]
   rw [e8, if_pos (by decide), if_neg (by omega)]
 · unfold bodyM howS encM
   simp only [if_true]
   rw [e6, if_neg (by decide), if_pos rfl, read_enc body hb]
 · unfold bodyM howS encM
   simp only [show ¬ ((2 : Int) = 1) from by decide, if_false, if_true]
   rw [eq, if_neg (by decide), if_neg (by decide), if_pos rfl, readQ_enc body hb]
end Go.Proofs.YtinfjdfhkfhgjaaGreatDoor
