import Derived.Test.YtlbdnohnngkapaaGreatDoorU1
import Derived.Lib.IndexMore
import Derived.Lib.LastIndexByte
import Derived.Shelf.Strings.CaseAny
import Derived.LaidSub
import Derived.LaidMore
import Derived.MakeChecks
import Derived.Lib.LaidU8T
import Derived.Shelf.GgClosure.StringsIndexFunc
import Derived.Laws.RangeString
import Derived.Laws.RangeAny
import Derived.Shelf.Abstract
import Derived.Lib.IndexBytes
import Derived.Lib.AppendZeros
namespace Go.Proofs.YtlbdnohnngkapaaGreatDoor

/-! ### An address, as data; what package url computes -/
structure UrlD where
  scheme : List UInt8
  hasHost : Bool
  host : List UInt8
  path : List UInt8
  hasQuery : Bool
  query : List UInt8
  hasFrag : Bool
  frag : List UInt8
def UrlD.cells (u : UrlD) : List Value := [str u.scheme, .bool u.hasHost, str u.host, str u.path, .bool u.hasQuery, str u.query, .bool u.hasFrag, str u.frag]
def UrlD.val (u : UrlD) : Value := .agg #[str u.scheme, .bool u.hasHost, str u.host, str u.path, .bool u.hasQuery, str u.query, .bool u.hasFrag, str u.frag]
def noU : List UInt8 := [34, 60, 62, 92, 94, 96, 123, 124, 125]
def charU (x : Nat) : Bool := decide (32 < x) && decide (x ≤ 126) && decide (Lib.indexByte noU (UInt8.ofNat x) < 0)
def badU (but : List UInt8) (x : Nat) : Bool := !charU x || decide (0 ≤ Lib.indexByte but (UInt8.ofNat x))
def wordU (s but : List UInt8) : Bool := !s.any (fun b => badU but b.toNat)
def schC (x : Nat) : Bool := (decide (97 ≤ x) && decide (x ≤ 122)) || (decide (48 ≤ x) && decide (x ≤ 57)) || x == 43 || x == 45 || x == 46
def schA (x : Nat) : Bool := decide (97 ≤ x) && decide (x ≤ 122)
def schemeU : List UInt8 → Bool
  | [] => true
  | c :: r => schA c.toNat && r.all (fun b => schC b.toNat)
theorem lowC_scheme (s : List UInt8) : schemeU s = (s.all (fun b => schC b.toNat) && (s == [] || schA (nth s 0))) := by
  cases s with
  | nil => rfl
  | cons c r =>
    show (schA c.toNat && r.all _) = ((schC c.toNat && r.all _) && (false || schA c.toNat))
    cases h : schA c.toNat with
    | false => simp
    | true =>
      have : schC c.toNat = true := by unfold schA at h; unfold schC; simp only [h, Bool.true_or]
      simp [this]
/-- url.text. -/
def textU (u : UrlD) : List UInt8 :=
  (if u.scheme = [] then [] else u.scheme ++ [58]) ++ (if u.hasHost then [47, 47] ++ u.host else []) ++ u.path ++ (if u.hasQuery then 63 :: u.query else []) ++ (if u.hasFrag then 35 :: u.frag else [])
def okU (u : UrlD) : Bool := schemeU u.scheme && (wordU u.host [47, 63, 35] && ((u.host == lowL u.host) && (wordU u.path [63, 35] && (wordU u.query [35] && wordU u.frag [35]))))
def formA (u : UrlD) : Bool := (!u.hasHost && !(u.host == [])) || (!u.hasQuery && !(u.query == [])) || (!u.hasFrag && !(u.frag == []))
def formB (u : UrlD) : Bool := if u.hasHost then !(u.path == []) && !(nth u.path 0 == 47) else Lib.hasPrefix u.path [47, 47] || ((u.scheme == []) && decide (0 ≤ Lib.indexByte (Lib.cut u.path [47]).1 58))
/-- url.Check behind its first test. -/
def chkU (u : UrlD) : Nat := if okU u = false then 1 else if formA u || formB u then 4 else if 120 < (textU u).length then 2 else 0
def longU (u : UrlD) : Bool := decide (120 < u.scheme.length) || decide (120 < u.host.length) || decide (120 < u.path.length) || decide (120 < u.query.length) || decide (120 < u.frag.length)
/-- url.Check. -/
def checkU (u : UrlD) : Nat := if longU u then 2 else chkU u
def zeroU : UrlD := ⟨[], false, [], [], false, [], false, []⟩
def stopCS (b : UInt8) : Bool := b != 58 && b != 47
/-- The scheme, and what is behind it. -/
def schemeP (s : List UInt8) : Option (List UInt8 × List UInt8) :=
  if (s.dropWhile stopCS).head? = some 58 then
    (if (s.takeWhile stopCS) = [] ∨ schemeU (lowL (s.takeWhile stopCS)) = false then none else some (lowL (s.takeWhile stopCS), (s.dropWhile stopCS).tail))
  else some ([], s)
def not47 (b : UInt8) : Bool := b != 47
def hostP (s : List UInt8) : Bool × List UInt8 × List UInt8 :=
  if Lib.hasPrefix s [47, 47] then (true, lowL ((s.drop 2).takeWhile not47), (s.drop 2).dropWhile not47) else (false, [], s)
def partsU (s : List UInt8) : Option UrlD :=
  match schemeP (Lib.cut (Lib.cut s [35]).1 [63]).1 with
  | none => none
  | some (sc, r) => some ⟨sc, (hostP r).1, (hostP r).2.1, (hostP r).2.2, (Lib.cut (Lib.cut s [35]).1 [63]).2.2, (Lib.cut (Lib.cut s [35]).1 [63]).2.1, (Lib.cut s [35]).2.2, (Lib.cut s [35]).2.1⟩
/-- url.Parse. -/
def readU (s : List UInt8) : UrlD × Nat :=
  if 120 < s.length then (zeroU, 2) else
  match partsU s with
  | none => (zeroU, 1)
  | some u => if checkU u = 0 then (u, 0) else (zeroU, checkU u)
/-- url.Print. -/
def printU (u : UrlD) : List UInt8 × Nat := if checkU u = 0 then (textU u, 0) else ([], checkU u)

/-! ### Segments -/
def joinC (c : UInt8) : List (List UInt8) → List UInt8
  | [] => []
  | [x] => x
  | x :: y :: r => x ++ c :: joinC c (y :: r)
def consHead (b : UInt8) : List (List UInt8) → List (List UInt8)
  | [] => [[b]]
  | x :: r => (b :: x) :: r
def splitC (c : UInt8) : List UInt8 → List (List UInt8)
  | [] => [[]]
  | b :: l => if b = c then [] :: splitC c l else consHead b (splitC c l)
def isDot (s : List UInt8) : Bool := s == [46] || s == [46, 46]
def popU (out : List (List UInt8)) : List (List UInt8) := if 1 < out.length ∨ (out.length = 1 ∧ out.head? ≠ some []) then out.dropLast else out
def dotStep (last : Bool) (out : List (List UInt8)) (s : List UInt8) : List (List UInt8) :=
  if s = [46] then (if last then out ++ [[]] else out)
  else if s = [46, 46] then (if last then popU out ++ [[]] else popU out)
  else out ++ [s]
def dotsF : List (List UInt8) → List (List UInt8) → List (List UInt8)
  | [], out => out
  | s :: r, out => dotsF r (dotStep r.isEmpty out s)
def slashU (p q : List UInt8) : List UInt8 := if Lib.hasPrefix p [47] && !Lib.hasPrefix q [47] then 47 :: q else q
/-- url.dots. -/
def dotsU (p : List UInt8) : List UInt8 := if p = [] then [] else slashU p (joinC 47 (dotsF (splitC 47 p) []))
/-- url.merged. -/
def mergedU (b : UrlD) (p : List UInt8) : List UInt8 := if b.hasHost && b.path == [] then 47 :: p else b.path.take (Lib.lastIndexByte ⟨b.path.toArray⟩ 47 + 1).toNat ++ p
def ledU (b u : UrlD) : UrlD :=
  if u.scheme ≠ [] then u
  else if u.hasHost then { u with scheme := b.scheme }
  else if u.path = [] then
    (if u.hasQuery then { u with scheme := b.scheme, hasHost := b.hasHost, host := b.host, path := b.path }
     else { u with scheme := b.scheme, hasHost := b.hasHost, host := b.host, path := b.path, hasQuery := b.hasQuery, query := b.query })
  else if nth u.path 0 = 47 then { u with scheme := b.scheme, hasHost := b.hasHost, host := b.host }
  else { u with scheme := b.scheme, hasHost := b.hasHost, host := b.host, path := mergedU b u.path }
def undotU (o : UrlD) : UrlD := if o.hasHost || Lib.hasPrefix o.path [47] then { o with path := dotsU o.path } else o
def endU (o : UrlD) : UrlD × Nat := if (!o.hasHost && Lib.hasPrefix o.path [47, 47]) = true then (zeroU, 4) else if checkU o = 0 then (o, 0) else (zeroU, checkU o)
/-- url.Lead. -/
def leadU (b u : UrlD) : UrlD × Nat :=
  if checkU b ≠ 0 then (zeroU, checkU b)
  else if checkU u ≠ 0 then (zeroU, checkU u)
  else if b.scheme = [] then (zeroU, 4)
  else endU (undotU (ledU b u))

/-! ### Cuts -/
theorem indexByte_tw (l : List UInt8) (c : UInt8) : Lib.indexByte l c = if c ∈ l then ((l.takeWhile (fun b => b != c)).length : Int) else -1 := by
  induction l with
  | nil => rfl
  | cons b l ih =>
    unfold Lib.indexByte
    by_cases h : b = c
    · subst h; simp
    · have h' : c ≠ b := fun e => h e.symm
      rw [ih]
      by_cases hm : c ∈ l
      · have e2 : (((l.takeWhile (fun b => b != c)).length : Int) == -1) = false := by simp
        simp [h, hm, e2]
      · simp [h, h', hm]
theorem indexByte_neg (l : List UInt8) (c : UInt8) : Lib.indexByte l c < 0 ↔ c ∉ l := by
  rw [indexByte_tw]
  by_cases h : c ∈ l
  · rw [if_pos h]; simp [h]
  · rw [if_neg h]; simp [h]
theorem cut_tw (l : List UInt8) (c : UInt8) : Lib.cut l [c] = (l.takeWhile (fun b => b != c), (l.dropWhile (fun b => b != c)).drop 1, decide (c ∈ l)) := by
  unfold Lib.cut
  rw [Lib.index_one, indexByte_tw]
  by_cases h : c ∈ l
  · rw [if_pos h, if_pos (by omega)]
    have e := List.takeWhile_append_dropWhile (p := fun b => b != c) (l := l)
    have e1 : l.take (l.takeWhile (fun b => b != c)).length = l.takeWhile (fun b => b != c) := by
      have := congrArg (List.take (l.takeWhile (fun b => b != c)).length) e
      rw [List.take_left] at this
      exact this.symm
    have e2 : l.drop ((l.takeWhile (fun b => b != c)).length + 1) = (l.dropWhile (fun b => b != c)).drop 1 := by
      rw [← List.drop_drop]
      congr 1
      have := congrArg (List.drop (l.takeWhile (fun b => b != c)).length) e
      rw [List.drop_left] at this
      exact this.symm
    simp [h, e1, e2]
  · rw [if_neg h, if_neg (by omega)]
    have e1 : ∀ l : List UInt8, c ∉ l → l.takeWhile (fun b => b != c) = l ∧ l.dropWhile (fun b => b != c) = [] := by
      intro l
      induction l with
      | nil => simp
      | cons b l ih =>
        intro h
        simp only [List.mem_cons, not_or] at h
        have h' : b ≠ c := fun e => h.1 e.symm
        simp [h', ih h.2]
    simp [h, e1 l h]
theorem cut_app (x y : List UInt8) (c : UInt8) (h : ∀ b ∈ x, b ≠ c) : Lib.cut (x ++ c :: y) [c] = (x, y, true) := by
  rw [cut_tw, List.takeWhile_append_of_pos (by simpa using h), List.dropWhile_append_of_pos (by simpa using h)]
  simp
theorem cut_not (x : List UInt8) (c : UInt8) (h : ∀ b ∈ x, b ≠ c) : Lib.cut x [c] = (x, [], false) := by
  have e : Lib.index x [c] < 0 := by rw [Lib.index_one, indexByte_neg]; exact fun hm => h c hm rfl
  unfold Lib.cut
  rw [if_neg (by omega)]
theorem first_of (l : List UInt8) (c : UInt8) (h : c ∈ l) : ∃ x y, l = x ++ c :: y ∧ ∀ b ∈ x, b ≠ c := by
  induction l with
  | nil => cases h
  | cons a l ih =>
    by_cases e : a = c
    · subst e; exact ⟨[], l, rfl, by simp⟩
    · have hm : c ∈ l := by
        simp only [List.mem_cons] at h
        rcases h with h | h
        · exact absurd h.symm e
        · exact h
      obtain ⟨x, y, rfl, hx⟩ := ih hm
      exact ⟨a :: x, y, rfl, by intro b hb; simp only [List.mem_cons] at hb; rcases hb with rfl | hb; exact e; exact hx b hb⟩
theorem cut_back (l : List UInt8) (c : UInt8) : l = (Lib.cut l [c]).1 ++ (if (Lib.cut l [c]).2.2 then c :: (Lib.cut l [c]).2.1 else []) := by
  by_cases h : c ∈ l
  · obtain ⟨x, y, rfl, hx⟩ := first_of l c h
    rw [cut_app x y c hx]
    simp
  · rw [cut_not l c (fun b hb e => h (e ▸ hb))]
    simp
end Go.Proofs.YtlbdnohnngkapaaGreatDoor

namespace Go.Proofs.YtlbdnohnngkapaaGreatDoor

theorem ofNat_toNat8 (b : UInt8) : UInt8.ofNat b.toNat = b := by simp
theorem word_mem {s but : List UInt8} (h : wordU s but = true) : ∀ b ∈ s, charU b.toNat = true ∧ b ∉ but := by
  intro b hb
  unfold wordU at h
  rw [Bool.not_eq_true', List.any_eq_false] at h
  have := h b hb
  unfold badU at this
  rw [ofNat_toNat8] at this
  simp only [Bool.or_eq_true, Bool.not_eq_true', decide_eq_true_eq, not_or, Bool.not_eq_false, Int.not_le] at this
  exact ⟨this.1, (indexByte_neg _ _).1 this.2⟩
theorem char_ascii {x : Nat} (h : charU x = true) : x ≤ 126 := by
  unfold charU at h
  simp only [Bool.and_eq_true, decide_eq_true_eq] at h
  exact h.1.2
theorem sch_mem {s : List UInt8} (h : schemeU s = true) : ∀ b ∈ s, schC b.toNat = true := by
  rw [lowC_scheme, Bool.and_eq_true, List.all_eq_true] at h
  exact h.1
theorem lowB_same {b : UInt8} (h : ¬ (65 ≤ b.toNat ∧ b.toNat ≤ 90)) : lowB b = b := by
  unfold lowB
  rw [if_neg]
  intro ⟨h1, h2⟩
  exact h ⟨UInt8.le_iff_toNat_le.1 h1, UInt8.le_iff_toNat_le.1 h2⟩
theorem lowB_cap {b : UInt8} (h : 65 ≤ b.toNat ∧ b.toNat ≤ 90) : lowB b = b + 32 := by
  unfold lowB
  rw [if_pos ⟨UInt8.le_iff_toNat_le.2 h.1, UInt8.le_iff_toNat_le.2 h.2⟩]
theorem lowB_nat (b : UInt8) : (lowB b).toNat = if 65 ≤ b.toNat ∧ b.toNat ≤ 90 then b.toNat + 32 else b.toNat := by
  by_cases h : 65 ≤ b.toNat ∧ b.toNat ≤ 90
  · rw [if_pos h, lowB_cap h, UInt8.toNat_add]
    show (b.toNat + 32) % 256 = _
    omega
  · rw [if_neg h, lowB_same h]
theorem lowB_lowB (b : UInt8) : lowB (lowB b) = lowB b := by
  apply lowB_same
  rw [lowB_nat]
  split <;> omega
theorem lowL_lowL (l : List UInt8) : lowL (lowL l) = lowL l := by simp [lowL, lowB_lowB]
theorem lowL_app (a b : List UInt8) : lowL (a ++ b) = lowL a ++ lowL b := by simp [lowL]
theorem lowB_ascii {b : UInt8} (h : (lowB b).toNat < 128) : b.toNat < 128 := by
  rw [lowB_nat] at h
  split at h <;> omega
theorem ne_of_toNat {b c : UInt8} (h : b.toNat ≠ c.toNat) : b ≠ c := fun e => h (by rw [e])
theorem schC_ne {b : UInt8} (h : schC b.toNat = true) : b ≠ 58 ∧ b ≠ 47 ∧ b ≠ 63 ∧ b ≠ 35 ∧ lowB b = b ∧ b.toNat < 128 := by
  simp only [schC, Bool.or_eq_true, Bool.and_eq_true, decide_eq_true_eq, beq_iff_eq] at h
  refine ⟨ne_of_toNat ?_, ne_of_toNat ?_, ne_of_toNat ?_, ne_of_toNat ?_, lowB_same (by omega), by omega⟩
  · show b.toNat ≠ 58; omega
  · show b.toNat ≠ 47; omega
  · show b.toNat ≠ 63; omega
  · show b.toNat ≠ 35; omega
theorem check_ok {u : UrlD} (h : checkU u = 0) : longU u = false ∧ okU u = true ∧ formA u = false ∧ formB u = false ∧ (textU u).length ≤ 120 := by
  unfold checkU at h
  cases h1 : longU u with
  | true => rw [h1] at h; simp at h
  | false =>
    rw [h1] at h
    simp only [Bool.false_eq_true, if_false] at h
    unfold chkU at h
    cases h2 : okU u with
    | false => rw [h2] at h; simp at h
    | true =>
      rw [h2] at h
      simp only [Bool.true_eq_false, if_false] at h
      cases h3 : formA u with
      | true => rw [h3] at h; simp at h
      | false =>
        cases h4 : formB u with
        | true => rw [h3, h4] at h; simp at h
        | false =>
          rw [h3, h4] at h
          simp only [Bool.or_self, Bool.false_eq_true, if_false] at h
          refine ⟨rfl, rfl, rfl, rfl, ?_⟩
          by_cases h5 : 120 < (textU u).length
          · rw [if_pos h5] at h; simp at h
          · omega
theorem ok_parts {u : UrlD} (h : okU u = true) : schemeU u.scheme = true ∧ wordU u.host [47, 63, 35] = true ∧ u.host = lowL u.host ∧ wordU u.path [63, 35] = true ∧ wordU u.query [35] = true ∧ wordU u.frag [35] = true := by
  unfold okU at h
  simp only [Bool.and_eq_true, beq_iff_eq] at h
  exact ⟨h.1, h.2.1, h.2.2.1, h.2.2.2.1, h.2.2.2.2.1, h.2.2.2.2.2⟩
theorem form_parts {u : UrlD} (h : formA u = false) : (u.hasHost = false → u.host = []) ∧ (u.hasQuery = false → u.query = []) ∧ (u.hasFrag = false → u.frag = []) := by
  unfold formA at h
  simp only [Bool.or_eq_false_iff, Bool.and_eq_false_iff, Bool.not_eq_false', beq_iff_eq] at h
  obtain ⟨⟨h1, h2⟩, h3⟩ := h
  refine ⟨fun e => ?_, fun e => ?_, fun e => ?_⟩
  · rcases h1 with h1 | h1
    · rw [e] at h1; cases h1
    · exact h1
  · rcases h2 with h2 | h2
    · rw [e] at h2; cases h2
    · exact h2
  · rcases h3 with h3 | h3
    · rw [e] at h3; cases h3
    · exact h3
def tlU (u : UrlD) : List UInt8 := (if u.hasQuery then 63 :: u.query else []) ++ (if u.hasFrag then 35 :: u.frag else [])
def schS (u : UrlD) : List UInt8 := if u.scheme = [] then [] else u.scheme ++ [58]
def hostS (u : UrlD) : List UInt8 := if u.hasHost then [47, 47] ++ u.host else []
theorem textU_eq (u : UrlD) : textU u = schS u ++ (hostS u ++ u.path) ++ tlU u := by
  unfold textU schS hostS tlU
  simp only [List.append_assoc]
theorem schS_ne {u : UrlD} (h : schemeU u.scheme = true) : ∀ b ∈ schS u, b ≠ 35 ∧ b ≠ 63 ∧ b.toNat < 128 := by
  intro b hb
  unfold schS at hb
  by_cases e : u.scheme = []
  · rw [if_pos e] at hb; simp at hb
  · rw [if_neg e] at hb
    simp only [List.mem_append, List.mem_singleton] at hb
    rcases hb with hb | rfl
    · have := schC_ne (sch_mem h b hb); exact ⟨this.2.2.2.1, this.2.2.1, this.2.2.2.2.2⟩
    · exact ⟨by decide, by decide, by decide⟩
theorem word_ne {s but : List UInt8} (h : wordU s but = true) {c : UInt8} (hc : c ∈ but) : ∀ b ∈ s, b ≠ c := fun b hb e => (word_mem h b hb).2 (e ▸ hc)
theorem word_lt {s but : List UInt8} (h : wordU s but = true) : ∀ b ∈ s, b.toNat < 128 := fun b hb => by have := char_ascii (word_mem h b hb).1; omega
theorem hostS_ne {u : UrlD} (h : wordU u.host [47, 63, 35] = true) : ∀ b ∈ hostS u, b ≠ 35 ∧ b ≠ 63 ∧ b.toNat < 128 := by
  intro b hb
  unfold hostS at hb
  cases e : u.hasHost
  · rw [e] at hb; simp at hb
  · rw [e] at hb
    simp only [if_true, List.cons_append, List.nil_append, List.mem_cons] at hb
    rcases hb with rfl | rfl | hb
    · exact ⟨by decide, by decide, by decide⟩
    · exact ⟨by decide, by decide, by decide⟩
    · exact ⟨word_ne h (by simp) b hb, word_ne h (by simp) b hb, word_lt h b hb⟩
theorem takeWhile_all {p : UInt8 → Bool} {l : List UInt8} (h : ∀ b ∈ l, p b = true) (r : List UInt8) : (l ++ r).takeWhile p = l ++ r.takeWhile p ∧ (l ++ r).dropWhile p = r.dropWhile p :=
  ⟨List.takeWhile_append_of_pos h, List.dropWhile_append_of_pos h⟩
theorem lowL_sch {s : List UInt8} (h : schemeU s = true) : lowL s = s := by
  unfold lowL
  conv => rhs; rw [← List.map_id s]
  exact List.map_congr_left fun b hb => (schC_ne (sch_mem h b hb)).2.2.2.2.1
theorem head_stop (p : UInt8 → Bool) (l : List UInt8) (c : UInt8) (h : (l.dropWhile p).head? = some c) : p c = false := by
  have := List.head?_dropWhile_not p l
  rw [h] at this
  simpa using this
theorem tw_mem {p : UInt8 → Bool} {l : List UInt8} {b : UInt8} (h : b ∈ l.takeWhile p) : p b = true := by
  have := List.all_takeWhile (p := p) (l := l)
  exact List.all_eq_true.1 this b h
theorem schemeP_text {u : UrlD} (h0 : okU u = true) (h1 : formB u = false) (_h2 : formA u = false) : schemeP (schS u ++ (hostS u ++ u.path)) = some (u.scheme, hostS u ++ u.path) := by
  obtain ⟨k0, k1, k2, k3, _, _⟩ := ok_parts h0
  unfold schemeP
  by_cases e : u.scheme = []
  · have es : schS u = [] := by unfold schS; rw [if_pos e]
    rw [es, List.nil_append, e]
    rw [if_neg]
    cases hh : u.hasHost
    · have eh : hostS u = [] := by unfold hostS; rw [hh]; rfl
      rw [eh, List.nil_append]
      unfold formB at h1
      rw [hh, e] at h1
      simp only [Bool.false_eq_true, if_false, Bool.or_eq_false_iff, beq_self_eq_true, Bool.true_and, decide_eq_false_iff_not, Int.not_le] at h1
      rw [indexByte_neg, cut_tw] at h1
      intro hd
      refine h1.2 ?_
      show (58 : UInt8) ∈ u.path.takeWhile (fun b => b != 47)
      have hs := List.takeWhile_append_dropWhile (p := stopCS) (l := u.path)
      cases hdd : u.path.dropWhile stopCS with
      | nil => rw [hdd] at hd; cases hd
      | cons a r =>
        rw [hdd] at hd hs
        injection hd with hd
        subst hd
        rw [← hs]
        have hall : ∀ b ∈ u.path.takeWhile stopCS, (b != 47) = true := by
          intro b hb
          have := tw_mem hb
          unfold stopCS at this
          simp only [Bool.and_eq_true] at this
          exact this.2
        rw [(takeWhile_all hall _).1]
        simp
    · have eh : hostS u = 47 :: 47 :: u.host := by unfold hostS; rw [hh]; rfl
      rw [eh]
      simp [stopCS]
  · have es : schS u = u.scheme ++ [58] := by unfold schS; rw [if_neg e]
    have hall : ∀ b ∈ u.scheme, stopCS b = true := by
      intro b hb
      have := schC_ne (sch_mem k0 b hb)
      simp [stopCS, this.1, this.2.1]
    rw [es, List.append_assoc, List.singleton_append, (takeWhile_all hall _).1, (takeWhile_all hall _).2]
    have e1 : (58 :: (hostS u ++ u.path)).takeWhile stopCS = [] := by simp [stopCS]
    have e2 : (58 :: (hostS u ++ u.path)).dropWhile stopCS = 58 :: (hostS u ++ u.path) := by simp [stopCS]
    rw [e1, e2, List.append_nil, lowL_sch k0, k0]
    simp [e]
theorem hostP_text {u : UrlD} (h0 : okU u = true) (h1 : formB u = false) (h2 : formA u = false) : hostP (hostS u ++ u.path) = (u.hasHost, u.host, u.path) := by
  obtain ⟨k0, k1, k2, k3, _, _⟩ := ok_parts h0
  unfold hostP
  cases hh : u.hasHost
  · have eh : hostS u = [] := by unfold hostS; rw [hh]; rfl
    rw [eh, List.nil_append, (form_parts h2).1 hh]
    unfold formB at h1
    rw [hh] at h1
    simp only [Bool.false_eq_true, if_false, Bool.or_eq_false_iff] at h1
    rw [h1.1]
    rfl
  · have eh : hostS u = 47 :: 47 :: u.host := by unfold hostS; rw [hh]; rfl
    rw [eh]
    have hp : Lib.hasPrefix (47 :: 47 :: u.host ++ u.path) [47, 47] = true := by simp [Lib.hasPrefix, List.isPrefixOf]
    rw [hp]
    have hall : ∀ b ∈ u.host, not47 b = true := by
      intro b hb
      have := word_ne k1 (c := 47) (by simp) b hb
      simp [not47, this]
    have ht := takeWhile_all hall u.path
    have hpth : u.path.takeWhile not47 = [] ∧ u.path.dropWhile not47 = u.path := by
      unfold formB at h1
      rw [hh] at h1
      simp only [if_true, Bool.and_eq_false_iff, Bool.not_eq_false', beq_iff_eq] at h1
      cases hp : u.path with
      | nil => exact ⟨rfl, rfl⟩
      | cons a r =>
        rw [hp] at h1
        rcases h1 with h1 | h1
        · cases h1
        · have : a = 47 := UInt8.toNat_inj.1 h1
          subst this
          simp [not47]
    simp only [if_true, List.cons_append, List.drop_succ_cons, List.drop_zero]
    rw [ht.1, ht.2, hpth.1, hpth.2, List.append_nil, ← k2]
theorem parts_text {u : UrlD} (h : checkU u = 0) : partsU (textU u) = some u := by
  obtain ⟨_, h0, h2, h1, _⟩ := check_ok h
  obtain ⟨k0, k1, k2, k3, k4, k5⟩ := ok_parts h0
  have hpre : ∀ b ∈ schS u ++ (hostS u ++ u.path), b ≠ 35 ∧ b ≠ 63 := by
    intro b hb
    simp only [List.mem_append] at hb
    rcases hb with hb | hb | hb
    · have := schS_ne k0 b hb; exact ⟨this.1, this.2.1⟩
    · have := hostS_ne k1 b hb; exact ⟨this.1, this.2.1⟩
    · exact ⟨word_ne k3 (by simp) b hb, word_ne k3 (by simp) b hb⟩
  have c2 : Lib.cut (schS u ++ (hostS u ++ u.path) ++ (if u.hasQuery then 63 :: u.query else [])) [63] = (schS u ++ (hostS u ++ u.path), u.query, u.hasQuery) := by
    cases hq : u.hasQuery
    · rw [(form_parts h2).2.1 hq]
      simp only [Bool.false_eq_true, if_false, List.append_nil]
      exact cut_not _ _ fun b hb => (hpre b hb).2
    · exact cut_app _ _ _ fun b hb => (hpre b hb).2
  have c1 : Lib.cut (textU u) [35] = (schS u ++ (hostS u ++ u.path) ++ (if u.hasQuery then 63 :: u.query else []), u.frag, u.hasFrag) := by
    have hp2 : ∀ b ∈ schS u ++ (hostS u ++ u.path) ++ (if u.hasQuery then 63 :: u.query else []), b ≠ 35 := by
      intro b hb
      rw [List.mem_append] at hb
      rcases hb with hb | hb
      · exact (hpre b hb).1
      · cases hq : u.hasQuery
        · rw [hq] at hb; simp at hb
        · rw [hq] at hb
          simp only [if_true, List.mem_cons] at hb
          rcases hb with rfl | hb
          · decide
          · exact word_ne k4 (by simp) b hb
    rw [textU_eq]
    unfold tlU
    rw [← List.append_assoc]
    cases hf : u.hasFrag
    · rw [(form_parts h2).2.2 hf]
      simp only [Bool.false_eq_true, if_false, List.append_nil]
      exact cut_not _ _ hp2
    · exact cut_app _ _ _ hp2
  unfold partsU
  rw [c1]
  simp only
  rw [c2]
  simp only
  rw [schemeP_text h0 h1 h2]
  simp only
  rw [hostP_text h0 h1 h2]
theorem read_text {u : UrlD} (h : checkU u = 0) : readU (textU u) = (u, 0) := by
  unfold readU
  have h5 := (check_ok h).2.2.2.2
  rw [if_neg (by omega), parts_text h]
  simp only
  rw [if_pos h]
theorem text_ascii {u : UrlD} (h : checkU u = 0) : ∀ b ∈ textU u, b.toNat < 128 := by
  obtain ⟨_, h0, h2, h1, _⟩ := check_ok h
  obtain ⟨k0, k1, k2, k3, k4, k5⟩ := ok_parts h0
  intro b hb
  rw [textU_eq] at hb
  unfold tlU at hb
  simp only [List.mem_append] at hb
  rcases hb with (hb | hb | hb) | hb | hb
  · exact (schS_ne k0 b hb).2.2
  · exact (hostS_ne k1 b hb).2.2
  · exact word_lt k3 b hb
  · cases hq : u.hasQuery
    · rw [hq] at hb; simp at hb
    · rw [hq] at hb
      simp only [if_true, List.mem_cons] at hb
      rcases hb with rfl | hb
      · decide
      · exact word_lt k4 b hb
  · cases hq : u.hasFrag
    · rw [hq] at hb; simp at hb
    · rw [hq] at hb
      simp only [if_true, List.mem_cons] at hb
      rcases hb with rfl | hb
      · decide
      · exact word_lt k5 b hb
theorem schemeP_back {s sc r : List UInt8} (h : schemeP s = some (sc, r)) : ∃ a, s = a ++ r ∧ lowL a = (if sc = [] then [] else sc ++ [58]) := by
  unfold schemeP at h
  by_cases hd : (s.dropWhile stopCS).head? = some 58
  · rw [if_pos hd] at h
    by_cases hc : (s.takeWhile stopCS) = [] ∨ schemeU (lowL (s.takeWhile stopCS)) = false
    · rw [if_pos hc] at h; cases h
    · rw [if_neg hc] at h
      injection h with h
      injection h with h1 h2
      have hs := List.takeWhile_append_dropWhile (p := stopCS) (l := s)
      cases hdd : s.dropWhile stopCS with
      | nil => rw [hdd] at hd; cases hd
      | cons a t =>
        rw [hdd] at hd hs h2
        injection hd with hd
        subst hd
        rw [List.tail_cons] at h2
        subst h2
        refine ⟨s.takeWhile stopCS ++ [58], by rw [List.append_assoc]; exact hs.symm, ?_⟩
        have hne : sc ≠ [] := by
          rw [← h1]
          intro e
          exact hc (.inl (by simpa [lowL] using e))
        rw [if_neg hne, lowL_app, h1]
        rfl
  · rw [if_neg hd] at h
    injection h with h
    injection h with h1 h2
    subst h1; subst h2
    exact ⟨[], rfl, rfl⟩
theorem hasPrefix_two {s : List UInt8} (h : Lib.hasPrefix s [47, 47] = true) : s = 47 :: 47 :: s.drop 2 := by
  unfold Lib.hasPrefix at h
  rw [List.isPrefixOf_iff_prefix] at h
  obtain ⟨t, rfl⟩ := h
  rfl
theorem hostP_back (r : List UInt8) : ∃ a, r = a ++ (hostP r).2.2 ∧ lowL a = (if (hostP r).1 then [47, 47] ++ (hostP r).2.1 else []) := by
  unfold hostP
  by_cases h : Lib.hasPrefix r [47, 47] = true
  · rw [if_pos h]
    refine ⟨[47, 47] ++ (r.drop 2).takeWhile not47, ?_, ?_⟩
    · simp only [List.append_assoc]
      rw [List.takeWhile_append_dropWhile]
      exact hasPrefix_two h
    · rw [lowL_app]; rfl
  · rw [if_neg h]
    exact ⟨[], rfl, rfl⟩
theorem parts_back {s : List UInt8} {v : UrlD} (h : partsU s = some v) : ∃ a, s = a ++ v.path ++ tlU v ∧ textU v = lowL a ++ v.path ++ tlU v := by
  unfold partsU at h
  have b1 := cut_back s 35
  have b2 := cut_back (Lib.cut s [35]).1 63
  cases hs : schemeP (Lib.cut (Lib.cut s [35]).1 [63]).1 with
  | none => rw [hs] at h; cases h
  | some x =>
    obtain ⟨sc, r⟩ := x
    rw [hs] at h
    simp only [Option.some.injEq] at h
    obtain ⟨a1, ha1, hl1⟩ := schemeP_back hs
    obtain ⟨a2, ha2, hl2⟩ := hostP_back r
    refine ⟨a1 ++ a2, ?_, ?_⟩
    · rw [← h]
      simp only [tlU]
      conv => lhs; rw [b1, b2, ha1, ha2]
      simp only [List.append_assoc]
    · rw [textU_eq, ← h]
      simp only [schS, hostS, tlU]
      rw [lowL_app, hl1, hl2]
      simp only [List.append_assoc]
theorem read_parts {s : List UInt8} {v : UrlD} (h : readU s = (v, 0)) : s.length ≤ 120 ∧ partsU s = some v ∧ checkU v = 0 := by
  unfold readU at h
  by_cases hl : 120 < s.length
  · rw [if_pos hl] at h; injection h with _ h; cases h
  · rw [if_neg hl] at h
    cases hp : partsU s with
    | none => rw [hp] at h; injection h with _ h; cases h
    | some u =>
      rw [hp] at h
      simp only at h
      by_cases hc : checkU u = 0
      · rw [if_pos hc] at h
        injection h with h _
        subst h
        exact ⟨by omega, rfl, hc⟩
      · rw [if_neg hc] at h
        injection h with _ h
        exact absurd h hc
theorem tail_len (v : UrlD) : (tlU v).length = (if v.hasQuery then 1 + v.query.length else 0) + (if v.hasFrag then 1 + v.frag.length else 0) := by
  unfold tlU
  cases v.hasQuery <;> cases v.hasFrag <;> simp <;> omega
/-- What is read, is printed so that it is read again; with small letters alone. -/
theorem back_law {s : List UInt8} {v : UrlD} (h : readU s = (v, 0)) : checkU v = 0 ∧ readU (textU v) = (v, 0) ∧ lowL (textU v) = lowL s ∧ (∀ b ∈ s, b.toNat < 128) ∧ (∀ b ∈ textU v, b.toNat < 128) ∧ (tlU v).length ≤ s.length ∧ v.path.drop (min v.path.length 1) ++ s.drop (s.length - (tlU v).length) <:+ s := by
  obtain ⟨_, hp, hc⟩ := read_parts h
  obtain ⟨a, h1, h2⟩ := parts_back hp
  have hlow : lowL (textU v) = lowL s := by
    rw [h2]
    conv => rhs; rw [h1]
    rw [lowL_app, lowL_app, lowL_app, lowL_app, lowL_lowL]
  have hta := text_ascii hc
  have htl : (tlU v).length ≤ s.length := by rw [h1]; simp only [List.length_append]; omega
  refine ⟨hc, read_text hc, hlow, fun b hb => ?_, hta, htl, ?_⟩
  · have hm : lowB b ∈ lowL s := List.mem_map_of_mem hb
    rw [← hlow] at hm
    obtain ⟨c, hc1, hc2⟩ := List.mem_map.1 hm
    have := hta c hc1
    apply lowB_ascii
    rw [← hc2, lowB_nat]
    split <;> omega
  · have e : s.drop (s.length - (tlU v).length) = tlU v := by
      have : s.length - (tlU v).length = (a ++ v.path).length := by
        conv => lhs; rw [h1]
        simp only [List.length_append]; omega
      rw [this]
      conv => lhs; rw [h1]
      rw [List.drop_left]
    rw [e]
    refine ⟨a ++ v.path.take (min v.path.length 1), ?_⟩
    conv => rhs; rw [h1]
    rw [List.append_assoc, ← List.append_assoc (v.path.take _), List.take_append_drop, List.append_assoc]
end Go.Proofs.YtlbdnohnngkapaaGreatDoor

namespace Go.Proofs.YtlbdnohnngkapaaGreatDoor
open Go.RowKit

/-! ### The document's Small, of ASCII text -/
/-- What the package variables of the library's decoder hold. -/
def U8Ok (w : World) : Prop := Lib.Utf8Tabs 4 5 w
theorem U8Ok.below {w w' : World} (h : U8Ok w) (hb : Below w.heap.size w w') : U8Ok w' := Utf8Tabs_below h hb
theorem U8Ok.drewN {w : World} (h : U8Ok w) (n : Nat) : U8Ok (w.drewN n) := h
def lowR (x : Int) : Int := if 65 ≤ x ∧ x ≤ 90 then x + 32 else x
set_option maxRecDepth 100000 in
theorem lowR_byte : ∀ i : Fin 128, Lib.encodeRune (lowR (i.val : Int)) = [lowB (UInt8.ofNat i.val)] := by decide
theorem mapD_low : ∀ (l : List UInt8), (∀ b ∈ l, b.toNat < 128) → Lib.mapD lowR l = lowL l
  | [], _ => rfl
  | b :: t, ha => by
    have hb := ha b List.mem_cons_self
    have ih := mapD_low t (fun x hx => ha x (List.mem_cons_of_mem _ hx))
    rw [Lib.mapD_step lowR (b :: t) (by simp), Lib.decodeL_ascii b t hb]
    dsimp only
    have h0 : 0 ≤ lowR (b.toNat : Int) := by unfold lowR; split <;> omega
    rw [if_pos h0, lowR_byte ⟨b.toNat, hb⟩, List.drop_succ_cons, List.drop_zero, ih]
    simp [lowL]
set_option maxRecDepth 100000 in
set_option maxHeartbeats 400000 in
theorem small1_any (x : Nat) (hx : x ≤ 1114111) (w : World) : Calls Tryz.prog 243 #[.int .i32 (x : Int)] w fun e w' => e = .returned (.int .i32 (lowR x)) ∧ w' = w := by
  unfold lowR
  by_cases h1 : (65 : Int) ≤ x
  · by_cases h2 : (x : Int) ≤ 90
    · have i1 : IntKind.i32.wrap ((x : Int) + 32) = (x : Int) + 32 := by rw [IntKind.wrap_i32]; omega
      go_enter Tryz.func243, Tryz.ntmps243
      go_wp2_with fail
      go_ret
      exact ⟨rfl, rfl⟩
    · go_enter Tryz.func243, Tryz.ntmps243
      go_wp2_with fail
      go_ret
      exact ⟨rfl, rfl⟩
  · go_enter Tryz.func243, Tryz.ntmps243
    go_wp2_with fail
    go_ret
    exact ⟨rfl, rfl⟩
set_option maxRecDepth 100000 in
set_option maxHeartbeats 400000 in
theorem Small_ascii (l : List UInt8) (w : World) (hl : l.length ≤ 1000000) (ha : ∀ b ∈ l, b.toNat < 128) (hT : U8Ok w) :
    Calls Tryz.prog 164 #[str l] w fun e w' => e = .returned (str (lowL l)) ∧ Below w.heap.size w w' := by
  have h := Go.Proofs.Tryz.strings_Map_runes 243 #[] (enters_of Tryz.func243 (by kernel_rfl) rfl) lowR ⟨l.toArray⟩ w (by simp [ByteArray.size]; omega)
    (fun W x hx _ => (small1_any x hx W).mono fun e w' ⟨h1, h2⟩ => ⟨h1, 0, h2⟩) (fun x hx => by unfold lowR; split <;> omega) hT
  rw [show (⟨l.toArray⟩ : ByteArray).data.toList = l from rfl, mapD_low l ha] at h
  have H := Lib.hid h
  clear h
  go_enter Tryz.func164, Tryz.ntmps164
  go_wp2_with fail
  refine H.out.mono ?_
  rintro e w1 ⟨rfl, hb⟩
  go_wp2_with fail
  go_ret
  exact ⟨rfl, hb⟩
end Go.Proofs.YtlbdnohnngkapaaGreatDoor

namespace Go.Proofs.YtlbdnohnngkapaaGreatDoor
open Go.ChangeShapes Go.WideShapes Go.ChangeAt Go.RowKit

def u8Names (x : String × DataW Unit) : Bool := x.1 == "unicode/utf8.first" || x.1 == "unicode/utf8.acceptRanges"
set_option maxRecDepth 100000 in
/-- What a row's laid table gives. -/
theorem u8Ok_of_laid {W : World} {laid : List (String × DataW Unit)} (h : laidMetH Tryz.prog laid W) (e : laid.filter u8Names = [("unicode/utf8.acceptRanges", Lib.acceptData), ("unicode/utf8.first", Lib.firstData)]) : U8Ok W := by
  have h1 := h.filter u8Names
  rw [e, MakeChecks.laidMetH_plain _ _ _ (by kernel_rfl)] at h1
  exact utf8Tabs_of_readsT (U8Types.of260 Go.Proofs.Tryz.lays260) ⟨by kernel_rfl, by kernel_rfl, by kernel_rfl, by kernel_rfl, by kernel_rfl, by kernel_rfl, by kernel_rfl⟩ (Lib.laidMet.reads h1 (.tail _ (.head _))) (Lib.laidMet.reads h1 (.head _))
end Go.Proofs.YtlbdnohnngkapaaGreatDoor

namespace Go.Proofs.YtlbdnohnngkapaaGreatDoor

/-- A rune of a text for which p says yes: a byte for which it does, where p says yes to all beyond ASCII, or the text has none of these. -/
theorem idxFunc_any (p : Nat → Bool) (l : List UInt8) (h : (∀ r, 128 ≤ r → p r = true) ∨ ∀ b ∈ l, b.toNat < 128) : decide (0 ≤ Lib.idxFunc p true ⟨l.toArray⟩) = l.any (fun b => p b.toNat) := by
  have key : ∀ (f pos : Nat), l.length ≤ f + pos → (0 ≤ Lib.idxFuncFrom p true ⟨l.toArray⟩ f pos ↔ (l.drop pos).any (fun b => p b.toNat) = true) := by
    intro f
    induction f with
    | zero =>
      intro pos hl
      rw [List.drop_of_length_le (by omega)]
      simp [Lib.idxFuncFrom]
    | succ f ih =>
      intro pos hl
      unfold Lib.idxFuncFrom
      have hsz : (⟨l.toArray⟩ : ByteArray).size = l.length := by simp [ByteArray.size]
      by_cases hp : pos < l.length
      · rw [if_pos (by rw [hsz]; exact hp), List.drop_eq_getElem_cons hp, List.any_cons]
        have hb : ((⟨l.toArray⟩ : ByteArray)[pos]'(by rw [hsz]; exact hp)) = l[pos] := by
          show (l.toArray[pos]) = _
          simp
        rcases Nat.lt_or_ge (l[pos]).toNat 128 with h128 | h128
        · have hd := decode_ascii ⟨l.toArray⟩ pos (by rw [hsz]; exact hp) (by rw [hb]; exact h128)
          rw [hb] at hd
          rw [hd]
          by_cases hpb : p (l[pos]).toNat = true
          · rw [if_pos hpb, hpb]
            simp
          · rw [if_neg hpb]
            have := ih (pos + 1) (by omega)
            rw [this]
            simp [hpb]
        · have hd := decode_high ⟨l.toArray⟩ pos (by rw [hsz]; exact hp) (by rw [hb]; exact h128)
          rcases h with h | h
          · rw [if_pos (h _ hd.1), h _ h128]
            simp
          · exact absurd (h _ (List.getElem_mem hp)) (by omega)
      · rw [if_neg (by rw [hsz]; exact hp), List.drop_of_length_le (by omega)]
        simp
  have := key (⟨l.toArray⟩ : ByteArray).size 0 (by simp [ByteArray.size])
  unfold Lib.idxFunc
  rw [Bool.eq_iff_iff, decide_eq_true_eq, this, List.drop_zero]
end Go.Proofs.YtlbdnohnngkapaaGreatDoor

namespace Go.Proofs.YtlbdnohnngkapaaGreatDoor
open Go.RowKit

/-- What a predicate on bytes is good for. -/
def PredB (g : Nat) (lb : Array Value) (p : Nat → Bool) (w : World) : Prop :=
  ∀ (W : World) (x : Nat), x < 256 → Below w.heap.size w W → Calls Tryz.prog g (#[.int .u8 (x : Int)] ++ lb) W fun e w' => e = .returned (.bool (p x)) ∧ Below W.heap.size W w'
def IdxRes (b : Bool) (w : World) (e : Ending) (w' : World) : Prop := ∃ i : Int, e = .returned (.int .i64 i) ∧ decide (0 ≤ i) = b ∧ Below w.heap.size w w'
theorem any_hit (l : List UInt8) (p : Nat → Bool) (k : Nat) (hk : k < l.length) (h : p (nth l k) = true) : l.any (fun b => p b.toNat) = true := by
  rw [List.any_eq_true]
  exact ⟨l[k], List.getElem_mem hk, by rw [← nth_of l k hk]; exact h⟩
theorem any_miss (l : List UInt8) (p : Nat → Bool) (h : ∀ j, j < l.length → p (nth l j) = false) : l.any (fun b => p b.toNat) = false := by
  rw [List.any_eq_false]
  intro x hx
  obtain ⟨j, hj, rfl⟩ := List.getElem_of_mem hx
  rw [← nth_of l j hj, h j hj]
  simp

set_option maxHeartbeats 400000 in
theorem IndexFunc_bytes (g : Nat) (lb : Array Value) (eg : ∀ args w, (callFunc g args).run Tryz.prog w = .ok (.enter g args) w) (p : Nat → Bool) (A : Option Addr) (n c B : Nat) (l : List UInt8) (w : World) (hb : By w B A n l) (hB : B ≤ w.heap.size) (hm : n ≤ maxLen) (hp : PredB g lb p w) :
    Calls Tryz.prog 229 #[.slice A n c, .func (.func g) #[] lb] w (IdxRes (l.any (fun b => p b.toNat)) w) := by
  have hl := hb.len
  have h1 := any_hit l p
  have h2 := any_miss l p
  generalize l.any (fun b => p b.toNat) = r at h1 h2
  have Hl := Lib.hid hl
  have H1 := Lib.hid h1
  have H2 := Lib.hid h2
  have Hp := Lib.hid hp
  clear hl h1 h2 hp
  unfold maxLen at hm
  go_enter Tryz.func229, Tryz.ntmps229
  go_wp2_with fail
  go_loopw [8] (fun iv wr => ∃ k : Nat, k ≤ n ∧ iv = .int .i64 k ∧ Below w.heap.size w wr ∧ Hid (∀ j, j < k → p (nth l j) = false)) (fun iv _ => n - (intOf iv).toNat)
  case atStart => exact ⟨0, by omega, rfl, Below.refl _ _, fun j hj => absurd hj (by omega)⟩
  case round =>
    obtain ⟨k, hk, rfl, hbel, hz⟩ := hrel
    by_cases hkn : k < n
    · obtain ⟨b, off, rfl, hbB, hcell1⟩ := hb.at_ hkn
      have hcell := (hbel.cell (p := ⟨b, off + k, none⟩) (Nat.lt_of_lt_of_le hbB hB)).trans hcell1
      have cS := Hp.out wr (nth l k) (nth_lt l k) hbel
      clear hcell1
      by_cases hpk : p (nth l k) = true
      · have hr : Hid (r = true) := H1.out k (by rw [Hl.out]; exact hkn) hpk
        rw [hpk] at cS
        clear hpk
        go_wp2_with (go_at_fn g; refine cS.mono ?_; rintro e w1 ⟨rfl, hb1⟩)
        go_ret
        exact ⟨k, rfl, by rw [hr.out]; simp, hbel.trans (hb1.mono hbel.size)⟩
      · have hpf : p (nth l k) = false := by simpa using hpk
        rw [hpf] at cS
        have HF := Lib.hid hpf
        clear hpk hpf
        go_wp2_with (go_at_fn g; refine cS.mono ?_; rintro e w1 ⟨rfl, hb1⟩)
        refine ⟨⟨k + 1, by omega, by go_num, hbel.trans (hb1.mono hbel.size), fun j hj => ?_⟩, by simp [intOf]; omega⟩
        rcases Nat.lt_or_ge j k with h | h
        · exact hz.out j h
        · rw [show j = k from by omega]; exact HF.out
    · have hr : Hid (r = false) := H2.out fun j hj => hz.out j (by rw [Hl.out] at hj; omega)
      go_wp2_with fail
      go_ret
      exact ⟨-1, rfl, by rw [hr.out]; rfl, hbel⟩
set_option maxHeartbeats 400000 in
theorem ContainsFunc_bytes (g : Nat) (lb : Array Value) (eg : ∀ args w, (callFunc g args).run Tryz.prog w = .ok (.enter g args) w) (p : Nat → Bool) (A : Option Addr) (n c B : Nat) (l : List UInt8) (w : World) (hb : By w B A n l) (hB : B ≤ w.heap.size) (hm : n ≤ maxLen) (hp : PredB g lb p w) :
    Calls Tryz.prog 143 #[.slice A n c, .func (.func g) #[] lb] w fun e w' => e = .returned (.bool (l.any (fun b => p b.toNat))) ∧ Below w.heap.size w w' := by
  have h := IndexFunc_bytes g lb eg p A n c B l w hb hB hm hp
  generalize l.any (fun b => p b.toNat) = r at h ⊢
  clear hp hb
  have H := Lib.hid h
  clear h eg
  go_enter Tryz.func143, Tryz.ntmps143
  go_wp2_with fail
  refine H.out.mono ?_
  rintro e w1 ⟨i, rfl, hi, hb1⟩
  have Hi := Lib.hid hi
  clear hi
  go_wp2_with fail
  all_goals
    go_ret
    exact ⟨by rw [← Hi.out]; rfl, hb1⟩
end Go.Proofs.YtlbdnohnngkapaaGreatDoor

namespace Go.Proofs.YtlbdnohnngkapaaGreatDoor
open Go.RowKit

theorem own_below {w w' : World} {base : Nat} {e : TypeId} {size : Nat} {v : Value} {n : Nat} {xs : List Value} (h : w.ownsRow base e size v n xs) (hb : Below w.heap.size w w') : w'.ownsRow base e size v n xs :=
  h.kept (row := none) ⟨hb.os, hb.tape, hb.output, hb.size, fun k hk _ => hb.block k hk⟩ (by cases h : v.ownBlock <;> simp)

theorem own_cap {w : World} {base : Nat} {e : TypeId} {size : Nat} {S : Option Addr} {n c : Nat} {xs : List Value} (h : w.ownsRow base e size (.slice S n c) n xs) : n ≤ c := by
  rcases h.2 with ⟨hv, h0⟩ | ⟨g', cap', cur', hv', _, _, hnc', _⟩
  · omega
  · injection hv' with _ _ hcc; omega
theorem one_u8 (x : Int) : ∀ u ∈ [Value.int .u8 x], u.oneCell' = true := by intro u hu; simp at hu; subst hu; rfl
theorem two_u8 (x y : Int) : ∀ u ∈ [Value.int .u8 x, Value.int .u8 y], u.oneCell' = true := by intro u hu; simp at hu; rcases hu with rfl | rfl <;> rfl
theorem news_one (w : World) (t : TypeId) (v : Value) : ∀ j u, [v][j]? = some u → (w.alloc (.cells #[v] t)).cell? ((⟨w.heap.size, 0, none⟩ : Addr).add j) = some u := by
  intro j u hj
  match j, hj with
  | 0, hj => simp at hj; subst hj; simp [Addr.add]
theorem wrap_u8N (z : Nat) (h : z < 256) : IntKind.u8.wrap (z : Int) = (z : Int) := by
  rw [IntKind.wrap_u8]; omega
theorem byte_cell (x : Nat) (h : x < 256) : Lib.byteCells [UInt8.ofNat x] = [.int .u8 (x : Int)] := by
  have : (UInt8.ofNat x).toNat = x := by rw [UInt8.toNat_ofNat']; omega
  simp [Lib.byteCells]
  omega

/-! ### The library's texts, by lists of bytes -/
theorem cut_one_yes {l : List UInt8} {c : UInt8} {k : Nat} (h : Lib.indexByte l c = (k : Int)) : Lib.cut l [c] = (l.take k, l.drop (k + 1), true) := by
  unfold Lib.cut
  rw [Lib.index_one, h, if_pos (by omega)]
  simp
theorem cut_one_no {l : List UInt8} {c : UInt8} (h : Lib.indexByte l c < 0) : Lib.cut l [c] = (l, [], false) := by
  unfold Lib.cut
  rw [Lib.index_one, if_neg (by omega)]

set_option maxHeartbeats 400000 in
theorem sliteCut_one (l : List UInt8) (c : UInt8) (w : World) (hl : l.length ≤ maxLen) :
    Calls Tryz.prog 183 #[str l, .string ⟨#[c]⟩] w fun e w' => e = .returned (.tuple #[str (Lib.cut l [c]).1, str (Lib.cut l [c]).2.1, .bool (Lib.cut l [c]).2.2]) ∧ ∃ q, w' = w.drewN q := by
  unfold maxLen at hl
  have hge := Lib.indexByte_ge l c
  by_cases h0 : 0 ≤ Lib.indexByte l c
  · obtain ⟨k, hk⟩ := Int.eq_ofNat_of_zero_le h0
    have hlt : k < l.length := by
      have := (Lib.indexByte_some hk).1
      rcases Nat.lt_or_ge k l.length with h | h
      · exact h
      · rw [List.getElem?_eq_none h] at this; cases this
    have hidx := fun W => Go.Proofs.Tryz.stringslite_Index_one ⟨l.toArray⟩ c W
    rw [show (⟨l.toArray⟩ : ByteArray).data.toList = l from rfl, hk] at hidx
    rw [cut_one_yes hk]
    have Hidx := Lib.hid hidx
    clear hidx hk h0 hge
    go_enter Tryz.func183, Tryz.ntmps183
    go_wp2_with fail
    refine (Hidx.out _).mono ?_
    rintro e w1 ⟨rfl, rfl⟩
    go_wp2_with fail
    have i1 : IntKind.i64.wrap ((k : Int) + 1) = (k : Int) + 1 := IntWalk.i64_in _ (by omega)
    have i2 : 0 ≤ (k : Int) + 1 := by omega
    have i3 : ((k : Int) + 1).toNat = k + 1 := by omega
    have i4 : (k : Int) + 1 ≤ l.length := by omega
    have i5 : (k : Int) ≤ l.length := by omega
    go_quiet (fail)
    clear i1 i2 i3 i4 i5
    go_wp2_with fail
    go_ret3
    exact ⟨rfl, _, rfl⟩
  · have hidx := fun W => Go.Proofs.Tryz.stringslite_Index_one ⟨l.toArray⟩ c W
    rw [show (⟨l.toArray⟩ : ByteArray).data.toList = l from rfl, show Lib.indexByte l c = -1 by omega] at hidx
    rw [cut_one_no (by omega)]
    have Hidx := Lib.hid hidx
    clear hidx hge h0
    go_enter Tryz.func183, Tryz.ntmps183
    go_wp2_with fail
    refine (Hidx.out _).mono ?_
    rintro e w1 ⟨rfl, rfl⟩
    go_wp2_with fail
    go_ret3
    exact ⟨rfl, 0, rfl⟩
set_option maxHeartbeats 400000 in
theorem Cut_one (l : List UInt8) (c : UInt8) (w : World) (hl : l.length ≤ maxLen) :
    Calls Tryz.prog 105 #[str l, .string ⟨#[c]⟩] w fun e w' => e = .returned (.tuple #[str (Lib.cut l [c]).1, str (Lib.cut l [c]).2.1, .bool (Lib.cut l [c]).2.2]) ∧ ∃ q, w' = w.drewN q := by
  have h := sliteCut_one l c w hl
  generalize Lib.cut l [c] = x at h ⊢
  obtain ⟨a, b, d⟩ := x
  go_enter Tryz.func105, Tryz.ntmps105
  go_wp2_with fail
  refine h.mono ?_
  rintro e w1 ⟨rfl, q, rfl⟩
  go_wp2_with fail
  go_ret3
  exact ⟨rfl, q, rfl⟩
theorem HasPrefix_any (l p : List UInt8) (w : World) : Calls Tryz.prog 46 #[str l, .string ⟨p.toArray⟩] w fun e w' => e = .returned (.bool (Lib.hasPrefix l p)) ∧ w = w' := by
  refine (Go.Proofs.Tryz.strings_HasPrefix ⟨l.toArray⟩ ⟨p.toArray⟩ w).mono ?_
  rintro e w1 ⟨rfl, rfl⟩
  exact ⟨rfl, rfl⟩
end Go.Proofs.YtlbdnohnngkapaaGreatDoor

namespace Go.Proofs.YtlbdnohnngkapaaGreatDoor
open Go.RowKit

theorem IndexByte_tspec (x : Nat) (w : World) :
    Calls Tryz.prog 110 #[.string ⟨#[40, 41, 60, 62, 64, 44, 59, 58, 92, 34, 47, 91, 93, 63, 61]⟩, .int .u8 (x : Int)] w fun e w' => e = .returned (.int .i64 (idxB tspec x)) ∧ w = w' := by
  refine (Go.Proofs.Tryz.strings_IndexByte ⟨tspec.toArray⟩ (x : Int) w).mono ?_
  rintro e w' ⟨rfl, rfl⟩
  exact ⟨rfl, rfl⟩
set_option maxRecDepth 100000 in
set_option maxHeartbeats 400000 in
theorem token1_any (x : Nat) (hx : x < 256) (w : World) : Calls Tryz.prog 271 #[.int .u8 (x : Int)] w fun e w' => e = .returned (.bool (badTok x)) ∧ w = w' := by
  by_cases h1 : x ≤ 32
  · rw [show badTok x = true by simp [badTok, h1]]
    go_enter Tryz.func271, Tryz.ntmps271
    go_wp2_with fail
    go_ret
    exact ⟨rfl, rfl⟩
  · by_cases h2 : 126 < x
    · rw [show badTok x = true by simp [badTok, h2]]
      go_enter Tryz.func271, Tryz.ntmps271
      go_wp2_with fail
      go_ret
      exact ⟨rfl, rfl⟩
    · have e : badTok x = decide (0 ≤ idxB tspec x) := by simp [badTok, h1, h2]
      have d1 : decide ((x : Int) ≤ 32) = false := by simp; omega
      have d2 : decide ((126 : Int) < x) = false := by simp; omega
      rw [e]
      clear e
      go_enter Tryz.func271, Tryz.ntmps271
      go_wp2_with fail
      refine (IndexByte_tspec x _).mono ?_
      rintro e w1 ⟨rfl, rfl⟩
      go_wp2_with fail
      all_goals
        go_ret
        exact ⟨rfl, rfl⟩
theorem predTok (w : World) : PredB 271 #[] badTok w := fun W x hx _ =>
  (token1_any x hx W).mono fun _e _w' ⟨h1, h2⟩ => ⟨h1, h2 ▸ Below.refl _ _⟩
set_option maxRecDepth 100000 in
set_option maxHeartbeats 400000 in
theorem Token_any (l : List UInt8) (w : World) (hl : l.length ≤ maxLen) : Calls Tryz.prog 219 #[str l] w fun e w' => e = .returned (.bool (tokB l)) ∧ Below w.heap.size w w' := by
  unfold maxLen at hl
  by_cases h0 : l = []
  · subst h0
    rw [show tokB [] = false from rfl]
    go_enter Tryz.func219, Tryz.ntmps219
    go_wp2_with fail
    go_ret
    exact ⟨rfl, Below.refl _ _⟩
  · have h1 : (l == []) = false := by simpa using h0
    by_cases h30 : l.length ≤ 30
    · have e : tokB l = !l.any (fun b => badTok b.toNat) := by simp [tokB, h1, h30]
      rw [e]
      clear e h0
      obtain ⟨A, c, w1, hconv, hby, hnc, hb1, hlt1⟩ := run_toBytes (P := Tryz.prog) w 9 22 5 l Tryz.underlying9 Tryz.underlying22 Tryz.underlying5
      have hcf := ContainsFunc_bytes 271 #[] (enters_of Tryz.func271 (by kernel_rfl) rfl) badTok A l.length c _ l w1 hby (Nat.le_refl _) (by unfold maxLen; omega) (predTok w1)
      generalize l.any (fun b => badTok b.toNat) = r at hcf ⊢
      have Hcf := Lib.hid hcf
      clear hcf hby
      go_enter Tryz.func219, Tryz.ntmps219
      go_wp2_with fail
      refine Hcf.out.mono ?_
      rintro e w2 ⟨rfl, hb2⟩
      go_wp2_with fail
      go_ret
      exact ⟨rfl, hb1.trans (hb2.mono hb1.size)⟩
    · have e : tokB l = false := by simp [tokB, h30]
      rw [e]
      clear e h0
      go_enter Tryz.func219, Tryz.ntmps219
      go_wp2_with fail
      go_ret
      exact ⟨rfl, Below.refl _ _⟩
end Go.Proofs.YtlbdnohnngkapaaGreatDoor

namespace Go.Proofs.YtlbdnohnngkapaaGreatDoor
open Go.RowKit

set_option maxRecDepth 100000 in
set_option maxHeartbeats 400000 in
theorem type1_any (x : Nat) (w : World) : Calls Tryz.prog 270 #[.int .i32 (x : Int)] w fun e w' => e = .returned (.bool (upR x)) ∧ w = w' := by
  go_enter Tryz.func270, Tryz.ntmps270
  go_wp2_with fail
  all_goals
    go_ret
    refine ⟨congrArg (fun b => Ending.returned (.bool b)) (?_ : _ = upR x), rfl⟩
    rw [Bool.eq_iff_iff]
    simp [upR]
    try omega
theorem containsUp_any (l : List UInt8) (w : World) (ha : ∀ b ∈ l, b.toNat < 128) : Calls Tryz.prog 122 #[str l, .func (.func 270) #[] #[]] w fun e w' => e = .returned (.bool (l.any (fun b => upR b.toNat))) ∧ Below w.heap.size w w' := by
  have h := Go.Proofs.Tryz.strings_ContainsFunc_runes 270 #[] (enters_of Tryz.func270 (by kernel_rfl) rfl) upR ⟨l.toArray⟩ w
    (fun W x hx _ => (type1_any x W).mono fun e w' ⟨h1, h2⟩ => ⟨h1, 0, h2.symm⟩)
  rw [idxFunc_any upR l (.inr ha)] at h
  exact h
theorem cut_len (l : List UInt8) (c : UInt8) : (Lib.cut l [c]).1.length ≤ l.length ∧ (Lib.cut l [c]).2.1.length ≤ l.length := by
  unfold Lib.cut
  split
  · simp; omega
  · simp
set_option maxRecDepth 100000 in
set_option maxHeartbeats 1000000 in
theorem Type_any (l : List UInt8) (w : World) (hl : l.length ≤ maxLen) : Calls Tryz.prog 218 #[str l] w fun e w' => e = .returned (.bool (typB l)) ∧ Below w.heap.size w w' := by
  have hcut := Cut_one l 47 w hl
  have hcl := cut_len l 47
  have hasc := typ_ascii l
  unfold typB
  have hup := fun W h => containsUp_any l W h
  generalize l.any (fun b => upR b.toNat) = up at hup ⊢
  generalize Lib.cut l [47] = x at hcut hcl hasc ⊢
  obtain ⟨a, b, ok⟩ := x
  simp only at hcut hcl hasc ⊢
  have hta := fun W => Token_any a W (by omega)
  have htb := fun W => Token_any b W (by omega)
  generalize tokB a = ta at hta hasc ⊢
  generalize tokB b = tb at htb hasc ⊢
  have Hcut := Lib.hid hcut
  have Hta := Lib.hid hta
  have Htb := Lib.hid htb
  have Hup := Lib.hid hup
  have Hasc := Lib.hid hasc
  clear hcut hta htb hup hasc hcl hl
  cases ok
  · go_enter Tryz.func218, Tryz.ntmps218
    go_wp2_with fail
    refine Hcut.out.mono ?_
    rintro e w1 ⟨rfl, q, rfl⟩
    have hb1 : Below w.heap.size w (w.drewN q) := belN (Below.refl _ w) q
    generalize w.drewN q = w1 at hb1 ⊢
    go_wp2_with fail
    go_ret
    exact ⟨rfl, hb1⟩
  · cases ta
    · go_enter Tryz.func218, Tryz.ntmps218
      go_wp2_with fail
      refine Hcut.out.mono ?_
      rintro e w1 ⟨rfl, q, rfl⟩
      have hb1 : Below w.heap.size w (w.drewN q) := belN (Below.refl _ w) q
      generalize w.drewN q = w1 at hb1 ⊢
      go_wp2_with fail
      refine (Hta.out _).mono ?_
      rintro e w2 ⟨rfl, hb2⟩
      go_wp2_with fail
      go_ret
      exact ⟨rfl, hb1.trans (hb2.mono hb1.size)⟩
    · cases tb
      · go_enter Tryz.func218, Tryz.ntmps218
        go_wp2_with fail
        refine Hcut.out.mono ?_
        rintro e w1 ⟨rfl, q, rfl⟩
        have hb1 : Below w.heap.size w (w.drewN q) := belN (Below.refl _ w) q
        generalize w.drewN q = w1 at hb1 ⊢
        go_wp2_with fail
        refine (Hta.out _).mono ?_
        rintro e w2 ⟨rfl, hb2⟩
        have hbel2 := hb1.trans (hb2.mono hb1.size)
        go_wp2_with fail
        refine (Htb.out _).mono ?_
        rintro e w3 ⟨rfl, hb3⟩
        go_wp2_with fail
        go_ret
        exact ⟨rfl, hbel2.trans (hb3.mono hbel2.size)⟩
      · have hu := fun W => Hup.out W (Hasc.out rfl rfl rfl)
        have Hu := Lib.hid hu
        clear hu Hup Hasc
        go_enter Tryz.func218, Tryz.ntmps218
        go_wp2_with fail
        refine Hcut.out.mono ?_
        rintro e w1 ⟨rfl, q, rfl⟩
        have hb1 : Below w.heap.size w (w.drewN q) := belN (Below.refl _ w) q
        generalize w.drewN q = w1 at hb1 ⊢
        go_wp2_with fail
        refine (Hta.out _).mono ?_
        rintro e w2 ⟨rfl, hb2⟩
        have hbel2 := hb1.trans (hb2.mono hb1.size)
        go_wp2_with fail
        refine (Htb.out _).mono ?_
        rintro e w3 ⟨rfl, hb3⟩
        have hbel3 := hbel2.trans (hb3.mono hbel2.size)
        go_wp2_with fail
        refine (Hu.out _).mono ?_
        rintro e w4 ⟨rfl, hb4⟩
        have hbel4 := hbel3.trans (hb4.mono hbel3.size)
        go_wp2_with fail
        go_ret
        exact ⟨rfl, hbel4⟩
set_option maxRecDepth 100000 in
set_option maxHeartbeats 400000 in
theorem Many_any (l : List UInt8) (w : World) : Calls Tryz.prog 34 #[str l] w fun e w' => e = .returned (.bool (manyB l)) ∧ w = w' := by
  go_enter Tryz.func34, Tryz.ntmps34
  go_wp2_with fail
  refine (HasPrefix_any l [109, 117, 108, 116, 105, 112, 97, 114, 116, 47] _).mono ?_
  rintro e w1 ⟨rfl, rfl⟩
  go_wp2_with fail
  go_ret
  exact ⟨rfl, rfl⟩
set_option maxRecDepth 100000 in
set_option maxHeartbeats 400000 in
theorem word1_any (x : Nat) (hx : x < 256) (w : World) : Calls Tryz.prog 272 #[.int .u8 (x : Int)] w fun e w' => e = .returned (.bool (badWord x)) ∧ w = w' := by
  go_enter Tryz.func272, Tryz.ntmps272
  go_wp2_with fail
  all_goals
    go_ret
    refine ⟨congrArg (fun b => Ending.returned (.bool b)) (?_ : _ = badWord x), rfl⟩
    rw [Bool.eq_iff_iff]
    simp [badWord]
    try omega
theorem predWord (w : World) : PredB 272 #[] badWord w := fun W x hx _ =>
  (word1_any x hx W).mono fun _e _w' ⟨h1, h2⟩ => ⟨h1, h2 ▸ Below.refl _ _⟩
set_option maxRecDepth 100000 in
set_option maxHeartbeats 400000 in
theorem Word_any (l : List UInt8) (w : World) (hl : l.length ≤ maxLen) : Calls Tryz.prog 220 #[str l] w fun e w' => e = .returned (.bool (wordB l)) ∧ Below w.heap.size w w' := by
  unfold maxLen at hl
  by_cases h30 : l.length ≤ 120
  · have e : wordB l = !l.any (fun b => badWord b.toNat) := by simp [wordB, h30]
    rw [e]
    clear e
    obtain ⟨A, c, w1, hconv, hby, hnc, hb1, hlt1⟩ := run_toBytes (P := Tryz.prog) w 9 22 5 l Tryz.underlying9 Tryz.underlying22 Tryz.underlying5
    have hcf := ContainsFunc_bytes 272 #[] (enters_of Tryz.func272 (by kernel_rfl) rfl) badWord A l.length c _ l w1 hby (Nat.le_refl _) (by unfold maxLen; omega) (predWord w1)
    generalize l.any (fun b => badWord b.toNat) = r at hcf ⊢
    have Hcf := Lib.hid hcf
    clear hcf hby
    go_enter Tryz.func220, Tryz.ntmps220
    go_wp2_with fail
    refine Hcf.out.mono ?_
    rintro e w2 ⟨rfl, hb2⟩
    go_wp2_with fail
    go_ret
    exact ⟨rfl, hb1.trans (hb2.mono hb1.size)⟩
  · have e : wordB l = false := by simp [wordB, h30]
    rw [e]
    clear e
    go_enter Tryz.func220, Tryz.ntmps220
    go_wp2_with fail
    go_ret
    exact ⟨rfl, Below.refl _ _⟩
end Go.Proofs.YtlbdnohnngkapaaGreatDoor

namespace Go.Proofs.YtlbdnohnngkapaaGreatDoor
open Go.RowKit

theorem ret_nat {a b : Nat} (h : a = b) : Ending.returned (.int .i64 (a : Int)) = .returned (.int .i64 (b : Int)) := by rw [h]
set_option maxRecDepth 100000 in
set_option maxHeartbeats 2000000 in
theorem check_raw (t cs id loc : List UInt8) (how : Int) (A A2 : Option Addr) (n c n2 c2 : Nat) (w : World)
    (ht : t.length ≤ maxLen) (hcs : cs.length ≤ maxLen) (hid : id.length ≤ maxLen) (hloc : loc.length ≤ maxLen) (hh1 : -9223372036854775808 ≤ how) (hh2 : how ≤ 9223372036854775807) (hn : n ≤ maxLen) (hn2 : n2 ≤ maxLen) :
    Calls Tryz.prog 134 #[.agg #[str t, str cs, str id, str loc, .int .i64 how, .slice A n c, .slice A2 n2 c2]] w
      fun e w' => e = .returned (.int .i64 (chkB (typB t) (cs == []) (tokB cs) (wordB id) (wordB loc) how n (manyB t) n2 : Nat)) ∧ Below w.heap.size w w' := by
  have h1 := fun W => Type_any t W ht
  have h2 := fun W => Token_any cs W hcs
  have h3 := fun W => Word_any id W hid
  have h4 := fun W => Word_any loc W hloc
  have h5 := fun W => Many_any t W
  generalize typB t = ty at h1 ⊢
  generalize tokB cs = tk at h2 ⊢
  generalize wordB id = wi at h3 ⊢
  generalize wordB loc = wl at h4 ⊢
  generalize manyB t = m at h5 ⊢
  generalize hce : (cs == ([] : List UInt8)) = ce
  have HCE := Lib.hid hce
  clear hce
  have H1 := Lib.hid h1
  have H2 := Lib.hid h2
  have H3 := Lib.hid h3
  have H4 := Lib.hid h4
  have H5 := Lib.hid h5
  clear h1 h2 h3 h4 h5
  unfold maxLen at ht hcs hid hloc hn hn2
  have hbx := Box7.new w 25 (str t) (str cs) (str id) (str loc) (.int .i64 how) (.slice A n c) (.slice A2 n2 c2)
  have hb0 : Below w.heap.size w (w.alloc (.cells #[str t, str cs, str id, str loc, .int .i64 how, .slice A n c, .slice A2 n2 c2] 25)) := (Below.refl _ w).alloc (Nat.le_refl _) _
  go_enter Tryz.func134, Tryz.ntmps134
  go_wp2_with fail
  refine (H1.out _).mono ?_
  rintro e w1 ⟨rfl, hb1⟩
  have hbx1 := hbx.below hb1
  have hbel1 := hb0.trans (hb1.mono hb0.size)
  clear hbx hb0 hb1 H1
  have ⟨x0, x1, x2, x3, x4, x5, x6⟩ := hbx1
  cases ty
  · go_wp2_with fail
    go_ret
    exact ⟨ret_nat (by simp [chkB]), hbel1⟩
  · cases ce
    case' true =>
      have hce := HCE.out
      go_wp2_with fail
      obtain ⟨w2, hw2⟩ : ∃ w2 : World, w2 = w1 := ⟨_, rfl⟩
      have hbx2 := hbx1
      have hbel2 := hbel1
      rw [← hw2] at hbx2 hbel2 ⊢
      clear x0 x1 x2 x3 x4 x5 x6 hw2 hbx1 hbel1 hce
    case' false =>
      have hce := HCE.out
      go_wp2_with fail
      refine (H2.out _).mono ?_
      rintro e w2 ⟨rfl, hb2⟩
      have hbx2 := hbx1.below hb2
      have hbel2 := hbel1.trans (hb2.mono hbel1.size)
      have ⟨x0, x1, x2, x3, x4, x5, x6⟩ := hbx2
      cases tk
      · go_wp2_with fail
        go_ret
        exact ⟨ret_nat (by simp [chkB]), hbel2⟩
      go_wp2_with fail
      clear x0 x1 x2 x3 x4 x5 x6 hb2 hbx1 hbel1 hce
    all_goals
      refine (H3.out _).mono ?_
      rintro e w3 ⟨rfl, hb3⟩
      have hbx3 := hbx2.below hb3
      have hbel3 := hbel2.trans (hb3.mono hbel2.size)
      clear hbx2 hbel2 hb3
      have ⟨x0, x1, x2, x3, x4, x5, x6⟩ := hbx3
      cases wi
      · go_wp2_with fail
        go_ret
        exact ⟨ret_nat (by simp [chkB]), hbel3⟩
      · go_wp2_with fail
        clear x0 x1 x2 x3 x4 x5 x6
        refine (H4.out _).mono ?_
        rintro e w4 ⟨rfl, hb4⟩
        have hbx4 := hbx3.below hb4
        have hbel4 := hbel3.trans (hb4.mono hbel3.size)
        clear hbx3 hbel3 hb4
        have ⟨x0, x1, x2, x3, x4, x5, x6⟩ := hbx4
        cases wl
        · go_wp2_with fail
          go_ret
          exact ⟨ret_nat (by simp [chkB]), hbel4⟩
        · by_cases hh0 : how < 0
          · have d0 : decide (how < 0) = true := by simpa using hh0
            go_wp2_with fail
            go_ret
            exact ⟨ret_nat (by simp [chkB, hh0]), hbel4⟩
          · have d0 : decide (how < 0) = false := by simpa using hh0
            by_cases hh2 : 2 < how
            · have d2 : decide (2 < how) = true := by simpa using hh2
              go_wp2_with fail
              go_ret
              exact ⟨ret_nat (by simp [chkB, hh2]), hbel4⟩
            · have d2 : decide (2 < how) = false := by simpa using hh2
              by_cases hn4 : 4000 < n
              · go_wp2_with fail
                go_ret
                exact ⟨ret_nat (by simp [chkB, hh0, hh2, hn4]), hbel4⟩
              · go_wp2_with fail
                refine (H5.out _).mono ?_
                rintro e w5 ⟨rfl, rfl⟩
                have hce := HCE.out
                have k0 : ¬ how < 0 ∧ ¬ 2 < how ∧ ¬ 4000 < n := by omega
                have K0 := Lib.hid k0
                clear k0 hh0 hh2
                rcases (by omega : 0 < n2 ∨ n2 = 0) with hn0 | rfl <;> rcases (by omega : 0 < n ∨ n = 0) with hnn | rfl <;> rcases Decidable.em (how = 0) with rfl | hz <;> cases m
                all_goals
                  first
                  | have e0 : decide ((0 : Int) < n2) = true := by simp; omega
                  | have e0 : True := trivial
                  first
                  | have e1 : decide ((0 : Int) < n) = true := by simp; omega
                  | have e1 : True := trivial
                  first
                  | have e2 : (how != 0) = true := by simpa using hz
                  | have e2 : True := trivial
                  go_wp2_with fail
                  go_ret
                  refine ⟨ret_nat ?_, hbel4⟩
                  have k0 := K0.out
                  simp only [chkB]
                  simp [*]
end Go.Proofs.YtlbdnohnngkapaaGreatDoor

namespace Go.Proofs.YtlbdnohnngkapaaGreatDoor
open Go.RowKit

def cntVal : Option Nat → Value
  | none => .tuple #[.int .i64 0, .bool false]
  | some n => .tuple #[.int .i64 (n : Nat), .bool true]
/-- Element i of a slice of parts, its seven cells. -/
theorem SlP.cells7 {S : Nat → Prop} {w : World} {A : Option Addr} {n : Nat} {ps : List PartD} (h : SlP S w A n ps) {i : Nat} (hi : i < n) :
    ∃ b off p A' n' c' A2' n2' c2', A = some ⟨b, off, none⟩ ∧ S b ∧ ps.drop i = p :: ps.drop (i + 1) ∧ PartAt S w p [str p.type, str p.cs, str p.id, str p.loc, .int .i64 p.how, .slice A' n' c', .slice A2' n2' c2'] ∧
      w.cell? ⟨b, off + i * 7, none⟩ = some (str p.type) ∧ w.cell? ⟨b, off + i * 7 + 1, none⟩ = some (str p.cs) ∧ w.cell? ⟨b, off + i * 7 + 2, none⟩ = some (str p.id) ∧ w.cell? ⟨b, off + i * 7 + 3, none⟩ = some (str p.loc) ∧
      w.cell? ⟨b, off + i * 7 + 4, none⟩ = some (.int .i64 p.how) ∧ w.cell? ⟨b, off + i * 7 + 5, none⟩ = some (.slice A' n' c') ∧ w.cell? ⟨b, off + i * 7 + 6, none⟩ = some (.slice A2' n2' c2') := by
  have hl := h.len
  obtain ⟨b, off, r, hA, hb, hp, hc⟩ := h.at_ hi
  have hd := List.drop_eq_getElem_cons (l := ps) (i := i) (by omega)
  generalize ps[i]'(by rw [h.len]; exact hi) = p at hp hd
  obtain ⟨t, cs, id, loc, how, body, parts⟩ := p
  have hp2 := hp
  obtain ⟨A', n', c', A2', n2', c2', rows, rfl, _⟩ := hp
  exact ⟨b, off, _, A', n', c', A2', n2', c2', hA, hb, hd, hp2, hc 0 _ rfl, hc 1 _ rfl, hc 2 _ rfl, hc 3 _ rfl, hc 4 _ rfl, hc 5 _ rfl, hc 6 _ rfl⟩

def CntRel (k n2 : Nat) (ps : List PartD) (R : Option Nat) (w0 : World) (nv iv : Value) (wr : World) : Prop :=
  ∃ i n : Nat, nv = .int .i64 (n : Nat) ∧ iv = .int .i64 (i : Nat) ∧ i ≤ n2 ∧ n ≤ 12 ∧ Hid (cntsD k n (ps.drop i) = R) ∧ Below w0.heap.size w0 wr
set_option maxRecDepth 100000 in
set_option maxHeartbeats 2000000 in
theorem count_any (k : Nat) : ∀ (p : PartD) (v : List Value) (depth : Int) (w : World), k + depth = 4 → 1 ≤ depth → PartAt (· < w.heap.size) w p v →
    Calls Tryz.prog 133 #[.agg v.toArray, .int .i64 depth] w fun e w' => e = .returned (cntVal (cntD k p)) ∧ Below w.heap.size w w' := by
  induction k with
  | zero =>
    intro p v depth w hd h1 hp
    obtain ⟨t, cs, id, loc, how, body, parts⟩ := p
    obtain ⟨A, n, c, A2, n2, c2, rows, rfl, _⟩ := hp
    have e : cntD 0 ⟨t, cs, id, loc, how, body, parts⟩ = none := by rw [cntD]
    rw [e]
    have hd4 : 3 < depth := by omega
    have hd5 : depth ≤ 4 := by omega
    clear hd e
    go_enter Tryz.func133, Tryz.ntmps133
    go_wp2_with fail
    go_ret2
    exact ⟨rfl, (Below.refl _ _).alloc (Nat.le_refl _) _⟩
  | succ k ih =>
    intro p v depth w hd h1 hp
    obtain ⟨t, cs, id, loc, how, body, parts⟩ := p
    obtain ⟨A, n, c, A2, n2, c2, rows, rfl, _, _, _, _, hsl, hnc, hcm, hps⟩ := hp
    have hP : SlP (· < w.heap.size) w A2 n2 parts := ⟨rows, hsl, hps⟩
    have e : cntD (k + 1) ⟨t, cs, id, loc, how, body, parts⟩ = cntsD k 1 parts := by rw [cntD]
    rw [e]
    obtain ⟨R, hR⟩ : ∃ R, cntsD k 1 parts = R := ⟨_, rfl⟩
    rw [hR]
    have HR := Lib.hid hR
    have Hih := Lib.hid ih
    have hd3 : depth ≤ 3 := by omega
    have Hd := Lib.hid hd
    have hn2 : n2 ≤ 9223372036854775807 := by unfold maxLen at hcm; omega
    clear hsl hps e hR ih hd hcm
    go_enter Tryz.func133, Tryz.ntmps133
    go_wp2_with fail
    go_loopw [6, 16] (CntRel k n2 parts R w) (fun _ iv _ => n2 - (intOf iv).toNat)
    case atStart => exact ⟨0, 1, rfl, rfl, by omega, by omega, HR.out, (Below.refl _ w).alloc (Nat.le_refl _) _⟩
    case round =>
      clear HR
      obtain ⟨i, m, rfl, rfl, hi, hm, hE, hbel⟩ := hrel
      by_cases hin : i < n2
      · have hPr := hP.below hbel
        obtain ⟨b, off, q, A', n', c', A2', n2', c2', rfl, hbS, hq, hqa, x0, x1, x2, x3, x4, x5, x6⟩ := hPr.cells7 hin
        have Hq := Lib.hid hq
        clear hq hPr hP
        go_wp2_with fail
        have hqa2 := (hqa.below ((Below.refl w.heap.size wr).alloc hbel.size (.cells #[str q.type, str q.cs, str q.id, str q.loc, .int .i64 q.how, .slice A' n' c', .slice A2' n2' c2'] 25))).more (C := (wr.alloc (.cells #[str q.type, str q.cs, str q.id, str q.loc, .int .i64 q.how, .slice A' n' c', .slice A2' n2' c2'] 25)).heap.size) (by have := hbel.size; simp; omega)
        have hb0 := hbel.alloc hbel.size (.cells #[str q.type, str q.cs, str q.id, str q.loc, .int .i64 q.how, .slice A' n' c', .slice A2' n2' c2'] 25)
        have hc12 := cntD_le k q
        have hE2 : Hid (cntNext k m (parts.drop (i + 1)) (cntD k q) = R) := by
          show _ = R
          rw [← hE.out, Hq.out, cntsD_cons]
        have hcl := Hih.out q _ (depth + 1) _ (by have := Hd.out; omega) (by omega) hqa2
        generalize cntD k q = o at hcl hc12 hE2
        clear x0 x1 x2 x3 x4 x5 x6 hqa hqa2
        cases o with
        | none =>
          obtain rfl : none = R := hE2.out
          simp only [cntVal] at hcl
          refine hcl.mono ?_
          clear hcl hE hE2 hc12
          rintro e w1 ⟨rfl, hb1⟩
          have hbel1 := hb0.trans (hb1.mono hb0.size)
          go_wp2_with fail
          go_ret2
          exact ⟨rfl, hbel1⟩
        | some c =>
          obtain ⟨hc1, hc2⟩ := hc12 c rfl
          simp only [cntVal] at hcl
          by_cases h12 : 12 < m + c
          · obtain rfl : none = R := by have := hE2.out; simp only [cntNext] at this; rw [if_pos h12] at this; exact this
            have d1 : decide ((12 : Int) < (m : Int) + c) = true := by simp; omega
            refine hcl.mono ?_
            clear hcl hE hE2 hc12
            rintro e w1 ⟨rfl, hb1⟩
            have hbel1 := hb0.trans (hb1.mono hb0.size)
            go_wp2_with fail
            go_ret2
            exact ⟨rfl, hbel1⟩
          · have hE3 : Hid (cntsD k (m + c) (parts.drop (i + 1)) = R) := by have := hE2.out; simp only [cntNext] at this; rw [if_neg h12] at this; exact this
            have d1 : decide ((12 : Int) < (m : Int) + c) = false := by simp; omega
            refine hcl.mono ?_
            clear hcl hE hE2 hc12
            rintro e w1 ⟨rfl, hb1⟩
            have hbel1 := hb0.trans (hb1.mono hb0.size)
            go_wp2_with fail
            exact ⟨⟨i + 1, m + c, by go_num, by go_num, by omega, by omega, hE3, hbel1⟩, by simp [intOf]; omega⟩
      · have hR : some m = R := by rw [← hE.out, List.drop_of_length_le (by rw [hP.len]; omega), cntsD]
        subst hR
        clear hE
        go_wp2_with fail
        go_ret2
        exact ⟨rfl, hbel⟩
end Go.Proofs.YtlbdnohnngkapaaGreatDoor

namespace Go.Proofs.YtlbdnohnngkapaaGreatDoor
open Go.RowKit

theorem catInfoPart : (Tryz.prog.info? 25).map (fun i => (i.zero, i.size, i.bytes)) = some (some (Value.agg #[.string ⟨#[]⟩, .string ⟨#[]⟩, .string ⟨#[]⟩, .string ⟨#[]⟩, .int .i64 0, .slice none 0 0, .slice none 0 0]), 7, 120) := by kernel_rfl
set_option maxRecDepth 100000 in
theorem upto_Part (w : World) (A : Option Addr) (n c : Nat) (ki : IntKind) (k : Int) (h0 : 0 ≤ k) (h1 : k ≤ n) (hc : n ≤ c) :
    (Instr.slice 23 (.slice A n c) none (some (.int ki k)) none).run Tryz.prog w = .ok (.slice (cutA A c 0 7) k.toNat c) w :=
  run_upto w _ _ 7 Tryz.underlying23 (Tryz.sizeOf25 w) A n c ki k h0 h1 hc
attribute [local go_sem high] upto_Part
def GrowResPart (w : World) (e : Ending) (w' : World) : Prop := ∃ S c, e = .returned (.slice S 0 c) ∧ w'.ownsRow w.heap.size 25 7 (.slice S 0 c) 0 [] ∧ Below w.heap.size w w'
set_option maxRecDepth 100000 in
set_option maxHeartbeats 1000000 in
theorem Grow_Part (k : Nat) (w : World) (hk : k ≤ 1000000000) : Calls Tryz.prog 224 #[.slice none 0 0, .int .i64 (k : Nat)] w (GrowResPart w) := by
  obtain ⟨i0, hi, hz0, hz1, hz2⟩ := info_parts catInfoPart
  rcases Nat.eq_zero_or_pos k with rfl | h0
  · go_enter Tryz.func224, Tryz.ntmps224
    go_wp2_with fail
    go_ret
    exact ⟨none, 0, rfl, World.ownsRow_nil _ _ _ _, Below.refl _ _⟩
  · have happ := fun ty => Lib.run_append_nil_zeros (P := Tryz.prog) w 23 3 ty 25 i0 (Value.agg #[.string ⟨#[]⟩, .string ⟨#[]⟩, .string ⟨#[]⟩, .string ⟨#[]⟩, .int .i64 0, .slice none 0 0, .slice none 0 0]) .i64 .i64 Tryz.underlying23 Tryz.underlying3 hi hz0 k h0 (by omega) (by omega) (by rw [hz2]; omega)
    have hcapge := grownCap_ge w k 0 25
    have hcaple := grownCap_le_maxLen w k 0 25 (by unfold maxLen; omega)
    generalize grownCap w k 0 25 = cap at happ hcapge hcaple
    generalize hZ : (Builtin.zeroCells (Value.agg #[.string ⟨#[]⟩, .string ⟨#[]⟩, .string ⟨#[]⟩, .string ⟨#[]⟩, .int .i64 0, .slice none 0 0, .slice none 0 0]).cells k ++ Builtin.zeroCells (Value.agg #[.string ⟨#[]⟩, .string ⟨#[]⟩, .string ⟨#[]⟩, .string ⟨#[]⟩, .int .i64 0, .slice none 0 0, .slice none 0 0]).cells (cap - k)) = Z at happ
    have hZs : Hid (Z.size = cap * 7) := by show _ = _; rw [← hZ]; simp [size_zeroCells, Value.cells]; omega
    have Hcl := Lib.hid hcaple
    clear hZ hcaple
    go_enter Tryz.func224, Tryz.ntmps224
    go_wp2_with (at_builtin; refine Lib.wpList_append_run _ rfl _ _ _ _ rfl _ _ rfl rfl _ _ (happ _) ?_)
    go_ret
    refine ⟨some ⟨w.heap.size, 0, none⟩, cap, ?_, ⟨rfl, .inr ⟨w.heap.size, cap, Z, rfl, Nat.le_refl _, heap_alloc_new w.drew _, Nat.zero_le _, Hcl.out, hZs.out, by simp⟩⟩, ((Below.refl _ w).drew).alloc (Nat.le_refl _) _⟩
    simp [cutA, Addr.add]

def CatRel1Part (n1 n2 : Nat) (w0 : World) (sv iv : Value) (wr : World) : Prop :=
  ((iv = .int .i64 0 ∧ sv = .int .i64 0) ∨ (iv = .int .i64 1 ∧ sv = .int .i64 (n1 : Nat)) ∨ (iv = .int .i64 2 ∧ sv = .int .i64 ((n1 + n2 : Nat) : Int))) ∧ wr = w0
def CatRel2Part (n1 n2 : Nat) (xs ys : List Value) (w0 : World) (nv iv : Value) (wr : World) : Prop :=
  ∃ S m c zs, nv = .slice S m c ∧ wr.ownsRow w0.heap.size 25 7 (.slice S m c) m zs ∧ Below w0.heap.size w0 wr ∧
    ((iv = .int .i64 0 ∧ m = 0 ∧ zs = []) ∨ (iv = .int .i64 1 ∧ m = n1 ∧ zs = xs) ∨ (iv = .int .i64 2 ∧ m = n1 + n2 ∧ zs = xs ++ ys))
def CatResPart (xs : List Value) (n : Nat) (w : World) (e : Ending) (w' : World) : Prop := ∃ S c, e = .returned (.slice S n c) ∧ w'.ownsRow w.heap.size 25 7 (.slice S n c) n xs ∧ Below w.heap.size w w'
set_option maxRecDepth 100000 in
set_option maxHeartbeats 1000000 in
theorem Concat_Part (A A1 A2 : Option Addr) (c n1 c1 n2 c2 : Nat) (xs ys : List Value) (w : World) (hA : Sl w w.heap.size 1 A 2 [.slice A1 n1 c1, .slice A2 n2 c2]) (hx : Sl w w.heap.size 7 A1 n1 xs) (hy : Sl w w.heap.size 7 A2 n2 ys)
    (h1x : ∀ u ∈ xs, u.oneCell' = true) (h1y : ∀ u ∈ ys, u.oneCell' = true) (hn : n1 + n2 ≤ 1000000000) :
    Calls Tryz.prog 140 #[.slice A 2 c] w (CatResPart (xs ++ ys) (n1 + n2) w) := by
  obtain ⟨i0, hi, hz0, hz1, hz2⟩ := info_parts catInfoPart
  obtain ⟨b, off, rfl, hbl, hc⟩ := hA.2 (by omega)
  have x0 : w.cell? ⟨b, off, none⟩ = some (.slice A1 n1 c1) := hc 0 _ rfl
  have x1 : w.cell? ⟨b, off + 1, none⟩ = some (.slice A2 n2 c2) := hc 1 _ rfl
  have H1x := Lib.hid h1x
  have H1y := Lib.hid h1y
  clear hc hA h1x h1y
  go_enter Tryz.func140, Tryz.ntmps140
  go_wp2_with fail
  go_loopw [3, 11] (CatRel1Part n1 n2 w) (fun _ iv _ => 2 - (intOf iv).toNat)
  case atStart => exact ⟨.inl ⟨rfl, rfl⟩, rfl⟩
  case round =>
    obtain ⟨h, rfl⟩ := hrel
    rcases h with ⟨rfl, rfl⟩ | ⟨rfl, rfl⟩ | ⟨rfl, rfl⟩
    · go_wp2_with fail
      exact ⟨⟨.inr (.inl ⟨rfl, by go_num⟩), rfl⟩, by simp [intOf]⟩
    · go_wp2_with fail
      exact ⟨⟨.inr (.inr ⟨rfl, by go_num⟩), rfl⟩, by simp [intOf]⟩
    · obtain ⟨w, rfl⟩ : ∃ x : World, x = wr := ⟨_, rfl⟩
      go_wp2_with fail
      refine (Grow_Part (n1 + n2) _ hn).mono ?_
      rintro e w1 ⟨S, cs, rfl, hown, hb1⟩
      have y0 := (hb1.cell (p := ⟨b, off, none⟩) hbl).trans x0
      have y1 := (hb1.cell (p := ⟨b, off + 1, none⟩) hbl).trans x1
      clear x0 x1
      go_wp2_with fail
      go_loopw [6, 27] (CatRel2Part n1 n2 xs ys w) (fun _ iv _ => 2 - (intOf iv).toNat)
      case atStart => exact ⟨S, 0, cs, [], rfl, hown, hb1, .inl ⟨rfl, rfl, rfl⟩⟩
      case round =>
        clear hown
        obtain ⟨S, m, cs, zs, rfl, hown, hbel, h⟩ := hrel
        have z0 := (hbel.cell (p := ⟨b, off, none⟩) hbl).trans ((hb1.cell (p := ⟨b, off, none⟩) hbl).symm.trans y0)
        have z1 := (hbel.cell (p := ⟨b, off + 1, none⟩) hbl).trans ((hb1.cell (p := ⟨b, off + 1, none⟩) hbl).symm.trans y1)
        clear y0 y1 hb1
        rcases h with ⟨rfl, rfl, rfl⟩ | ⟨rfl, rfl, rfl⟩ | ⟨rfl, rfl, rfl⟩
        · have hxr := hx.below hbel
          have h63 : 0 + n1 ≤ maxLen := by unfold maxLen; omega
          have h47 : (0 + n1) * 120 ≤ 140737488355328 := by omega
          go_wp2_with (at_builtin; refine wpList_app rfl _ _ 23 rfl w.heap.size 25 i0 (Value.agg #[.string ⟨#[]⟩, .string ⟨#[]⟩, .string ⟨#[]⟩, .string ⟨#[]⟩, .int .i64 0, .slice none 0 0, .slice none 0 0]) 7 120 Tryz.underlying23 hi hz0 hz1 hz2 rfl (by decide) S 0 cs [] rfl hown _ _ n1 c1 xs rfl hxr H1x.out h63 h47 hbel.size ?_)
          intro S' c' w4 hown4 hb4 _
          try simp only [Nat.zero_add, List.nil_append] at hown4
          go_wp2_with fail
          exact ⟨⟨S', n1, c', xs, by simp, hown4, hbel.trans hb4, .inr (.inl ⟨rfl, rfl, rfl⟩)⟩, by simp [intOf]⟩
        · have hyr := hy.below hbel
          have h63 : m + n2 ≤ maxLen := by unfold maxLen; omega
          have h47 : (m + n2) * 120 ≤ 140737488355328 := by omega
          go_wp2_with (at_builtin; refine wpList_app rfl _ _ 23 rfl w.heap.size 25 i0 (Value.agg #[.string ⟨#[]⟩, .string ⟨#[]⟩, .string ⟨#[]⟩, .string ⟨#[]⟩, .int .i64 0, .slice none 0 0, .slice none 0 0]) 7 120 Tryz.underlying23 hi hz0 hz1 hz2 rfl (by decide) S m cs zs rfl hown _ _ n2 c2 ys rfl hyr H1y.out h63 h47 hbel.size ?_)
          intro S' c' w4 hown4 hb4 _
          go_wp2_with fail
          exact ⟨⟨S', m + n2, c', zs ++ ys, rfl, hown4, hbel.trans hb4, .inr (.inr ⟨rfl, rfl, rfl⟩)⟩, by simp [intOf]⟩
        · go_wp2_with fail
          go_ret
          exact ⟨S, cs, rfl, hown, hbel⟩
end Go.Proofs.YtlbdnohnngkapaaGreatDoor

namespace Go.Proofs.YtlbdnohnngkapaaGreatDoor
open Go.RowKit

theorem check_at {S : Nat → Prop} {W : World} (p : PartD) (v : List Value) (h : PartAt S W p v) (w : World) :
    Calls Tryz.prog 134 #[.agg v.toArray] w fun e w' => e = .returned (.int .i64 (chkD p : Nat)) ∧ Below w.heap.size w w' := by
  obtain ⟨A, c, A2, c2, rfl, ⟨h1, h2, h3, h4, h5, h6⟩, _, h7, h8, _, h9, h10⟩ := h.open
  exact check_raw p.type p.cs p.id p.loc p.how A A2 _ c _ c2 w h1 h2 h3 h4 h5 h6 (Nat.le_trans h7 h8) (Nat.le_trans h9 h10)

/-- A slice of parts in new memory, that lead into blocks below B. -/
def AllRes (B : Nat) (ps : List PartD) (w : World) (e : Ending) (w' : World) : Prop :=
  ∃ S c rows, e = .returned (.slice S ps.length c) ∧ w'.ownsRow w.heap.size 25 7 (.slice S ps.length c) ps.length rows.flatten ∧ PartsAt (· < B) w' ps rows ∧ Below w.heap.size w w'
def AllRel (B : Nat) (parts all : List PartD) (n2 : Nat) (w0 : World) (lv iv : Value) (wr : World) : Prop :=
  ∃ i m c S done rows, lv = .slice S m c ∧ iv = .int .i64 (i : Nat) ∧ i ≤ n2 ∧ wr.ownsRow w0.heap.size 25 7 (.slice S m c) m rows.flatten ∧ PartsAt (· < B) wr done rows ∧
    Hid (done ++ flatsD (parts.drop i) = all ∧ done.length = m) ∧ 1 ≤ m ∧ Below w0.heap.size w0 wr
set_option maxRecDepth 100000 in
set_option maxHeartbeats 2000000 in
theorem all_any (k : Nat) : ∀ (p : PartD) (v : List Value) (B : Nat) (w : World), (flatD p).length ≤ k → k ≤ 1000 → B ≤ w.heap.size → PartAt (· < B) w p v →
    Calls Tryz.prog 103 #[.agg v.toArray] w (AllRes B (flatD p) w) := by
  obtain ⟨i0, hi0, hz0, hz1, hz2⟩ := info_parts catInfoPart
  induction k with
  | zero => intro p v B w h; rw [flatD_eq] at h; simp at h
  | succ k ih =>
    intro p v B w hk hk1 hB hp
    obtain ⟨A, c, A2, c2, rfl, _, _, _, _, hP, hc2, hcm⟩ := hp.open
    have hall := flatD_eq p
    have hrow : PartsAt (· < B) w [p] [[str p.type, str p.cs, str p.id, str p.loc, .int .i64 p.how, .slice A p.body.length c, .slice A2 p.parts.length c2]] := ⟨_, _, rfl, hp, rfl⟩
    obtain ⟨n2, hn2⟩ : ∃ n2, n2 = p.parts.length := ⟨_, rfl⟩
    rw [← hn2] at hP hrow hc2 ⊢
    obtain ⟨L, hL⟩ : ∃ L, L = flatD p := ⟨_, rfl⟩
    rw [← hL] at hall hk ⊢
    have hn2m : n2 ≤ 9223372036854775807 := by unfold maxLen at hcm; omega
    have Hall := Lib.hid hall
    have Hn2 := Lib.hid hn2
    have Hih := Lib.hid ih
    have hk1000 : L.length ≤ 1000 := by omega
    have Hk := Lib.hid hk
    clear hall hL hn2 ih hk hcm hp
    go_enter Tryz.func103, Tryz.ntmps103
    go_wp2_with fail
    go_loopw [3, 11] (AllRel B p.parts L n2 w) (fun _ iv _ => n2 - (intOf iv).toNat)
    case atStart =>
      have hbn : Below w.heap.size w ((w.alloc (.cells #[str p.type, str p.cs, str p.id, str p.loc, .int .i64 p.how, .slice A p.body.length c, .slice A2 n2 c2] 25)).alloc (.cells #[str p.type, str p.cs, str p.id, str p.loc, .int .i64 p.how, .slice A p.body.length c, .slice A2 n2 c2] 25)) := ((Below.refl _ w).alloc (Nat.le_refl _) _).alloc (by simp) _
      refine ⟨0, 1, 1, some ⟨w.heap.size + 1, 0, none⟩, [p], _, rfl, rfl, Nat.zero_le _, ?_, PartsAt.change (fun _ h => h) (fun a ha => hbn.cell (Nat.lt_of_lt_of_le ha hB)) _ _ hrow, ⟨Hall.out.symm, rfl⟩, Nat.le_refl _, hbn⟩
      exact ⟨rfl, .inr ⟨w.heap.size + 1, 1, _, rfl, Nat.le_succ _, by have := heap_alloc_new (w.alloc (.cells #[str p.type, str p.cs, str p.id, str p.loc, .int .i64 p.how, .slice A p.body.length c, .slice A2 n2 c2] 25)) (.cells #[str p.type, str p.cs, str p.id, str p.loc, .int .i64 p.how, .slice A p.body.length c, .slice A2 n2 c2] 25); simpa using this, Nat.le_refl _, by unfold maxLen; omega, rfl, rfl⟩⟩
    case round =>
      obtain ⟨i, m, cl, S, done, rows, rfl, rfl, hi, hown, hrows, hE, hm1, hbel⟩ := hrel
      by_cases hin : i < n2
      · have hPr := hP.belowN hbel hB
        obtain ⟨b, off, q, A', n', c', A2', n2', c2', rfl, hbS, hq, hqa, x0, x1, x2, x3, x4, x5, x6⟩ := hPr.cells7 hin
        have hE1 := hE.out.1
        rw [hq, flatsD] at hE1
        have hlq : (flatD q).length ≤ k ∧ m + (flatD q).length ≤ 1000 := by
          have h1 := congrArg List.length hE1
          have h2 := Hk.out
          have h3 := hE.out.2
          simp only [List.length_append] at h1
          omega
        obtain ⟨W, hW⟩ : ∃ W, W = wr.alloc (.cells #[str q.type, str q.cs, str q.id, str q.loc, .int .i64 q.how, .slice A' n' c', .slice A2' n2' c2'] 25) := ⟨_, rfl⟩
        have hbW : Below wr.heap.size wr W := by rw [hW]; exact (Below.refl _ wr).alloc (Nat.le_refl _) _
        have hbelW := hbel.trans (hbW.mono hbel.size)
        have hqa2 : PartAt (· < B) W q [str q.type, str q.cs, str q.id, str q.loc, .int .i64 q.how, .slice A' n' c', .slice A2' n2' c2'] := hqa.belowN hbW (Nat.le_trans hB hbel.size)
        have hcl := Hih.out q _ B W hlq.1 (by omega) (Nat.le_trans hB hbelW.size) hqa2
        have hownW := own_below hown hbW
        have hrowsW := PartsAt.change (fun _ h => h) (fun a ha => hbW.cell (Nat.lt_of_lt_of_le ha (Nat.le_trans hB hbel.size))) _ _ hrows
        have hE2 : Hid ((done ++ flatD q) ++ flatsD (p.parts.drop (i + 1)) = L ∧ (done ++ flatD q).length = m + (flatD q).length) := ⟨by rw [List.append_assoc]; exact hE1, by rw [List.length_append, hE.out.2]⟩
        generalize flatD q = F at hcl hE2 hlq
        have Hcl := Lib.hid hcl
        clear hE hE1 hq hqa hqa2 hcl hPr hown hrows hbW hbel
        go_wp2_with fail
        rw [← hW]
        clear hW x0 x1 x2 x3 x4 x5 x6
        refine Hcl.out.mono ?_
        rintro e w1 ⟨S2, c2, rows2, rfl, hown2, hrows2, hb1⟩
        have hown1 := own_below hownW hb1
        have hrows1 := PartsAt.change (fun _ h => h) (fun a ha => hb1.cell (Nat.lt_of_lt_of_le ha (Nat.le_trans hB hbelW.size))) _ _ hrowsW
        have hbel1 := hbelW.trans (hb1.mono hbelW.size)
        have hone := PartsAt.one _ _ hrows2
        have hsl := Sl.of_own hown2
        have h63 : m + F.length ≤ maxLen := by unfold maxLen; omega
        have h47 : (m + F.length) * 120 ≤ 140737488355328 := by omega
        clear hownW hrowsW hown2 hb1 hbelW Hcl
        go_wp2_with (at_builtin; refine wpList_app rfl _ _ 23 rfl w.heap.size 25 i0 (Value.agg #[.string ⟨#[]⟩, .string ⟨#[]⟩, .string ⟨#[]⟩, .string ⟨#[]⟩, .int .i64 0, .slice none 0 0, .slice none 0 0]) 7 120 Tryz.underlying23 hi0 hz0 hz1 hz2 rfl (by decide) S m cl rows.flatten rfl hown1 _ S2 F.length c2 rows2.flatten rfl hsl hone h63 h47 hbel1.size ?_)
        intro S' c' w4 hown4 hb4 _
        have hbel4 := hbel1.trans hb4
        have hr1 := PartsAt.change (fun _ h => h) (fun a ha => hb4.cell (Nat.lt_of_lt_of_le ha hB)) _ _ hrows1
        have hr2 := PartsAt.change (fun _ h => h) (fun a ha => hb4.cell (Nat.lt_of_lt_of_le ha hB)) _ _ hrows2
        clear hrows1 hrows2
        go_wp2_with fail
        exact ⟨⟨i + 1, m + F.length, c', S', done ++ F, rows ++ rows2, rfl, by go_num, by omega, by rw [List.flatten_append]; exact hown4, PartsAt.app _ _ _ _ hr1 hr2, hE2, by omega, hbel4⟩, by simp [intOf]; omega⟩
      · have hE1 : Hid (done = L ∧ L.length = m) := by
          have h1 := hE.out.1
          rw [List.drop_of_length_le (by rw [hP.len]; omega), flatsD, List.append_nil] at h1
          exact ⟨h1, by rw [← h1]; exact hE.out.2⟩
        clear hE
        go_wp2_with fail
        go_ret
        obtain ⟨rfl, rfl⟩ := hE1.out
        exact ⟨S, cl, rows, rfl, hown, hrows, hbel⟩
theorem AllRes.slp {B : Nat} {ps : List PartD} {w w' : World} {S : Option Addr} {c : Nat} {rows : List (List Value)} (hown : w'.ownsRow w.heap.size 25 7 (.slice S ps.length c) ps.length rows.flatten) (hr : PartsAt (· < B) w' ps rows) (hB : B ≤ w'.heap.size) :
    SlP (· < w'.heap.size) w' S ps.length ps := ⟨rows, Sl.of_own hown, PartsAt.change (fun _ h => Nat.lt_of_lt_of_le h hB) (fun _ _ => rfl) _ _ hr⟩
def ChkRel (L : List PartD) (R : Nat) (_w0 w1 : World) (iv : Value) (wr : World) : Prop :=
  ∃ i : Nat, iv = .int .i64 (i : Nat) ∧ i ≤ L.length ∧ Hid (firstErr (L.drop i) = R) ∧ Below w1.heap.size w1 wr
set_option maxRecDepth 100000 in
set_option maxHeartbeats 2000000 in
theorem PCheck_any (p : PartD) (v : List Value) (w : World) (hp : PartAt (· < w.heap.size) w p v) :
    Calls Tryz.prog 60 #[.agg v.toArray] w fun e w' => e = .returned (.int .i64 (checkD p : Nat)) ∧ Below w.heap.size w w' := by
  have hfl := fun c => cntD_flat 3 p c
  have hcle := fun c => cntD_le 3 p c
  have hck1 := checkD_none p
  have hck2 := fun c => checkD_some p c
  obtain ⟨A, c, A2, c2, rfl, _⟩ := hp.open
  obtain ⟨W, hW⟩ : ∃ W, W = w.alloc (.cells #[str p.type, str p.cs, str p.id, str p.loc, .int .i64 p.how, .slice A p.body.length c, .slice A2 p.parts.length c2] 25) := ⟨_, rfl⟩
  have hbW : Below w.heap.size w W := by rw [hW]; exact (Below.refl _ w).alloc (Nat.le_refl _) _
  have hbx : Box7 W w.heap.size (str p.type) (str p.cs) (str p.id) (str p.loc) (.int .i64 p.how) (.slice A p.body.length c) (.slice A2 p.parts.length c2) := by rw [hW]; exact Box7.new w _ _ _ _ _ _ _ _
  have hpW := hp.below hbW
  have hct := count_any 3 p _ 1 W (by omega) (by omega) (hpW.more hbW.size)
  obtain ⟨n2, hn2⟩ : ∃ n2, n2 = p.parts.length := ⟨_, rfl⟩
  obtain ⟨n1, hn1⟩ : ∃ n1, n1 = p.body.length := ⟨_, rfl⟩
  have Hp := Lib.hid hp
  have HpW := Lib.hid hpW
  have HW := Lib.hid hW
  generalize checkD p = R at hck1 hck2 ⊢
  generalize cntD 3 p = o at hct hfl hcle hck1 hck2
  cases o with
  | none =>
    obtain rfl : R = 2 := hck1 rfl
    simp only [cntVal] at hct
    clear hck1 hck2 hfl hcle hp hpW hn1 hn2
    go_enter Tryz.func60, Tryz.ntmps60
    go_wp2_with fail
    rw [← hW]
    clear hW
    refine hct.mono ?_
    clear hct
    rintro e w1 ⟨rfl, hb1⟩
    go_wp2_with fail
    go_ret
    exact ⟨rfl, hbW.trans (hb1.mono hbW.size)⟩
  | some c0 =>
    have h1 := hck2 c0 rfl
    have h2 := hfl c0 rfl
    have h3 := hcle c0 rfl
    obtain ⟨h31, h32⟩ := h3
    simp only [cntVal] at hct
    obtain ⟨L, hL⟩ : ∃ L, L = flatD p := ⟨_, rfl⟩
    rw [← hL] at h1 h2
    have HR := Lib.hid h1
    have HL := Lib.hid hL
    have HLc := Lib.hid h2
    have hlen : L.length ≤ 12 := by omega
    have Hct := Lib.hid hct
    clear hck1 hck2 hfl hcle hp hpW hn1 hn2 h1 h2 hL hct
    go_enter Tryz.func60, Tryz.ntmps60
    go_wp2_with fail
    rw [← hW]
    clear hW
    refine Hct.out.mono ?_
    clear Hct
    rintro e w1 ⟨rfl, hb1⟩
    have hbx1 := hbx.below hb1
    have hbel1 := hbW.trans (hb1.mono hbW.size)
    have hp1 := Hp.out.below hbel1
    have hal := all_any 12 p _ w.heap.size w1 (by rw [← HL.out]; exact hlen) (by omega) hbel1.size hp1
    rw [← HL.out] at hal
    have Hal := Lib.hid hal
    have ⟨x0, x1, x2, x3, x4, x5, x6⟩ := hbx1
    clear hbx hbx1 hp1 hal hb1 hbW
    go_wp2_with fail
    refine Hal.out.mono ?_
    clear Hal x0 x1 x2 x3 x4 x5 x6
    rintro e w2 ⟨S, c3, rows, rfl, hown, hrows, hb2⟩
    have hbel2 := hbel1.trans (hb2.mono hbel1.size)
    have hP := AllRes.slp hown hrows hbel2.size
    clear hown hrows
    go_wp2_with fail
    go_loopw [18] (ChkRel L R w w2) (fun iv _ => L.length - (intOf iv).toNat)
    case atStart => exact ⟨0, rfl, Nat.zero_le _, HR.out.symm, Below.refl _ _⟩
    case round =>
      obtain ⟨i, rfl, hi, hE, hbel⟩ := hrel
      by_cases hin : i < L.length
      · have hPr := hP.below hbel
        obtain ⟨b, off, q, A', n', c', A2', n2', c2', rfl, hbS, hq, hqa, x0, x1, x2, x3, x4, x5, x6⟩ := hPr.cells7 hin
        have hck := fun W => check_at q _ hqa W
        have hE2 : Hid (R = if chkD q = 0 then firstErr (L.drop (i + 1)) else chkD q) := by show R = _; rw [← hE.out, hq, firstErr]
        generalize chkD q = e at hck hE2
        have Hck := Lib.hid hck
        have hbA := hbel.alloc hbel.size (.cells #[str q.type, str q.cs, str q.id, str q.loc, .int .i64 q.how, .slice A' n' c', .slice A2' n2' c2'] 25)
        clear hck hqa hq hPr hE
        go_wp2_with fail
        refine (Hck.out _).mono ?_
        rintro e1 w3 ⟨rfl, hb3⟩
        have hbel3 := hbA.trans (hb3.mono hbA.size)
        clear Hck x0 x1 x2 x3 x4 x5 x6 hbA hb3
        by_cases he : e = 0
        · subst he
          have hE3 : Hid (firstErr (L.drop (i + 1)) = R) := by have := hE2.out; rw [if_pos rfl] at this; exact this.symm
          clear hE2
          go_wp2_with fail
          exact ⟨⟨i + 1, by go_num, by omega, hE3, hbel3⟩, by simp [intOf]; omega⟩
        · obtain rfl : R = e := by have := hE2.out; rw [if_neg he] at this; exact this
          have he1 : ((R : Int) != 0) = true := by simp; omega
          clear hE2 he
          go_wp2_with fail
          go_ret
          exact ⟨rfl, hbel2.trans (hbel3.mono hbel2.size)⟩
      · obtain rfl : 0 = R := by rw [← hE.out, List.drop_of_length_le (by omega)]; rfl
        clear hE
        go_wp2_with fail
        go_ret
        exact ⟨rfl, hbel2.trans (hbel.mono hbel2.size)⟩
end Go.Proofs.YtlbdnohnngkapaaGreatDoor
