import Derived.Test.YtlbdnohnngkapaaGreatDoorU1
import Derived.Lib.IndexMore
import Derived.Lib.LastIndexByte
import Derived.Lib.SlTrimSet
import Derived.Lib.Fold
import Derived.Lib.Case
import Derived.KernelRfl
namespace Go.Proofs.YtlbdnohnngkapaaGreatDoor

/-! ### An address, as data; what package url computes -/
structure UrlD where
  scheme : List UInt8
  hasHost : Bool
  host : List UInt8
  path : List UInt8
  hasQuery : Bool
  query : List UInt8
  hasFrag : Bool
  frag : List UInt8
def UrlD.cells (u : UrlD) : List Value := [str u.scheme, .bool u.hasHost, str u.host, str u.path, .bool u.hasQuery, str u.query, .bool u.hasFrag, str u.frag]
def UrlD.val (u : UrlD) : Value := .agg #[str u.scheme, .bool u.hasHost, str u.host, str u.path, .bool u.hasQuery, str u.query, .bool u.hasFrag, str u.frag]
def noU : List UInt8 := [34, 60, 62, 92, 94, 96, 123, 124, 125]
def charU (x : Nat) : Bool := decide (32 < x) && decide (x ≤ 126) && decide (Lib.indexByte noU (UInt8.ofNat x) < 0)
def badU (but : List UInt8) (x : Nat) : Bool := !charU x || decide (0 ≤ Lib.indexByte but (UInt8.ofNat x))
def wordU (s but : List UInt8) : Bool := !s.any (fun b => badU but b.toNat)
def schC (x : Nat) : Bool := (decide (97 ≤ x) && decide (x ≤ 122)) || (decide (48 ≤ x) && decide (x ≤ 57)) || x == 43 || x == 45 || x == 46
def schA (x : Nat) : Bool := decide (97 ≤ x) && decide (x ≤ 122)
def schemeU : List UInt8 → Bool
  | [] => true
  | c :: r => schA c.toNat && r.all (fun b => schC b.toNat)
theorem lowC_scheme (s : List UInt8) : schemeU s = (s.all (fun b => schC b.toNat) && (s == [] || schA (nth s 0))) := by
  cases s with
  | nil => rfl
  | cons c r =>
    show (schA c.toNat && r.all _) = ((schC c.toNat && r.all _) && (false || schA c.toNat))
    cases h : schA c.toNat with
    | false => simp
    | true =>
      have : schC c.toNat = true := by unfold schA at h; unfold schC; simp only [h, Bool.true_or]
      simp [this]
/-- url.text. -/
def textU (u : UrlD) : List UInt8 :=
  (if u.scheme = [] then [] else u.scheme ++ [58]) ++ (if u.hasHost then [47, 47] ++ u.host else []) ++ u.path ++ (if u.hasQuery then 63 :: u.query else []) ++ (if u.hasFrag then 35 :: u.frag else [])
def okU (u : UrlD) : Bool := schemeU u.scheme && (wordU u.host [47, 63, 35] && ((u.host == lowL u.host) && (wordU u.path [63, 35] && (wordU u.query [35] && wordU u.frag [35]))))
def formA (u : UrlD) : Bool := (!u.hasHost && !(u.host == [])) || (!u.hasQuery && !(u.query == [])) || (!u.hasFrag && !(u.frag == []))
def formB (u : UrlD) : Bool := if u.hasHost then !(u.path == []) && !(nth u.path 0 == 47) else Lib.hasPrefix u.path [47, 47] || ((u.scheme == []) && decide (0 ≤ Lib.indexByte (Lib.cut u.path [47]).1 58))
/-- url.Check behind its first test. -/
def chkU (u : UrlD) : Nat := if okU u = false then 1 else if formA u || formB u then 4 else if 120 < (textU u).length then 2 else 0
def longU (u : UrlD) : Bool := decide (120 < u.scheme.length) || decide (120 < u.host.length) || decide (120 < u.path.length) || decide (120 < u.query.length) || decide (120 < u.frag.length)
/-- url.Check. -/
def checkU (u : UrlD) : Nat := if longU u then 2 else chkU u
def zeroU : UrlD := ⟨[], false, [], [], false, [], false, []⟩
def stopCS (b : UInt8) : Bool := b != 58 && b != 47
/-- The scheme, and what is behind it. -/
def schemeP (s : List UInt8) : Option (List UInt8 × List UInt8) :=
  if (s.dropWhile stopCS).head? = some 58 then
    (if (s.takeWhile stopCS) = [] ∨ schemeU (lowL (s.takeWhile stopCS)) = false then none else some (lowL (s.takeWhile stopCS), (s.dropWhile stopCS).tail))
  else some ([], s)
def not47 (b : UInt8) : Bool := b != 47
def hostP (s : List UInt8) : Bool × List UInt8 × List UInt8 :=
  if Lib.hasPrefix s [47, 47] then (true, lowL ((s.drop 2).takeWhile not47), (s.drop 2).dropWhile not47) else (false, [], s)
def partsU (s : List UInt8) : Option UrlD :=
  match schemeP (Lib.cut (Lib.cut s [35]).1 [63]).1 with
  | none => none
  | some (sc, r) => some ⟨sc, (hostP r).1, (hostP r).2.1, (hostP r).2.2, (Lib.cut (Lib.cut s [35]).1 [63]).2.2, (Lib.cut (Lib.cut s [35]).1 [63]).2.1, (Lib.cut s [35]).2.2, (Lib.cut s [35]).2.1⟩
/-- url.Parse. -/
def readU (s : List UInt8) : UrlD × Nat :=
  if 120 < s.length then (zeroU, 2) else
  match partsU s with
  | none => (zeroU, 1)
  | some u => if checkU u = 0 then (u, 0) else (zeroU, checkU u)
/-- url.Print. -/
def printU (u : UrlD) : List UInt8 × Nat := if checkU u = 0 then (textU u, 0) else ([], checkU u)

/-! ### Segments -/
def joinC (c : UInt8) : List (List UInt8) → List UInt8
  | [] => []
  | [x] => x
  | x :: y :: r => x ++ c :: joinC c (y :: r)
def consHead (b : UInt8) : List (List UInt8) → List (List UInt8)
  | [] => [[b]]
  | x :: r => (b :: x) :: r
def splitC (c : UInt8) : List UInt8 → List (List UInt8)
  | [] => [[]]
  | b :: l => if b = c then [] :: splitC c l else consHead b (splitC c l)
def isDot (s : List UInt8) : Bool := s == [46] || s == [46, 46]
def popU (out : List (List UInt8)) : List (List UInt8) := if 1 < out.length ∨ (out.length = 1 ∧ out.head? ≠ some []) then out.dropLast else out
def dotStep (last : Bool) (out : List (List UInt8)) (s : List UInt8) : List (List UInt8) :=
  if s = [46] then (if last then out ++ [[]] else out)
  else if s = [46, 46] then (if last then popU out ++ [[]] else popU out)
  else out ++ [s]
def dotsF : List (List UInt8) → List (List UInt8) → List (List UInt8)
  | [], out => out
  | s :: r, out => dotsF r (dotStep r.isEmpty out s)
def slashU (p q : List UInt8) : List UInt8 := if Lib.hasPrefix p [47] && !Lib.hasPrefix q [47] then 47 :: q else q
/-- url.dots. -/
def dotsU (p : List UInt8) : List UInt8 := if p = [] then [] else slashU p (joinC 47 (dotsF (splitC 47 p) []))
/-- url.merged. -/
def mergedU (b : UrlD) (p : List UInt8) : List UInt8 := if b.hasHost && b.path == [] then 47 :: p else b.path.take (Lib.lastIndexByte ⟨b.path.toArray⟩ 47 + 1).toNat ++ p
def ledU (b u : UrlD) : UrlD :=
  if u.scheme ≠ [] then u
  else if u.hasHost then { u with scheme := b.scheme }
  else if u.path = [] then
    (if u.hasQuery then { u with scheme := b.scheme, hasHost := b.hasHost, host := b.host, path := b.path }
     else { u with scheme := b.scheme, hasHost := b.hasHost, host := b.host, path := b.path, hasQuery := b.hasQuery, query := b.query })
  else if nth u.path 0 = 47 then { u with scheme := b.scheme, hasHost := b.hasHost, host := b.host }
  else { u with scheme := b.scheme, hasHost := b.hasHost, host := b.host, path := mergedU b u.path }
def undotU (o : UrlD) : UrlD := if o.hasHost || Lib.hasPrefix o.path [47] then { o with path := dotsU o.path } else o
def endU (o : UrlD) : UrlD × Nat := if (!o.hasHost && Lib.hasPrefix o.path [47, 47]) = true then (zeroU, 4) else if checkU o = 0 then (o, 0) else (zeroU, checkU o)
/-- url.Lead. -/
def leadU (b u : UrlD) : UrlD × Nat :=
  if checkU b ≠ 0 then (zeroU, checkU b)
  else if checkU u ≠ 0 then (zeroU, checkU u)
  else if b.scheme = [] then (zeroU, 4)
  else endU (undotU (ledU b u))

/-! ### Cuts -/
theorem indexByte_tw (l : List UInt8) (c : UInt8) : Lib.indexByte l c = if c ∈ l then ((l.takeWhile (fun b => b != c)).length : Int) else -1 := by
  induction l with
  | nil => rfl
  | cons b l ih =>
    unfold Lib.indexByte
    by_cases h : b = c
    · subst h; simp
    · have h' : c ≠ b := fun e => h e.symm
      rw [ih]
      by_cases hm : c ∈ l
      · have e2 : (((l.takeWhile (fun b => b != c)).length : Int) == -1) = false := by simp
        simp [h, hm, e2]
      · simp [h, h', hm]
theorem indexByte_neg (l : List UInt8) (c : UInt8) : Lib.indexByte l c < 0 ↔ c ∉ l := by
  rw [indexByte_tw]
  by_cases h : c ∈ l
  · rw [if_pos h]; simp [h]
  · rw [if_neg h]; simp [h]
theorem cut_tw (l : List UInt8) (c : UInt8) : Lib.cut l [c] = (l.takeWhile (fun b => b != c), (l.dropWhile (fun b => b != c)).drop 1, decide (c ∈ l)) := by
  unfold Lib.cut
  rw [Lib.index_one, indexByte_tw]
  by_cases h : c ∈ l
  · rw [if_pos h, if_pos (by omega)]
    have e := List.takeWhile_append_dropWhile (p := fun b => b != c) (l := l)
    have e1 : l.take (l.takeWhile (fun b => b != c)).length = l.takeWhile (fun b => b != c) := by
      have := congrArg (List.take (l.takeWhile (fun b => b != c)).length) e
      rw [List.take_left] at this
      exact this.symm
    have e2 : l.drop ((l.takeWhile (fun b => b != c)).length + 1) = (l.dropWhile (fun b => b != c)).drop 1 := by
      rw [← List.drop_drop]
      congr 1
      have := congrArg (List.drop (l.takeWhile (fun b => b != c)).length) e
      rw [List.drop_left] at this
      exact this.symm
    simp [h, e1, e2]
  · rw [if_neg h, if_neg (by omega)]
    have e1 : ∀ l : List UInt8, c ∉ l → l.takeWhile (fun b => b != c) = l ∧ l.dropWhile (fun b => b != c) = [] := by
      intro l
      induction l with
      | nil => simp
      | cons b l ih =>
        intro h
        simp only [List.mem_cons, not_or] at h
        have h' : b ≠ c := fun e => h.1 e.symm
        simp [h', ih h.2]
    simp [h, e1 l h]
theorem cut_app (x y : List UInt8) (c : UInt8) (h : ∀ b ∈ x, b ≠ c) : Lib.cut (x ++ c :: y) [c] = (x, y, true) := by
  rw [cut_tw, List.takeWhile_append_of_pos (by simpa using h), List.dropWhile_append_of_pos (by simpa using h)]
  simp
theorem cut_not (x : List UInt8) (c : UInt8) (h : ∀ b ∈ x, b ≠ c) : Lib.cut x [c] = (x, [], false) := by
  have e : Lib.index x [c] < 0 := by rw [Lib.index_one, indexByte_neg]; exact fun hm => h c hm rfl
  unfold Lib.cut
  rw [if_neg (by omega)]
theorem first_of (l : List UInt8) (c : UInt8) (h : c ∈ l) : ∃ x y, l = x ++ c :: y ∧ ∀ b ∈ x, b ≠ c := by
  induction l with
  | nil => cases h
  | cons a l ih =>
    by_cases e : a = c
    · subst e; exact ⟨[], l, rfl, by simp⟩
    · have hm : c ∈ l := by
        simp only [List.mem_cons] at h
        rcases h with h | h
        · exact absurd h.symm e
        · exact h
      obtain ⟨x, y, rfl, hx⟩ := ih hm
      exact ⟨a :: x, y, rfl, by intro b hb; simp only [List.mem_cons] at hb; rcases hb with rfl | hb; exact e; exact hx b hb⟩
theorem cut_back (l : List UInt8) (c : UInt8) : l = (Lib.cut l [c]).1 ++ (if (Lib.cut l [c]).2.2 then c :: (Lib.cut l [c]).2.1 else []) := by
  by_cases h : c ∈ l
  · obtain ⟨x, y, rfl, hx⟩ := first_of l c h
    rw [cut_app x y c hx]
    simp
  · rw [cut_not l c (fun b hb e => h (e ▸ hb))]
    simp
end Go.Proofs.YtlbdnohnngkapaaGreatDoor

namespace Go.Proofs.YtlbdnohnngkapaaGreatDoor

theorem ofNat_toNat8 (b : UInt8) : UInt8.ofNat b.toNat = b := by simp
theorem word_mem {s but : List UInt8} (h : wordU s but = true) : ∀ b ∈ s, charU b.toNat = true ∧ b ∉ but := by
  intro b hb
  unfold wordU at h
  rw [Bool.not_eq_true', List.any_eq_false] at h
  have := h b hb
  unfold badU at this
  rw [ofNat_toNat8] at this
  simp only [Bool.or_eq_true, Bool.not_eq_true', decide_eq_true_eq, not_or, Bool.not_eq_false, Int.not_le] at this
  exact ⟨this.1, (indexByte_neg _ _).1 this.2⟩
theorem char_ascii {x : Nat} (h : charU x = true) : x ≤ 126 := by
  unfold charU at h
  simp only [Bool.and_eq_true, decide_eq_true_eq] at h
  exact h.1.2
theorem sch_mem {s : List UInt8} (h : schemeU s = true) : ∀ b ∈ s, schC b.toNat = true := by
  rw [lowC_scheme, Bool.and_eq_true, List.all_eq_true] at h
  exact h.1
theorem lowB_same {b : UInt8} (h : ¬ (65 ≤ b.toNat ∧ b.toNat ≤ 90)) : lowB b = b := by
  unfold lowB
  rw [if_neg]
  intro ⟨h1, h2⟩
  exact h ⟨UInt8.le_iff_toNat_le.1 h1, UInt8.le_iff_toNat_le.1 h2⟩
theorem lowB_cap {b : UInt8} (h : 65 ≤ b.toNat ∧ b.toNat ≤ 90) : lowB b = b + 32 := by
  unfold lowB
  rw [if_pos ⟨UInt8.le_iff_toNat_le.2 h.1, UInt8.le_iff_toNat_le.2 h.2⟩]
theorem lowB_nat (b : UInt8) : (lowB b).toNat = if 65 ≤ b.toNat ∧ b.toNat ≤ 90 then b.toNat + 32 else b.toNat := by
  by_cases h : 65 ≤ b.toNat ∧ b.toNat ≤ 90
  · rw [if_pos h, lowB_cap h, UInt8.toNat_add]
    show (b.toNat + 32) % 256 = _
    omega
  · rw [if_neg h, lowB_same h]
theorem lowB_lowB (b : UInt8) : lowB (lowB b) = lowB b := by
  apply lowB_same
  rw [lowB_nat]
  split <;> omega
theorem lowL_lowL (l : List UInt8) : lowL (lowL l) = lowL l := by simp [lowL, lowB_lowB]
theorem lowL_app (a b : List UInt8) : lowL (a ++ b) = lowL a ++ lowL b := by simp [lowL]
theorem lowB_ascii {b : UInt8} (h : (lowB b).toNat < 128) : b.toNat < 128 := by
  rw [lowB_nat] at h
  split at h <;> omega
theorem ne_of_toNat {b c : UInt8} (h : b.toNat ≠ c.toNat) : b ≠ c := fun e => h (by rw [e])
theorem schC_ne {b : UInt8} (h : schC b.toNat = true) : b ≠ 58 ∧ b ≠ 47 ∧ b ≠ 63 ∧ b ≠ 35 ∧ lowB b = b ∧ b.toNat < 128 := by
  simp only [schC, Bool.or_eq_true, Bool.and_eq_true, decide_eq_true_eq, beq_iff_eq] at h
  refine ⟨ne_of_toNat ?_, ne_of_toNat ?_, ne_of_toNat ?_, ne_of_toNat ?_, lowB_same (by omega), by omega⟩
  · show b.toNat ≠ 58; omega
  · show b.toNat ≠ 47; omega
  · show b.toNat ≠ 63; omega
  · show b.toNat ≠ 35; omega
theorem check_ok {u : UrlD} (h : checkU u = 0) : longU u = false ∧ okU u = true ∧ formA u = false ∧ formB u = false ∧ (textU u).length ≤ 120 := by
  unfold checkU at h
  cases h1 : longU u with
  | true => rw [h1] at h; simp at h
  | false =>
    rw [h1] at h
    simp only [Bool.false_eq_true, if_false] at h
    unfold chkU at h
    cases h2 : okU u with
    | false => rw [h2] at h; simp at h
    | true =>
      rw [h2] at h
      simp only [Bool.true_eq_false, if_false] at h
      cases h3 : formA u with
      | true => rw [h3] at h; simp at h
      | false =>
        cases h4 : formB u with
        | true => rw [h3, h4] at h; simp at h
        | false =>
          rw [h3, h4] at h
          simp only [Bool.or_self, Bool.false_eq_true, if_false] at h
          refine ⟨rfl, rfl, rfl, rfl, ?_⟩
          by_cases h5 : 120 < (textU u).length
          · rw [if_pos h5] at h; simp at h
          · omega
theorem ok_parts {u : UrlD} (h : okU u = true) : schemeU u.scheme = true ∧ wordU u.host [47, 63, 35] = true ∧ u.host = lowL u.host ∧ wordU u.path [63, 35] = true ∧ wordU u.query [35] = true ∧ wordU u.frag [35] = true := by
  unfold okU at h
  simp only [Bool.and_eq_true, beq_iff_eq] at h
  exact ⟨h.1, h.2.1, h.2.2.1, h.2.2.2.1, h.2.2.2.2.1, h.2.2.2.2.2⟩
theorem form_parts {u : UrlD} (h : formA u = false) : (u.hasHost = false → u.host = []) ∧ (u.hasQuery = false → u.query = []) ∧ (u.hasFrag = false → u.frag = []) := by
  unfold formA at h
  simp only [Bool.or_eq_false_iff, Bool.and_eq_false_iff, Bool.not_eq_false', beq_iff_eq] at h
  obtain ⟨⟨h1, h2⟩, h3⟩ := h
  refine ⟨fun e => ?_, fun e => ?_, fun e => ?_⟩
  · rcases h1 with h1 | h1
    · rw [e] at h1; cases h1
    · exact h1
  · rcases h2 with h2 | h2
    · rw [e] at h2; cases h2
    · exact h2
  · rcases h3 with h3 | h3
    · rw [e] at h3; cases h3
    · exact h3
def tlU (u : UrlD) : List UInt8 := (if u.hasQuery then 63 :: u.query else []) ++ (if u.hasFrag then 35 :: u.frag else [])
def schS (u : UrlD) : List UInt8 := if u.scheme = [] then [] else u.scheme ++ [58]
def hostS (u : UrlD) : List UInt8 := if u.hasHost then [47, 47] ++ u.host else []
theorem textU_eq (u : UrlD) : textU u = schS u ++ (hostS u ++ u.path) ++ tlU u := by
  unfold textU schS hostS tlU
  simp only [List.append_assoc]
theorem schS_ne {u : UrlD} (h : schemeU u.scheme = true) : ∀ b ∈ schS u, b ≠ 35 ∧ b ≠ 63 ∧ b.toNat < 128 := by
  intro b hb
  unfold schS at hb
  by_cases e : u.scheme = []
  · rw [if_pos e] at hb; simp at hb
  · rw [if_neg e] at hb
    simp only [List.mem_append, List.mem_singleton] at hb
    rcases hb with hb | rfl
    · have := schC_ne (sch_mem h b hb); exact ⟨this.2.2.2.1, this.2.2.1, this.2.2.2.2.2⟩
    · exact ⟨by decide, by decide, by decide⟩
theorem word_ne {s but : List UInt8} (h : wordU s but = true) {c : UInt8} (hc : c ∈ but) : ∀ b ∈ s, b ≠ c := fun b hb e => (word_mem h b hb).2 (e ▸ hc)
theorem word_lt {s but : List UInt8} (h : wordU s but = true) : ∀ b ∈ s, b.toNat < 128 := fun b hb => by have := char_ascii (word_mem h b hb).1; omega
theorem hostS_ne {u : UrlD} (h : wordU u.host [47, 63, 35] = true) : ∀ b ∈ hostS u, b ≠ 35 ∧ b ≠ 63 ∧ b.toNat < 128 := by
  intro b hb
  unfold hostS at hb
  cases e : u.hasHost
  · rw [e] at hb; simp at hb
  · rw [e] at hb
    simp only [if_true, List.cons_append, List.nil_append, List.mem_cons] at hb
    rcases hb with rfl | rfl | hb
    · exact ⟨by decide, by decide, by decide⟩
    · exact ⟨by decide, by decide, by decide⟩
    · exact ⟨word_ne h (by simp) b hb, word_ne h (by simp) b hb, word_lt h b hb⟩
theorem takeWhile_all {p : UInt8 → Bool} {l : List UInt8} (h : ∀ b ∈ l, p b = true) (r : List UInt8) : (l ++ r).takeWhile p = l ++ r.takeWhile p ∧ (l ++ r).dropWhile p = r.dropWhile p :=
  ⟨List.takeWhile_append_of_pos h, List.dropWhile_append_of_pos h⟩
theorem lowL_sch {s : List UInt8} (h : schemeU s = true) : lowL s = s := by
  unfold lowL
  conv => rhs; rw [← List.map_id s]
  exact List.map_congr_left fun b hb => (schC_ne (sch_mem h b hb)).2.2.2.2.1
theorem head_stop (p : UInt8 → Bool) (l : List UInt8) (c : UInt8) (h : (l.dropWhile p).head? = some c) : p c = false := by
  have := List.head?_dropWhile_not p l
  rw [h] at this
  simpa using this
theorem tw_mem {p : UInt8 → Bool} {l : List UInt8} {b : UInt8} (h : b ∈ l.takeWhile p) : p b = true := by
  have := List.all_takeWhile (p := p) (l := l)
  exact List.all_eq_true.1 this b h
theorem schemeP_text {u : UrlD} (h0 : okU u = true) (h1 : formB u = false) (_h2 : formA u = false) : schemeP (schS u ++ (hostS u ++ u.path)) = some (u.scheme, hostS u ++ u.path) := by
  obtain ⟨k0, k1, k2, k3, _, _⟩ := ok_parts h0
  unfold schemeP
  by_cases e : u.scheme = []
  · have es : schS u = [] := by unfold schS; rw [if_pos e]
    rw [es, List.nil_append, e]
    rw [if_neg]
    cases hh : u.hasHost
    · have eh : hostS u = [] := by unfold hostS; rw [hh]; rfl
      rw [eh, List.nil_append]
      unfold formB at h1
      rw [hh, e] at h1
      simp only [Bool.false_eq_true, if_false, Bool.or_eq_false_iff, beq_self_eq_true, Bool.true_and, decide_eq_false_iff_not, Int.not_le] at h1
      rw [indexByte_neg, cut_tw] at h1
      intro hd
      refine h1.2 ?_
      show (58 : UInt8) ∈ u.path.takeWhile (fun b => b != 47)
      have hs := List.takeWhile_append_dropWhile (p := stopCS) (l := u.path)
      cases hdd : u.path.dropWhile stopCS with
      | nil => rw [hdd] at hd; cases hd
      | cons a r =>
        rw [hdd] at hd hs
        injection hd with hd
        subst hd
        rw [← hs]
        have hall : ∀ b ∈ u.path.takeWhile stopCS, (b != 47) = true := by
          intro b hb
          have := tw_mem hb
          unfold stopCS at this
          simp only [Bool.and_eq_true] at this
          exact this.2
        rw [(takeWhile_all hall _).1]
        simp
    · have eh : hostS u = 47 :: 47 :: u.host := by unfold hostS; rw [hh]; rfl
      rw [eh]
      simp [stopCS]
  · have es : schS u = u.scheme ++ [58] := by unfold schS; rw [if_neg e]
    have hall : ∀ b ∈ u.scheme, stopCS b = true := by
      intro b hb
      have := schC_ne (sch_mem k0 b hb)
      simp [stopCS, this.1, this.2.1]
    rw [es, List.append_assoc, List.singleton_append, (takeWhile_all hall _).1, (takeWhile_all hall _).2]
    have e1 : (58 :: (hostS u ++ u.path)).takeWhile stopCS = [] := by simp [stopCS]
    have e2 : (58 :: (hostS u ++ u.path)).dropWhile stopCS = 58 :: (hostS u ++ u.path) := by simp [stopCS]
    rw [e1, e2, List.append_nil, lowL_sch k0, k0]
    simp [e]
theorem hostP_text {u : UrlD} (h0 : okU u = true) (h1 : formB u = false) (h2 : formA u = false) : hostP (hostS u ++ u.path) = (u.hasHost, u.host, u.path) := by
  obtain ⟨k0, k1, k2, k3, _, _⟩ := ok_parts h0
  unfold hostP
  cases hh : u.hasHost
  · have eh : hostS u = [] := by unfold hostS; rw [hh]; rfl
    rw [eh, List.nil_append, (form_parts h2).1 hh]
    unfold formB at h1
    rw [hh] at h1
    simp only [Bool.false_eq_true, if_false, Bool.or_eq_false_iff] at h1
    rw [h1.1]
    rfl
  · have eh : hostS u = 47 :: 47 :: u.host := by unfold hostS; rw [hh]; rfl
    rw [eh]
    have hp : Lib.hasPrefix (47 :: 47 :: u.host ++ u.path) [47, 47] = true := by simp [Lib.hasPrefix, List.isPrefixOf]
    rw [hp]
    have hall : ∀ b ∈ u.host, not47 b = true := by
      intro b hb
      have := word_ne k1 (c := 47) (by simp) b hb
      simp [not47, this]
    have ht := takeWhile_all hall u.path
    have hpth : u.path.takeWhile not47 = [] ∧ u.path.dropWhile not47 = u.path := by
      unfold formB at h1
      rw [hh] at h1
      simp only [if_true, Bool.and_eq_false_iff, Bool.not_eq_false', beq_iff_eq] at h1
      cases hp : u.path with
      | nil => exact ⟨rfl, rfl⟩
      | cons a r =>
        rw [hp] at h1
        rcases h1 with h1 | h1
        · cases h1
        · have : a = 47 := UInt8.toNat_inj.1 h1
          subst this
          simp [not47]
    simp only [if_true, List.cons_append, List.drop_succ_cons, List.drop_zero]
    rw [ht.1, ht.2, hpth.1, hpth.2, List.append_nil, ← k2]
theorem parts_text {u : UrlD} (h : checkU u = 0) : partsU (textU u) = some u := by
  obtain ⟨_, h0, h2, h1, _⟩ := check_ok h
  obtain ⟨k0, k1, k2, k3, k4, k5⟩ := ok_parts h0
  have hpre : ∀ b ∈ schS u ++ (hostS u ++ u.path), b ≠ 35 ∧ b ≠ 63 := by
    intro b hb
    simp only [List.mem_append] at hb
    rcases hb with hb | hb | hb
    · have := schS_ne k0 b hb; exact ⟨this.1, this.2.1⟩
    · have := hostS_ne k1 b hb; exact ⟨this.1, this.2.1⟩
    · exact ⟨word_ne k3 (by simp) b hb, word_ne k3 (by simp) b hb⟩
  have c2 : Lib.cut (schS u ++ (hostS u ++ u.path) ++ (if u.hasQuery then 63 :: u.query else [])) [63] = (schS u ++ (hostS u ++ u.path), u.query, u.hasQuery) := by
    cases hq : u.hasQuery
    · rw [(form_parts h2).2.1 hq]
      simp only [Bool.false_eq_true, if_false, List.append_nil]
      exact cut_not _ _ fun b hb => (hpre b hb).2
    · exact cut_app _ _ _ fun b hb => (hpre b hb).2
  have c1 : Lib.cut (textU u) [35] = (schS u ++ (hostS u ++ u.path) ++ (if u.hasQuery then 63 :: u.query else []), u.frag, u.hasFrag) := by
    have hp2 : ∀ b ∈ schS u ++ (hostS u ++ u.path) ++ (if u.hasQuery then 63 :: u.query else []), b ≠ 35 := by
      intro b hb
      rw [List.mem_append] at hb
      rcases hb with hb | hb
      · exact (hpre b hb).1
      · cases hq : u.hasQuery
        · rw [hq] at hb; simp at hb
        · rw [hq] at hb
          simp only [if_true, List.mem_cons] at hb
          rcases hb with rfl | hb
          · decide
          · exact word_ne k4 (by simp) b hb
    rw [textU_eq]
    unfold tlU
    rw [← List.append_assoc]
    cases hf : u.hasFrag
    · rw [(form_parts h2).2.2 hf]
      simp only [Bool.false_eq_true, if_false, List.append_nil]
      exact cut_not _ _ hp2
    · exact cut_app _ _ _ hp2
  unfold partsU
  rw [c1]
  simp only
  rw [c2]
  simp only
  rw [schemeP_text h0 h1 h2]
  simp only
  rw [hostP_text h0 h1 h2]
theorem read_text {u : UrlD} (h : checkU u = 0) : readU (textU u) = (u, 0) := by
  unfold readU
  have h5 := (check_ok h).2.2.2.2
  rw [if_neg (by omega), parts_text h]
  simp only
  rw [if_pos h]
theorem text_ascii {u : UrlD} (h : checkU u = 0) : ∀ b ∈ textU u, b.toNat < 128 := by
  obtain ⟨_, h0, h2, h1, _⟩ := check_ok h
  obtain ⟨k0, k1, k2, k3, k4, k5⟩ := ok_parts h0
  intro b hb
  rw [textU_eq] at hb
  unfold tlU at hb
  simp only [List.mem_append] at hb
  rcases hb with (hb | hb | hb) | hb | hb
  · exact (schS_ne k0 b hb).2.2
  · exact (hostS_ne k1 b hb).2.2
  · exact word_lt k3 b hb
  · cases hq : u.hasQuery
    · rw [hq] at hb; simp at hb
    · rw [hq] at hb
      simp only [if_true, List.mem_cons] at hb
      rcases hb with rfl | hb
      · decide
      · exact word_lt k4 b hb
  · cases hq : u.hasFrag
    · rw [hq] at hb; simp at hb
    · rw [hq] at hb
      simp only [if_true, List.mem_cons] at hb
      rcases hb with rfl | hb
      · decide
      · exact word_lt k5 b hb
theorem schemeP_back {s sc r : List UInt8} (h : schemeP s = some (sc, r)) : ∃ a, s = a ++ r ∧ lowL a = (if sc = [] then [] else sc ++ [58]) := by
  unfold schemeP at h
  by_cases hd : (s.dropWhile stopCS).head? = some 58
  · rw [if_pos hd] at h
    by_cases hc : (s.takeWhile stopCS) = [] ∨ schemeU (lowL (s.takeWhile stopCS)) = false
    · rw [if_pos hc] at h; cases h
    · rw [if_neg hc] at h
      injection h with h
      injection h with h1 h2
      have hs := List.takeWhile_append_dropWhile (p := stopCS) (l := s)
      cases hdd : s.dropWhile stopCS with
      | nil => rw [hdd] at hd; cases hd
      | cons a t =>
        rw [hdd] at hd hs h2
        injection hd with hd
        subst hd
        rw [List.tail_cons] at h2
        subst h2
        refine ⟨s.takeWhile stopCS ++ [58], by rw [List.append_assoc]; exact hs.symm, ?_⟩
        have hne : sc ≠ [] := by
          rw [← h1]
          intro e
          exact hc (.inl (by simpa [lowL] using e))
        rw [if_neg hne, lowL_app, h1]
        rfl
  · rw [if_neg hd] at h
    injection h with h
    injection h with h1 h2
    subst h1; subst h2
    exact ⟨[], rfl, rfl⟩
theorem hasPrefix_two {s : List UInt8} (h : Lib.hasPrefix s [47, 47] = true) : s = 47 :: 47 :: s.drop 2 := by
  unfold Lib.hasPrefix at h
  rw [List.isPrefixOf_iff_prefix] at h
  obtain ⟨t, rfl⟩ := h
  rfl
theorem hostP_back (r : List UInt8) : ∃ a, r = a ++ (hostP r).2.2 ∧ lowL a = (if (hostP r).1 then [47, 47] ++ (hostP r).2.1 else []) := by
  unfold hostP
  by_cases h : Lib.hasPrefix r [47, 47] = true
  · rw [if_pos h]
    refine ⟨[47, 47] ++ (r.drop 2).takeWhile not47, ?_, ?_⟩
    · simp only [List.append_assoc]
      rw [List.takeWhile_append_dropWhile]
      exact hasPrefix_two h
    · rw [lowL_app]; rfl
  · rw [if_neg h]
    exact ⟨[], rfl, rfl⟩
theorem parts_back {s : List UInt8} {v : UrlD} (h : partsU s = some v) : ∃ a, s = a ++ v.path ++ tlU v ∧ textU v = lowL a ++ v.path ++ tlU v := by
  unfold partsU at h
  have b1 := cut_back s 35
  have b2 := cut_back (Lib.cut s [35]).1 63
  cases hs : schemeP (Lib.cut (Lib.cut s [35]).1 [63]).1 with
  | none => rw [hs] at h; cases h
  | some x =>
    obtain ⟨sc, r⟩ := x
    rw [hs] at h
    simp only [Option.some.injEq] at h
    obtain ⟨a1, ha1, hl1⟩ := schemeP_back hs
    obtain ⟨a2, ha2, hl2⟩ := hostP_back r
    refine ⟨a1 ++ a2, ?_, ?_⟩
    · rw [← h]
      simp only [tlU]
      conv => lhs; rw [b1, b2, ha1, ha2]
      simp only [List.append_assoc]
    · rw [textU_eq, ← h]
      simp only [schS, hostS, tlU]
      rw [lowL_app, hl1, hl2]
      simp only [List.append_assoc]
theorem read_parts {s : List UInt8} {v : UrlD} (h : readU s = (v, 0)) : s.length ≤ 120 ∧ partsU s = some v ∧ checkU v = 0 := by
  unfold readU at h
  by_cases hl : 120 < s.length
  · rw [if_pos hl] at h; injection h with _ h; cases h
  · rw [if_neg hl] at h
    cases hp : partsU s with
    | none => rw [hp] at h; injection h with _ h; cases h
    | some u =>
      rw [hp] at h
      simp only at h
      by_cases hc : checkU u = 0
      · rw [if_pos hc] at h
        injection h with h _
        subst h
        exact ⟨by omega, rfl, hc⟩
      · rw [if_neg hc] at h
        injection h with _ h
        exact absurd h hc
theorem tail_len (v : UrlD) : (tlU v).length = (if v.hasQuery then 1 + v.query.length else 0) + (if v.hasFrag then 1 + v.frag.length else 0) := by
  unfold tlU
  cases v.hasQuery <;> cases v.hasFrag <;> simp <;> omega
/-- What is read, is printed so that it is read again; with small letters alone. -/
theorem back_law {s : List UInt8} {v : UrlD} (h : readU s = (v, 0)) : checkU v = 0 ∧ readU (textU v) = (v, 0) ∧ lowL (textU v) = lowL s ∧ (∀ b ∈ s, b.toNat < 128) ∧ (∀ b ∈ textU v, b.toNat < 128) ∧ (tlU v).length ≤ s.length ∧ v.path.drop (min v.path.length 1) ++ s.drop (s.length - (tlU v).length) <:+ s := by
  obtain ⟨_, hp, hc⟩ := read_parts h
  obtain ⟨a, h1, h2⟩ := parts_back hp
  have hlow : lowL (textU v) = lowL s := by
    rw [h2]
    conv => rhs; rw [h1]
    rw [lowL_app, lowL_app, lowL_app, lowL_app, lowL_lowL]
  have hta := text_ascii hc
  have htl : (tlU v).length ≤ s.length := by rw [h1]; simp only [List.length_append]; omega
  refine ⟨hc, read_text hc, hlow, fun b hb => ?_, hta, htl, ?_⟩
  · have hm : lowB b ∈ lowL s := List.mem_map_of_mem hb
    rw [← hlow] at hm
    obtain ⟨c, hc1, hc2⟩ := List.mem_map.1 hm
    have := hta c hc1
    apply lowB_ascii
    rw [← hc2, lowB_nat]
    split <;> omega
  · have e : s.drop (s.length - (tlU v).length) = tlU v := by
      have : s.length - (tlU v).length = (a ++ v.path).length := by
        conv => lhs; rw [h1]
        simp only [List.length_append]; omega
      rw [this]
      conv => lhs; rw [h1]
      rw [List.drop_left]
    rw [e]
    refine ⟨a ++ v.path.take (min v.path.length 1), ?_⟩
    conv => rhs; rw [h1]
    rw [List.append_assoc, ← List.append_assoc (v.path.take _), List.take_append_drop, List.append_assoc]
end Go.Proofs.YtlbdnohnngkapaaGreatDoor

namespace Go.Proofs.YtlbdnohnngkapaaGreatDoor

/-! ### Fields, as data; what package header computes -/
structure FieldD where
  name : List UInt8
  value : List UInt8
def FieldD.cells (f : FieldD) : List Value := [str f.name, str f.value]
def badVal (x : Nat) : Bool := decide (x < 32) || decide (126 < x)
/-- header.Value. -/
def valB (s : List UInt8) : Bool := decide (s.length ≤ 900) && (s == Lib.trimS s [32]) && !s.any (fun b => badVal b.toNat)
def okF (f : FieldD) : Bool := tokB f.name && valB f.value
/-- header.Check. -/
def chkF (l : List FieldD) : Nat := if 20 < l.length then 2 else if l.all okF then 0 else 1
def lineF (f : FieldD) : List UInt8 := f.name ++ [58, 32] ++ f.value ++ [13, 10]
/-- header.Text. -/
def textF (l : List FieldD) : List UInt8 := l.flatMap lineF ++ [13, 10]
/-- header.Print. -/
def printF (l : List FieldD) : List UInt8 × Nat := if chkF l = 0 then (textF l, 0) else ([], chkF l)
/-- A line without the end that it may have. -/
def chopF (line : List UInt8) : List UInt8 := if Lib.hasSuffix line [13] then line.take (line.length - 1) else line
def blankF (x : Nat) : Bool := x == 32 || x == 9
/-- The last field's value goes on. -/
def moreF (l : List FieldD) (line : List UInt8) : List FieldD :=
  match l.getLast? with
  | none => l
  | some f => l.dropLast ++ [{ f with value := Lib.trimS (f.value ++ 32 :: Lib.trimS line [32, 9]) [32] }]
/-- One line that isn't empty. -/
def goF (l : List FieldD) (line : List UInt8) : Option (List FieldD) :=
  if blankF (nth line 0) then (if l = [] then none else some (moreF l line))
  else if (Lib.cut line [58]).2.2 then some (l ++ [⟨(Lib.cut line [58]).1, Lib.trimS (Lib.cut line [58]).2.1 [32, 9]⟩]) else none
/-- The fields, what is behind them, what is wrong. -/
def linesF : Nat → List UInt8 → List FieldD → List FieldD × List UInt8 × Nat
  | 0, _, _ => ([], [], 1)
  | k + 1, s, l =>
    if (Lib.cut s [10]).2.2 = false then ([], [], 1)
    else if chopF (Lib.cut s [10]).1 = [] then (if chkF l = 0 then (l, (Lib.cut s [10]).2.1, 0) else ([], [], chkF l))
    else match goF l (chopF (Lib.cut s [10]).1) with
      | none => ([], [], 1)
      | some m => if 20 < m.length then ([], [], 2) else linesF k (Lib.cut s [10]).2.1 m
/-- header.Parse. -/
def parseF (b : List UInt8) : List FieldD × Nat × Nat :=
  if 40000 < b.length then ([], 0, 2)
  else if (linesF (b.length + 1) b []).2.2 = 0 then ((linesF (b.length + 1) b []).1, b.length - (linesF (b.length + 1) b []).2.1.length, 0)
  else ([], 0, (linesF (b.length + 1) b []).2.2)

/-! ### Trims -/
theorem trim_pad (a l b cs : List UInt8) (ha : ∀ x ∈ a, cs.contains x = true) (hb : ∀ x ∈ b, cs.contains x = true) (h0 : ∀ x, l.head? = some x → cs.contains x = false) (h1 : ∀ x, l.getLast? = some x → cs.contains x = false) : Lib.trimS (a ++ l ++ b) cs = l := by
  unfold Lib.trimS Lib.trimLeftS Lib.trimRightS
  rw [List.reverse_append, List.reverse_append, List.dropWhile_append_of_pos (fun x hx => hb x (List.mem_reverse.1 hx))]
  cases hl : l.getLast? with
  | none =>
    have : l = [] := List.getLast?_eq_none_iff.1 hl
    subst this
    rw [List.reverse_nil, List.nil_append]
    have e : a.reverse.dropWhile (cs.contains ·) = [] := by
      have := List.dropWhile_append_of_pos (p := (cs.contains ·)) (l₁ := a.reverse) (l₂ := []) (fun x hx => ha x (List.mem_reverse.1 hx))
      rw [List.append_nil] at this
      exact this
    rw [e]
    rfl
  | some z =>
    have hr : l.reverse = z :: l.reverse.tail := by
      have : l.reverse.head? = some z := by rw [List.head?_reverse, hl]
      cases h : l.reverse with
      | nil => rw [h] at this; cases this
      | cons y r => rw [h] at this; injection this with this; subst this; rfl
    have hz := h1 z hl
    have e : (l.reverse ++ a.reverse).dropWhile (cs.contains ·) = l.reverse ++ a.reverse := by
      rw [hr, List.cons_append, List.dropWhile_cons, if_neg (by rw [hz]; simp)]
    rw [e, List.reverse_append, List.reverse_reverse, List.reverse_reverse, List.dropWhile_append_of_pos ha]
    cases l with
    | nil => rfl
    | cons y r => rw [List.dropWhile_cons, if_neg (by rw [h0 y rfl]; simp)]
theorem trim_left (l cs : List UInt8) : ∀ x, (Lib.trimS l cs).head? = some x → cs.contains x = false := fun x h => head_stop _ _ x h
theorem getLast_suffix {a b : List UInt8} (h : a <:+ b) (h0 : a ≠ []) : a.getLast? = b.getLast? := by
  obtain ⟨t, rfl⟩ := h
  rw [List.getLast?_append]
  cases ha : a.getLast? with
  | none => exact absurd (List.getLast?_eq_none_iff.1 ha) h0
  | some z => rfl
theorem trim_right (l cs : List UInt8) : ∀ x, (Lib.trimS l cs).getLast? = some x → cs.contains x = false := by
  intro x h
  have h0 : Lib.trimS l cs ≠ [] := fun e => by rw [e] at h; cases h
  have hs : Lib.trimS l cs <:+ Lib.trimRightS l cs := List.dropWhile_suffix _
  rw [getLast_suffix hs h0] at h
  unfold Lib.trimRightS at h
  rw [List.getLast?_reverse] at h
  exact head_stop _ _ x h
theorem trim_len (l cs : List UInt8) : (Lib.trimS l cs).length ≤ l.length := by
  unfold Lib.trimS Lib.trimLeftS Lib.trimRightS
  have h1 := (List.dropWhile_suffix (cs.contains ·) (l := (l.reverse.dropWhile (cs.contains ·)).reverse)).length_le
  have h2 := (List.dropWhile_suffix (cs.contains ·) (l := l.reverse)).length_le
  rw [List.length_reverse] at h1 h2
  omega
theorem trim_mem {l cs : List UInt8} {x : UInt8} (h : x ∈ Lib.trimS l cs) : x ∈ l := by
  unfold Lib.trimS Lib.trimLeftS Lib.trimRightS at h
  have h1 := (List.dropWhile_suffix _).subset h
  rw [List.mem_reverse] at h1
  exact List.mem_reverse.1 ((List.dropWhile_suffix _).subset h1)

/-! ### Tokens and values -/
theorem tok_mem {s : List UInt8} (h : tokB s = true) : s ≠ [] ∧ s.length ≤ 30 ∧ ∀ b ∈ s, 32 < b.toNat ∧ b.toNat ≤ 126 ∧ b ∉ tspec := by
  unfold tokB at h
  simp only [Bool.and_eq_true, Bool.not_eq_true', beq_eq_false_iff_ne, ne_eq, decide_eq_true_eq] at h
  refine ⟨h.1.1, h.1.2, fun b hb => ?_⟩
  have := List.any_eq_false.1 h.2 b hb
  unfold badTok idxB at this
  rw [ofNat_toNat8] at this
  simp only [Bool.or_eq_true, decide_eq_true_eq, not_or] at this
  refine ⟨by omega, by omega, ?_⟩
  exact (indexByte_neg tspec b).1 (by omega)
theorem val_mem {s : List UInt8} (h : valB s = true) : s.length ≤ 900 ∧ s = Lib.trimS s [32] ∧ ∀ b ∈ s, 32 ≤ b.toNat ∧ b.toNat ≤ 126 := by
  unfold valB at h
  simp only [Bool.and_eq_true, Bool.not_eq_true', beq_iff_eq, decide_eq_true_eq] at h
  refine ⟨h.1.1, h.1.2, fun b hb => ?_⟩
  have := List.any_eq_false.1 h.2 b hb
  unfold badVal at this
  simp only [Bool.or_eq_true, decide_eq_true_eq, not_or] at this
  omega
theorem val_ends {s : List UInt8} (h : valB s = true) : (∀ x, s.head? = some x → x ≠ 32 ∧ x ≠ 9) ∧ (∀ x, s.getLast? = some x → x ≠ 32 ∧ x ≠ 9) := by
  obtain ⟨_, ht, hm⟩ := val_mem h
  refine ⟨fun x hx => ⟨?_, ?_⟩, fun x hx => ⟨?_, ?_⟩⟩
  · rw [ht] at hx
    have := trim_left s [32] x hx
    intro e
    rw [e] at this
    cases this
  · have h1 := (hm x (List.mem_of_mem_head? (by rw [hx]; rfl))).1
    intro e
    rw [e] at h1
    exact absurd h1 (by decide)
  · rw [ht] at hx
    have := trim_right s [32] x hx
    intro e
    rw [e] at this
    cases this
  · have h1 := (hm x (List.mem_of_getLast? hx)).1
    intro e
    rw [e] at h1
    exact absurd h1 (by decide)
theorem has_tab {x : UInt8} (h : x ≠ 32 ∧ x ≠ 9) : ([32, 9] : List UInt8).contains x = false := by
  simp [h.1, h.2]
theorem val_trim {s : List UInt8} (h : valB s = true) : Lib.trimS (32 :: s) [32, 9] = s := by
  obtain ⟨h0, h1⟩ := val_ends h
  have := trim_pad [32] s [] [32, 9] (by decide) (by simp) (fun x hx => has_tab (h0 x hx)) (fun x hx => has_tab (h1 x hx))
  rw [List.append_nil] at this
  exact this
theorem chk_len {l : List FieldD} (h : chkF l = 0) : l.length ≤ 20 ∧ ∀ f ∈ l, okF f = true := by
  unfold chkF at h
  split at h
  · cases h
  · split at h
    · rename_i h1 h2; exact ⟨by omega, List.all_eq_true.1 h2⟩
    · cases h
theorem ok_field {f : FieldD} (h : okF f = true) : tokB f.name = true ∧ valB f.value = true := by
  unfold okF at h
  rwa [Bool.and_eq_true] at h
theorem lineF_len {f : FieldD} (h : okF f = true) : (lineF f).length ≤ 934 := by
  obtain ⟨h1, h2⟩ := ok_field h
  have a := (tok_mem h1).2.1
  have b := (val_mem h2).1
  unfold lineF
  simp only [List.length_append, List.length_cons, List.length_nil]
  omega
theorem textF_len : ∀ {l : List FieldD}, (∀ f ∈ l, okF f = true) → (textF l).length ≤ 934 * l.length + 2
  | [], _ => by decide
  | f :: r, h => by
    have h1 := lineF_len (h f (by simp))
    have h2 := textF_len (l := r) (fun g hg => h g (by simp [hg]))
    unfold textF at h2 ⊢
    rw [List.flatMap_cons]
    simp only [List.length_append, List.length_cons, List.length_nil] at h2 ⊢
    omega
theorem text_len {l : List FieldD} (h : chkF l = 0) : (textF l).length ≤ 18682 := by
  obtain ⟨h1, h2⟩ := chk_len h
  have := textF_len h2
  omega

/-! ### What is printed is read -/
theorem suffix_13 (x : List UInt8) : Lib.hasSuffix (x ++ [13]) [13] = true := by
  unfold Lib.hasSuffix
  rw [List.isSuffixOf_iff_suffix]
  exact List.suffix_append _ _
theorem chop_13 (x : List UInt8) : chopF (x ++ [13]) = x := by
  unfold chopF
  rw [if_pos (suffix_13 x)]
  simp
theorem parse_line {f : FieldD} (h : okF f = true) (rest : List UInt8) : Lib.cut (lineF f ++ rest) [10] = (f.name ++ [58, 32] ++ f.value ++ [13], rest, true) := by
  obtain ⟨h1, h2⟩ := ok_field h
  have m1 := (tok_mem h1).2.2
  have m2 := (val_mem h2).2.2
  have e : lineF f ++ rest = (f.name ++ [58, 32] ++ f.value ++ [13]) ++ 10 :: rest := by unfold lineF; simp
  rw [e]
  refine cut_app _ _ _ ?_
  intro b hb
  simp only [List.mem_append, List.mem_cons, List.not_mem_nil, or_false] at hb
  rcases hb with ((hb | rfl | rfl) | hb) | rfl
  · intro e; have := (m1 b hb).1; rw [e] at this; exact absurd this (by decide)
  · decide
  · decide
  · intro e; have := (m2 b hb).1; rw [e] at this; exact absurd this (by decide)
  · decide
theorem go_line {f : FieldD} (h : okF f = true) (l : List FieldD) : f.name ++ [58, 32] ++ f.value ≠ [] ∧ goF l (f.name ++ [58, 32] ++ f.value) = some (l ++ [f]) := by
  obtain ⟨h1, h2⟩ := ok_field h
  obtain ⟨n0, _, m1⟩ := tok_mem h1
  refine ⟨by simp, ?_⟩
  have hb : blankF (nth (f.name ++ [58, 32] ++ f.value) 0) = false := by
    cases hn : f.name with
    | nil => exact absurd hn n0
    | cons a r =>
      have := (m1 a (by rw [hn]; simp)).1
      show blankF a.toNat = false
      unfold blankF
      simp
      omega
  have hc : Lib.cut (f.name ++ [58, 32] ++ f.value) [58] = (f.name, 32 :: f.value, true) := by
    have e : f.name ++ [58, 32] ++ f.value = f.name ++ 58 :: (32 :: f.value) := by simp
    rw [e]
    refine cut_app _ _ _ fun b hb e => ?_
    have := (m1 b hb).2.2
    rw [e] at this
    exact this (by decide)
  unfold goF
  rw [hb, hc, val_trim h2]
  rfl
theorem lines_text : ∀ (m acc : List FieldD) (k : Nat) (more : List UInt8), chkF (acc ++ m) = 0 → m.length < k → linesF k (textF m ++ more) acc = (acc ++ m, more, 0) := by
  intro m
  induction m with
  | nil =>
    intro acc k more hc hk
    obtain ⟨k, rfl⟩ : ∃ j, k = j + 1 := ⟨k - 1, by simp at hk; omega⟩
    have e : Lib.cut (textF [] ++ more) [10] = ([13], more, true) := cut_app [13] more 10 (by decide)
    rw [linesF, e, if_neg (by simp), if_pos (show chopF [13] = [] by decide)]
    rw [List.append_nil] at hc ⊢
    rw [if_pos hc]
  | cons f r ih =>
    intro acc k more hc hk
    obtain ⟨k, rfl⟩ : ∃ j, k = j + 1 := ⟨k - 1, by simp at hk; omega⟩
    obtain ⟨hl, ho⟩ := chk_len hc
    have hf := ho f (by simp)
    have e0 : textF (f :: r) ++ more = lineF f ++ (textF r ++ more) := by unfold textF; simp
    obtain ⟨g0, g1⟩ := go_line hf acc
    rw [e0, linesF, parse_line hf, if_neg (by simp)]
    simp only
    rw [chop_13, if_neg g0, g1]
    simp only
    have hl2 : ¬ 20 < (acc ++ [f]).length := by simp only [List.length_append, List.length_cons, List.length_nil] at hl ⊢; omega
    rw [if_neg hl2]
    have := ih (acc ++ [f]) k more (by rw [List.append_assoc]; exact hc) (by simp at hk; omega)
    rw [this]
    simp
theorem parse_text {l : List FieldD} (h : chkF l = 0) : parseF (textF l) = (l, (textF l).length, 0) := by
  have hl := text_len h
  have hc := (chk_len h).1
  have hk : l.length < (textF l).length + 1 := by
    have : ∀ m : List FieldD, m.length ≤ (textF m).length := by
      intro m
      induction m with
      | nil => simp
      | cons f r ih => unfold textF lineF at ih ⊢; simp only [List.flatMap_cons, List.length_append, List.length_cons, List.length_nil] at ih ⊢; omega
    have := this l
    omega
  have h1 := lines_text l [] ((textF l).length + 1) [] h hk
  rw [List.append_nil, List.nil_append] at h1
  unfold parseF
  rw [if_neg (by omega), h1]
  simp

/-! ### What is read -/
theorem lines_back : ∀ (k : Nat) (s : List UInt8) (l m : List FieldD) (rest : List UInt8), linesF k s l = (m, rest, 0) → chkF m = 0 ∧ ∃ pre, s = pre ++ rest ∧ ∀ k' more, pre.length < k' → linesF k' (pre ++ more) l = (m, more, 0) := by
  intro k
  induction k with
  | zero => intro s l m rest h; rw [linesF] at h; cases h
  | succ k ih =>
    intro s l m rest h
    rw [linesF] at h
    by_cases hm : (10 : UInt8) ∈ s
    · obtain ⟨x, y, rfl, hx⟩ := first_of s 10 hm
      rw [cut_app x y 10 hx, if_neg (by simp)] at h
      simp only at h
      by_cases hc : chopF x = []
      · rw [if_pos hc] at h
        by_cases hk : chkF l = 0
        · rw [if_pos hk] at h
          injection h with h1 h2
          injection h2 with h2 _
          subst h1; subst h2
          refine ⟨hk, x ++ [10], by simp, fun k' more hk' => ?_⟩
          obtain ⟨k', rfl⟩ : ∃ j, k' = j + 1 := ⟨k' - 1, by omega⟩
          have e : x ++ [10] ++ more = x ++ 10 :: more := by simp
          rw [e, linesF, cut_app x more 10 hx, if_neg (by simp)]
          simp only
          rw [if_pos hc, if_pos hk]
        · rw [if_neg hk] at h
          injection h with _ h
          injection h with _ h
          exact absurd h hk
      · rw [if_neg hc] at h
        cases hg : goF l (chopF x) with
        | none => rw [hg] at h; cases h
        | some l2 =>
          rw [hg] at h
          simp only at h
          by_cases h20 : 20 < l2.length
          · rw [if_pos h20] at h; cases h
          · rw [if_neg h20] at h
            obtain ⟨c0, pre, hy, hmo⟩ := ih y l2 m rest h
            refine ⟨c0, x ++ 10 :: pre, by rw [hy]; simp, fun k' more hk' => ?_⟩
            obtain ⟨k', rfl⟩ : ∃ j, k' = j + 1 := ⟨k' - 1, by omega⟩
            have e : x ++ 10 :: pre ++ more = x ++ 10 :: (pre ++ more) := by simp
            rw [e, linesF, cut_app x _ 10 hx, if_neg (by simp)]
            simp only
            rw [if_neg hc, hg]
            simp only
            rw [if_neg h20]
            refine hmo k' more ?_
            simp only [List.length_append, List.length_cons] at hk'
            omega
    · rw [cut_not s 10 (fun b hb e => hm (e ▸ hb)), if_pos rfl] at h
      cases h
theorem parse_back {b : List UInt8} {l : List FieldD} {k : Nat} (h : parseF b = (l, k, 0)) :
    chkF l = 0 ∧ k ≤ b.length ∧ b.length ≤ 40000 ∧ ∀ more, (b.take k ++ more).length ≤ 40000 → parseF (b.take k ++ more) = (l, k, 0) := by
  unfold parseF at h
  by_cases h0 : 40000 < b.length
  · rw [if_pos h0] at h; cases h
  · rw [if_neg h0] at h
    rcases hr : linesF (b.length + 1) b [] with ⟨m, rest, e⟩
    rw [hr] at h
    simp only at h
    by_cases he : e = 0
    · subst he
      rw [if_pos rfl] at h
      injection h with h1 h2
      injection h2 with h2 _
      subst h1
      obtain ⟨c0, pre, hb, hmo⟩ := lines_back _ _ _ _ _ hr
      have hk : k = pre.length := by rw [← h2, hb, List.length_append]; omega
      refine ⟨c0, by rw [hk, hb, List.length_append]; omega, by omega, fun more hl => ?_⟩
      have ht : b.take k = pre := by rw [hk, hb, List.take_left]
      rw [ht] at hl ⊢
      have h1 := hmo ((pre ++ more).length + 1) more (by rw [List.length_append]; omega)
      unfold parseF
      rw [if_neg (by omega), h1, hk]
      simp
    · rw [if_neg he] at h
      injection h with _ h
      injection h with _ h
      exact absurd h he
theorem parse_many {b : List UInt8} (h : 40000 < b.length) : parseF b = ([], 0, 2) := by unfold parseF; rw [if_pos h]
theorem parse_ok {b : List UInt8} {l : List FieldD} {k e : Nat} (h : parseF b = (l, k, e)) (he : e ≠ 0) : l = [] ∧ k = 0 := by
  unfold parseF at h
  split at h
  · injection h with h1 h2; injection h2 with h2 _; exact ⟨h1.symm, h2.symm⟩
  · split at h
    · injection h with _ h2; injection h2 with _ h2; exact absurd h2.symm he
    · injection h with h1 h2; injection h2 with h2 _; exact ⟨h1.symm, h2.symm⟩
end Go.Proofs.YtlbdnohnngkapaaGreatDoor

namespace Go.Proofs.YtlbdnohnngkapaaGreatDoor

/-! ### A value taken apart -/
/-- header.Params' loop: the fields, what is wrong. -/
def loopP : Nat → List UInt8 → Bool → List FieldD → List FieldD × Nat
  | 0, _, _, _ => ([], 1)
  | k + 1, rest, more, l =>
    if more = false then (l, 0)
    else
      let c := Lib.cut (Lib.trimLeftS rest [32]) [61]
      let name := Lib.trimS c.1 [32]
      if (!c.2.2 || !tokB name) = true then ([], 1)
      else
        let v := Lib.trimLeftS c.2.1 [32]
        if Lib.hasPrefix v [34] = true then
          let d := Lib.cut (v.drop 1) [34]
          if d.2.2 = false then ([], 1)
          else
            let g := Lib.cut d.2.1 [59]
            if Lib.trimS g.1 [32] ≠ [] then ([], 1)
            else if 20 < (l ++ [FieldD.mk (lowL name) d.1]).length then ([], 2)
            else loopP k g.2.1 g.2.2 (l ++ [FieldD.mk (lowL name) d.1])
        else
          let d := Lib.cut v [59]
          let p := Lib.trimRightS d.1 [32]
          if tokB p = false then ([], 1)
          else if 20 < (l ++ [FieldD.mk (lowL name) p]).length then ([], 2)
          else loopP k d.2.1 d.2.2 (l ++ [FieldD.mk (lowL name) p])
/-- header.Params. -/
def paramsF (s : List UInt8) : List UInt8 × List FieldD × Nat :=
  if valB s = false then ([], [], 1)
  else
    let c := Lib.cut s [59]
    let r := loopP (s.length + 2) c.2.1 c.2.2 []
    if r.2 = 0 then (lowL (Lib.trimS c.1 [32]), r.1, 0) else ([], [], r.2)

/-! ### What is put behind a value -/
structure PieceD where
  quoted : Bool
  name : List UInt8
  value : List UInt8
def PieceD.text (p : PieceD) : List UInt8 := if p.quoted then [59] ++ p.name ++ [32, 61, 34] ++ p.value ++ [34, 32] else [32, 59, 32] ++ p.name ++ [61, 32] ++ p.value
def PieceD.good (p : PieceD) : Prop := tokB p.name = true ∧ (if p.quoted then valB p.value = true ∧ (34 : UInt8) ∉ p.value else tokB p.value = true)
def PieceD.field (p : PieceD) : FieldD := ⟨lowL p.name, p.value⟩
def PieceD.pre (p : PieceD) : List UInt8 := if p.quoted then [] else [32]
/-- What stands behind the ;, and with what behind it. -/
def PieceD.body (p : PieceD) (r : List PieceD) : List UInt8 := if p.quoted then p.name ++ [32] ++ 61 :: (34 :: (p.value ++ 34 :: (if r.isEmpty then [] else [32]))) else 32 :: (p.name ++ 61 :: (32 :: p.value))
def tailS : List PieceD → List UInt8
  | [] => []
  | p :: r => p.pre ++ 59 :: (p.body r ++ tailS r)
/-- The blank at the end. -/
def endS : List PieceD → List UInt8
  | [] => []
  | [p] => if p.quoted then [32] else []
  | _ :: q :: r => endS (q :: r)
theorem tail_end : ∀ ps : List PieceD, ps.flatMap PieceD.text = tailS ps ++ endS ps
  | [] => rfl
  | [p] => by
    rw [List.flatMap_cons, tailS, tailS, endS]
    unfold PieceD.text PieceD.pre PieceD.body
    cases p.quoted <;> simp
  | p :: q :: r => by
    rw [List.flatMap_cons, tail_end (q :: r)]
    show _ = (p.pre ++ 59 :: (p.body (q :: r) ++ tailS (q :: r))) ++ endS (q :: r)
    unfold PieceD.text PieceD.pre PieceD.body
    cases p.quoted <;> simp
theorem endS_blank : ∀ ps : List PieceD, ∀ x ∈ endS ps, ([32] : List UInt8).contains x = true
  | [] => by simp [endS]
  | [p] => by
    rw [endS]
    cases p.quoted <;> simp
  | _ :: q :: r => by rw [endS]; exact endS_blank (q :: r)
theorem tok_blank {s : List UInt8} (h : tokB s = true) : (∀ x, s.head? = some x → ([32] : List UInt8).contains x = false) ∧ (∀ x, s.getLast? = some x → ([32] : List UInt8).contains x = false) := by
  obtain ⟨_, _, m⟩ := tok_mem h
  have key : ∀ x ∈ s, ([32] : List UInt8).contains x = false := by
    intro x hx
    have := (m x hx).1
    have h2 : x ≠ 32 := by intro e; rw [e] at this; exact absurd this (by decide)
    simp [h2]
  exact ⟨fun x hx => key x (List.mem_of_mem_head? (by rw [hx]; rfl)), fun x hx => key x (List.mem_of_getLast? hx)⟩
theorem last_append (a b : List UInt8) (h : b ≠ []) : (a ++ b).getLast? = b.getLast? := by
  rw [List.getLast?_append]
  cases hb : b.getLast? with
  | none => exact absurd (List.getLast?_eq_none_iff.1 hb) h
  | some z => rfl
theorem body_ne (p : PieceD) (r : List PieceD) : p.body r ≠ [] := by
  unfold PieceD.body
  cases p.quoted <;> simp
theorem tail_last : ∀ ps : List PieceD, (∀ p ∈ ps, p.good) → ∀ x, (tailS ps).getLast? = some x → ([32] : List UInt8).contains x = false
  | [], _ => by intro x hx; cases hx
  | [p], hg => by
    intro x hx
    have hp := hg p (by simp)
    rw [tailS, tailS, List.append_nil, last_append _ _ (by simp), show ∀ (a : UInt8) l, a :: l = [a] ++ l from fun _ _ => rfl, last_append _ _ (body_ne _ _)] at hx
    unfold PieceD.body at hx
    unfold PieceD.good at hp
    cases hq : p.quoted with
    | true =>
      rw [hq] at hx
      simp only [if_true, List.isEmpty_nil] at hx
      have e : p.name ++ [32] ++ 61 :: 34 :: (p.value ++ [34]) = (p.name ++ [32] ++ 61 :: 34 :: p.value) ++ [34] := by simp
      rw [e, last_append _ _ (by simp)] at hx
      injection hx with hx
      subst hx
      rfl
    | false =>
      rw [hq] at hx hp
      simp only [Bool.false_eq_true, if_false] at hx hp
      have e : 32 :: (p.name ++ 61 :: 32 :: p.value) = (32 :: (p.name ++ [61, 32])) ++ p.value := by simp
      rw [e, last_append _ _ (tok_mem hp.2).1] at hx
      exact (tok_blank hp.2).2 x hx
  | p :: q :: r, hg => by
    intro x hx
    have hne : tailS (q :: r) ≠ [] := by rw [tailS]; simp
    have e : tailS (p :: q :: r) = (p.pre ++ 59 :: p.body (q :: r)) ++ tailS (q :: r) := by rw [tailS]; simp
    rw [e, last_append _ _ hne] at hx
    exact tail_last (q :: r) (fun z hz => hg z (List.mem_cons_of_mem _ hz)) x hx
theorem trimR_pad (l b cs : List UInt8) (hb : ∀ x ∈ b, cs.contains x = true) (h1 : ∀ x, l.getLast? = some x → cs.contains x = false) : Lib.trimRightS (l ++ b) cs = l := by
  unfold Lib.trimRightS
  rw [List.reverse_append, List.dropWhile_append_of_pos (fun x hx => hb x (List.mem_reverse.1 hx))]
  cases hr : l.reverse with
  | nil => have := congrArg List.reverse hr; rw [List.reverse_reverse] at this; rw [this]; rfl
  | cons z t =>
    have hz := h1 z (by rw [← List.head?_reverse, hr]; rfl)
    rw [List.dropWhile_cons, if_neg (by rw [hz]; simp), ← hr, List.reverse_reverse]
theorem trimL_pad (a l cs : List UInt8) (ha : ∀ x ∈ a, cs.contains x = true) (h0 : ∀ x, l.head? = some x → cs.contains x = false) : Lib.trimLeftS (a ++ l) cs = l := by
  unfold Lib.trimLeftS
  rw [List.dropWhile_append_of_pos ha]
  cases l with
  | nil => rfl
  | cons y r => rw [List.dropWhile_cons, if_neg (by rw [h0 y rfl]; simp)]
/-- The text whose value is taken apart: main, and the pieces without the blank at the end. -/
theorem trim_pieces {main : List UInt8} {ps : List PieceD} (hm : tokB main = true) (hg : ∀ p ∈ ps, p.good) : Lib.trimRightS (main ++ ps.flatMap PieceD.text) [32] = main ++ tailS ps := by
  rw [tail_end, ← List.append_assoc]
  refine trimR_pad _ _ _ (endS_blank ps) ?_
  intro x hx
  cases ps with
  | nil => rw [tailS, List.append_nil] at hx; exact (tok_blank hm).2 x hx
  | cons p r =>
    rw [last_append _ _ (by rw [tailS]; simp)] at hx
    exact tail_last _ hg x hx
/-- What is behind a ;, and is there one? -/
def contP : List PieceD → List UInt8 × Bool
  | [] => ([], false)
  | p :: r => (p.body r ++ tailS r, true)
def gapP : List PieceD → List UInt8
  | [] => []
  | p :: _ => p.pre
theorem gap_blank (r : List PieceD) : ∀ x ∈ gapP r, ([32] : List UInt8).contains x = true := by
  cases r with
  | nil => simp [gapP]
  | cons p r =>
    show ∀ x ∈ p.pre, _
    unfold PieceD.pre
    cases p.quoted <;> simp
theorem cut_tail (X : List UInt8) (r : List PieceD) (h : (59 : UInt8) ∉ X) : Lib.cut (X ++ tailS r) [59] = (X ++ gapP r, (contP r).1, (contP r).2) := by
  cases r with
  | nil =>
    rw [tailS, List.append_nil, cut_not X 59 (fun b hb e => h (e ▸ hb))]
    show _ = (X ++ [], [], false)
    rw [List.append_nil]
  | cons p r =>
    rw [tailS]
    have e : X ++ (p.pre ++ 59 :: (p.body r ++ tailS r)) = (X ++ p.pre) ++ 59 :: (p.body r ++ tailS r) := by simp
    rw [e]
    refine cut_app _ _ _ ?_
    intro b hb
    rw [List.mem_append] at hb
    rcases hb with hb | hb
    · exact fun e => h (e ▸ hb)
    · unfold PieceD.pre at hb
      cases hq : p.quoted <;> rw [hq] at hb <;> simp at hb
      subst hb
      decide
theorem tok_not {s : List UInt8} (h : tokB s = true) {c : UInt8} (hc : c ∈ tspec) : c ∉ s := fun hm => ((tok_mem h).2.2 c hm).2.2 hc
theorem loop_law : ∀ (r : List PieceD) (l : List FieldD) (k : Nat), r.length < k → (∀ p ∈ r, p.good) → l.length + r.length ≤ 20 → loopP k (contP r).1 (contP r).2 l = (l ++ r.map PieceD.field, 0) := by
  intro r
  induction r with
  | nil =>
    intro l k hk _ _
    obtain ⟨k, rfl⟩ : ∃ j, k = j + 1 := ⟨k - 1, by simp at hk; omega⟩
    show loopP (k + 1) [] false l = _
    rw [loopP, if_pos rfl]
    simp
  | cons p r ih =>
    intro l k hk hg hl
    obtain ⟨k, rfl⟩ : ∃ j, k = j + 1 := ⟨k - 1, by simp at hk; omega⟩
    obtain ⟨hn, hv⟩ := hg p (by simp)
    have hr : ∀ q ∈ r, q.good := fun q hq => hg q (by simp [hq])
    have hk2 : r.length < k := by simp at hk; omega
    have hl2 : ∀ f : FieldD, (l ++ [f]).length + r.length ≤ 20 := by intro f; simp only [List.length_append, List.length_cons, List.length_nil] at hl ⊢; omega
    have hl3 : ∀ f : FieldD, ¬ 20 < (l ++ [f]).length := by intro f; have := hl2 f; omega
    show loopP (k + 1) (p.body r ++ tailS r) true l = _
    rw [loopP, if_neg (by simp)]
    obtain ⟨nh, nl⟩ := tok_blank hn
    have n0 := (tok_mem hn).1
    unfold PieceD.body
    cases hq : p.quoted with
    | true =>
      rw [hq] at hv
      simp only [if_true] at hv ⊢
      obtain ⟨sp, hsp⟩ : ∃ sp : List UInt8, sp = if r.isEmpty then [] else [32] := ⟨_, rfl⟩
      have hspb : ∀ x ∈ sp, ([32] : List UInt8).contains x = true := by rw [hsp]; cases r.isEmpty <;> simp
      rw [← hsp]
      have e1 : Lib.trimLeftS (p.name ++ [32] ++ 61 :: 34 :: (p.value ++ 34 :: sp) ++ tailS r) [32] = (p.name ++ [32]) ++ 61 :: (34 :: (p.value ++ 34 :: (sp ++ tailS r))) := by
        have := trimL_pad [] (p.name ++ [32] ++ 61 :: 34 :: (p.value ++ 34 :: sp) ++ tailS r) [32] (by simp) (by
          intro x hx
          cases hnn : p.name with
          | nil => exact absurd hnn n0
          | cons a t => rw [hnn] at hx; exact nh x (by rw [hnn]; exact hx))
        rw [List.nil_append] at this
        rw [this]
        simp
      have e2 := cut_app (p.name ++ [32]) (34 :: (p.value ++ 34 :: (sp ++ tailS r))) 61 (by
        intro b hb
        simp only [List.mem_append, List.mem_cons, List.not_mem_nil, or_false] at hb
        rcases hb with hb | rfl
        · exact fun e => tok_not hn (c := 61) (by decide) (e ▸ hb)
        · decide)
      have e3 : Lib.trimS (p.name ++ [32]) [32] = p.name := by
        have := trim_pad [] p.name [32] [32] (by simp) (by simp) nh nl
        rw [List.nil_append] at this
        exact this
      have e4 : Lib.trimLeftS (34 :: (p.value ++ 34 :: (sp ++ tailS r))) [32] = 34 :: (p.value ++ 34 :: (sp ++ tailS r)) := by
        have := trimL_pad [] (34 :: (p.value ++ 34 :: (sp ++ tailS r))) [32] (by simp) (by intro x hx; injection hx with hx; subst hx; rfl)
        rw [List.nil_append] at this
        exact this
      have e5 : Lib.hasPrefix (34 :: (p.value ++ 34 :: (sp ++ tailS r))) [34] = true := by simp [Lib.hasPrefix, List.isPrefixOf]
      have e6 := cut_app p.value (sp ++ tailS r) 34 (fun b hb e => hv.2 (e ▸ hb))
      have e7 := cut_tail sp r (by rw [hsp]; cases r.isEmpty <;> simp)
      have e8 : Lib.trimS (sp ++ gapP r) [32] = [] := by
        have := trim_pad (sp ++ gapP r) [] [] [32] (by intro x hx; rcases List.mem_append.1 hx with h | h; exact hspb x h; exact gap_blank r x h) (by simp) (by simp) (by simp)
        rw [List.append_nil, List.append_nil] at this
        exact this
      rw [e1, e2]
      simp only
      rw [e3, hn, if_neg (by simp), e4, if_pos e5]
      simp only [List.drop_succ_cons, List.drop_zero]
      rw [e6]
      simp only
      rw [if_neg (by simp), e7]
      simp only
      rw [e8, if_neg (by simp), if_neg (hl3 _), ih _ k hk2 hr (hl2 _)]
      simp [PieceD.field]
    | false =>
      rw [hq] at hv
      simp only [Bool.false_eq_true, if_false] at hv ⊢
      obtain ⟨vh, vl⟩ := tok_blank hv
      have v0 := (tok_mem hv).1
      have e1 : Lib.trimLeftS (32 :: (p.name ++ 61 :: (32 :: p.value)) ++ tailS r) [32] = p.name ++ 61 :: (32 :: (p.value ++ tailS r)) := by
        have := trimL_pad [32] (p.name ++ 61 :: (32 :: (p.value ++ tailS r))) [32] (by simp) (by
          intro x hx
          cases hnn : p.name with
          | nil => exact absurd hnn n0
          | cons a t => rw [hnn] at hx; exact nh x (by rw [hnn]; exact hx))
        rw [← this]
        simp
      have e2 := cut_app p.name (32 :: (p.value ++ tailS r)) 61 (fun b hb e => tok_not hn (c := 61) (by decide) (e ▸ hb))
      have e3 : Lib.trimS p.name [32] = p.name := by
        have := trim_pad [] p.name [] [32] (by simp) (by simp) nh nl
        rw [List.nil_append, List.append_nil] at this
        exact this
      have hvh : ∀ x, (p.value ++ tailS r).head? = some x → p.value.head? = some x := by
        intro x hx
        cases hvv : p.value with
        | nil => exact absurd hvv v0
        | cons a t => rw [hvv] at hx; exact hx
      have e4 : Lib.trimLeftS (32 :: (p.value ++ tailS r)) [32] = p.value ++ tailS r :=
        trimL_pad [32] (p.value ++ tailS r) [32] (by simp) (fun x hx => vh x (hvh x hx))
      have e5 : Lib.hasPrefix (p.value ++ tailS r) [34] = false := by
        cases hvv : p.value with
        | nil => exact absurd hvv v0
        | cons a t =>
          have : a ≠ 34 := fun e => tok_not hv (c := 34) (by decide) (by rw [hvv, e]; simp)
          simp [Lib.hasPrefix, List.isPrefixOf]
          exact fun e => this e.symm
      have e6 := cut_tail p.value r (tok_not hv (by decide))
      have e7 := trimR_pad p.value (gapP r) [32] (gap_blank r) vl
      rw [e1, e2]
      simp only
      rw [e3, hn, if_neg (by simp), e4, if_neg (by rw [e5]; simp), e6]
      simp only
      rw [e7, hv, if_neg (by simp), if_neg (hl3 _), ih _ k hk2 hr (hl2 _)]
      simp [PieceD.field]
/-- What is put behind a value is taken apart as it was. -/
theorem params_law {main : List UInt8} {ps : List PieceD} (hm : tokB main = true) (hg : ∀ p ∈ ps, p.good) (hl : ps.length ≤ 20) (hv : valB (Lib.trimRightS (main ++ ps.flatMap PieceD.text) [32]) = true) :
    paramsF (Lib.trimRightS (main ++ ps.flatMap PieceD.text) [32]) = (lowL main, ps.map PieceD.field, 0) := by
  rw [trim_pieces hm hg] at hv ⊢
  have hlen : ps.length < (main ++ tailS ps).length + 2 := by
    have : ∀ r : List PieceD, r.length ≤ (tailS r).length := by
      intro r
      induction r with
      | nil => simp
      | cons p r ih => rw [tailS]; simp only [List.length_append, List.length_cons]; omega
    have := this ps
    rw [List.length_append]
    omega
  obtain ⟨mh, ml⟩ := tok_blank hm
  have h1 := cut_tail main ps (tok_not hm (by decide))
  have h2 := loop_law ps [] _ hlen hg (by simpa using hl)
  have h3 : Lib.trimS (main ++ gapP ps) [32] = main := by
    have := trim_pad [] main (gapP ps) [32] (by simp) (gap_blank ps) mh ml
    rw [List.nil_append] at this
    exact this
  unfold paramsF
  rw [hv, if_neg (by simp), h1]
  simp only
  rw [h2, if_pos rfl, h3]
  simp
end Go.Proofs.YtlbdnohnngkapaaGreatDoor

namespace Go.Proofs.YtlbdnohnngkapaaGreatDoor

/-! ### The first field of a name -/
/-- header.Get. -/
def getF : List FieldD → List UInt8 → List UInt8
  | [], _ => []
  | f :: r, n => if Lib.equalFold f.name n then f.value else getF r n
theorem foldEq_iff (x y : UInt8) : Lib.foldEq x y = true ↔ lowB x = lowB y := by
  unfold Lib.foldEq
  rw [decide_eq_true_eq]
  constructor
  · intro h
    apply UInt8.toNat_inj.1
    rw [lowB_nat, lowB_nat]
    split <;> split <;> omega
  · intro h
    have h := congrArg UInt8.toNat h
    rw [lowB_nat, lowB_nat] at h
    split at h <;> split at h <;> omega
theorem fold_iff : ∀ (a b : List UInt8), Lib.equalFold a b = true ↔ lowL a = lowL b
  | [], [] => by simp [Lib.equalFold]
  | [], _ :: _ => by simp [Lib.equalFold, lowL]
  | _ :: _, [] => by simp [Lib.equalFold, lowL]
  | x :: a, y :: b => by
    have ih := fold_iff a b
    have h1 := foldEq_iff x y
    unfold lowL at ih ⊢
    simp only [Lib.equalFold, Bool.and_eq_true, List.map_cons, List.cons.injEq]
    rw [ih, h1]
theorem up_low : ∀ x : Fin 256, lowB (Lib.upperB (UInt8.ofNat x.val)) = lowB (UInt8.ofNat x.val) := by decide +kernel
theorem lower_low : ∀ x : Fin 256, lowB (Lib.lowerB (UInt8.ofNat x.val)) = lowB (UInt8.ofNat x.val) := by decide +kernel
theorem low_upper (l : List UInt8) : lowL (Lib.toUpperA l) = lowL l := by
  unfold lowL Lib.toUpperA
  rw [List.map_map]
  refine List.map_congr_left fun b _ => ?_
  have := up_low ⟨b.toNat, b.toNat_lt⟩
  rw [ofNat_toNat8] at this
  exact this
theorem low_lower (l : List UInt8) : lowL (Lib.toLowerA l) = lowL l := by
  unfold lowL Lib.toLowerA
  rw [List.map_map]
  refine List.map_congr_left fun b _ => ?_
  have := lower_low ⟨b.toNat, b.toNat_lt⟩
  rw [ofNat_toNat8] at this
  exact this
def sameN (n : List UInt8) (f : FieldD) : Bool := Lib.equalFold f.name n
theorem get_first (f : FieldD) (r : List FieldD) (n : List UInt8) (h : lowL n = lowL f.name) : getF (f :: r) n = f.value := by
  unfold getF
  rw [if_pos ((fold_iff _ _).2 h.symm)]
theorem get_none : ∀ (l : List FieldD) (n : List UInt8), (∀ f ∈ l, lowL f.name ≠ lowL n) → getF l n = []
  | [], _, _ => rfl
  | f :: r, n, h => by
    unfold getF
    rw [if_neg (fun e => h f (by simp) ((fold_iff _ _).1 e))]
    exact get_none r n (fun g hg => h g (by simp [hg]))
theorem get_behind (l : List FieldD) (f : FieldD) (n : List UInt8) (h : ∀ g ∈ l, lowL g.name ≠ lowL n) : getF (l ++ [f]) n = getF [f] n := by
  induction l with
  | nil => rfl
  | cons g r ih =>
    rw [List.cons_append, getF, if_neg (fun e => h g (by simp) ((fold_iff _ _).1 e))]
    exact ih (fun x hx => h x (by simp [hx]))
/-- What is left where those of a name are struck. -/
def leftF (l : List FieldD) (n : List UInt8) : List FieldD := l.filter (fun x => !sameN n x)
theorem left_not (l : List FieldD) (n : List UInt8) : ∀ g ∈ leftF l n, lowL g.name ≠ lowL n := by
  intro g hg
  have := (List.mem_filter.1 hg).2
  unfold sameN at this
  simp only [Bool.not_eq_true'] at this
  intro e
  rw [(fold_iff _ _).2 e] at this
  cases this
theorem gets_law (l : List FieldD) (f : FieldD) : getF (f :: l) (Lib.toUpperA f.name) = f.value ∧ getF (f :: l) (Lib.toLowerA f.name) = f.value ∧ getF (leftF l f.name ++ [f]) (Lib.toUpperA f.name) = f.value ∧ getF (leftF l f.name) (Lib.toLowerA f.name) = [] := by
  refine ⟨get_first _ _ _ (low_upper _), get_first _ _ _ (low_lower _), ?_, ?_⟩
  · rw [get_behind _ _ _ (fun g hg => by rw [low_upper]; exact left_not l f.name g hg)]
    exact get_first _ _ _ (low_upper _)
  · exact get_none _ _ (fun g hg => by rw [low_lower]; exact left_not l f.name g hg)
end Go.Proofs.YtlbdnohnngkapaaGreatDoor

namespace Go.Proofs.YtlbdnohnngkapaaGreatDoor

/-- The 64 letters. -/
def letters : List UInt8 := [65, 66, 67, 68, 69, 70, 71, 72, 73, 74, 75, 76, 77, 78, 79, 80, 81, 82, 83, 84, 85, 86, 87, 88, 89, 90, 97, 98, 99, 100, 101, 102, 103, 104, 105, 106, 107, 108, 109, 110, 111, 112, 113, 114, 115, 116, 117, 118, 119, 120, 121, 122, 48, 49, 50, 51, 52, 53, 54, 55, 56, 57, 43, 47]
theorem letters_len : letters.length = 64 := by decide

/-- Three bytes as one number; what lacks is 0. -/
def val3 (l : List UInt8) : Nat := nth l 0 * 65536 + nth l 1 * 256 + nth l 2
/-- The number behind i rounds. -/
def valTo (l : List UInt8) : Nat → Nat
  | 0 => 0
  | i + 1 => valTo l i * 256 + nth l i
theorem valTo_three (l : List UInt8) : valTo l 3 = val3 l := by simp only [valTo, val3]; omega
theorem valTo_lt (l : List UInt8) (i : Nat) : valTo l i < 256 ^ i := by
  induction i with
  | zero => simp [valTo]
  | succ i ih =>
    have := nth_lt l i
    simp only [valTo, Nat.pow_succ]
    omega
/-- Letter i of four, of n bytes with the number v. -/
def quadL (n v i : Nat) : UInt8 := if n < i then 61 else letters.getD (v / 2 ^ (18 - 6 * i) % 64) 0
def quad (l : List UInt8) : List UInt8 := (List.range 4).map (quadL (min 3 l.length) (val3 l))
def brk (wide : Nat) : List UInt8 := if wide = 76 then [13, 10] else []
def after (wide : Nat) : Nat := if wide = 76 then 4 else wide + 4
/-- base.Text, where so many letters stand in the line already. -/
def enc (wide : Nat) (l : List UInt8) : List UInt8 :=
  match l with
  | [] => []
  | a :: t => brk wide ++ quad (a :: t) ++ enc (after wide) (t.drop 2)
termination_by l.length
decreasing_by simp; omega
theorem enc_nil (wide : Nat) : enc wide [] = [] := by rw [enc]
theorem enc_step (wide : Nat) (l : List UInt8) (h : 0 < l.length) : enc wide l = brk wide ++ quad l ++ enc (after wide) (l.drop (min 3 l.length)) := by
  cases l with
  | nil => simp at h
  | cons a t =>
    rw [enc]
    congr 2
    match t with
    | [] => rfl
    | [_] => rfl
    | _ :: _ :: t' => simp
theorem quad_len (l : List UInt8) : (quad l).length = 4 := by simp [quad]
theorem quad_take (l : List UInt8) (i : Nat) (h : i < 4) : (quad l).take (i + 1) = (quad l).take i ++ [quadL (min 3 l.length) (val3 l) i] := by
  rw [List.take_succ_eq_append_getElem (by rw [quad_len]; exact h)]
  simp [quad]
theorem quadL_gt {n v i : Nat} (h : n < i) : quadL n v i = 61 := by simp [quadL, h]
theorem quadL_le {n v i : Nat} (h : ¬ n < i) : quadL n v i = UInt8.ofNat (nth letters (v / 2 ^ (18 - 6 * i) % 64)) := by simp [quadL, h, nth]
theorem enc_len (k : Nat) : ∀ (wide : Nat) (l : List UInt8), l.length ≤ k → (enc wide l).length ≤ 6 * l.length := by
  induction k with
  | zero => intro wide l h; have : l = [] := List.eq_nil_of_length_eq_zero (by omega); subst this; simp [enc_nil]
  | succ k ih =>
    intro wide l h
    rcases Nat.eq_zero_or_pos l.length with h0 | h0
    · have : l = [] := List.eq_nil_of_length_eq_zero h0; subst this; simp [enc_nil]
    · rw [enc_step wide l h0]
      have hb : (brk wide).length ≤ 2 := by unfold brk; split <;> simp
      have := ih (after wide) (l.drop (min 3 l.length)) (by simp; omega)
      simp only [List.length_append, quad_len, List.length_drop] at this ⊢
      omega
end Go.Proofs.YtlbdnohnngkapaaGreatDoor

namespace Go.Proofs.YtlbdnohnngkapaaGreatDoor

/-- A blank or an end of a line. -/
def blankN (x : Nat) : Bool := x == 32 || x == 9 || x == 13 || x == 10
/-- The first place of a byte; -1: none. -/
def idxI (l : List UInt8) (x : Nat) : Int := Lib.indexByte l (UInt8.ofNat x)
theorem indexByte_bd (l : List UInt8) (c : UInt8) : -1 ≤ Lib.indexByte l c ∧ Lib.indexByte l c < l.length := by
  induction l with
  | nil => simp [Lib.indexByte]
  | cons a l ih =>
    simp only [Lib.indexByte, List.length_cons]
    split
    · omega
    · split <;> omega
theorem idxI_bd (l : List UInt8) (x : Nat) : -1 ≤ idxI l x ∧ idxI l x < l.length := indexByte_bd l _

/-- base.Read's first loop. -/
def scanB (vals : List Nat) (pad : Nat) : List UInt8 → Option (List Nat × Nat)
  | [] => some (vals, pad)
  | c :: r =>
    if blankN c.toNat then scanB vals pad r
    else if c.toNat == 61 then scanB (vals ++ [0]) (pad + 1) r
    else if decide (idxI letters c.toNat < 0) || decide (0 < pad) then none
    else scanB (vals ++ [(idxI letters c.toNat).toNat]) pad r
def num4 (a b c d : Nat) : Nat := a * 262144 + b * 4096 + c * 64 + d
def three (v : Nat) : List UInt8 := [UInt8.ofNat (v / 65536), UInt8.ofNat (v / 256), UInt8.ofNat v]
/-- base.Read's second loop. -/
def bytes3 : List Nat → List UInt8
  | a :: b :: c :: d :: r => three (num4 a b c d) ++ bytes3 r
  | _ => []
def cutPad (out : List UInt8) (pad : Nat) : List UInt8 × Nat :=
  if (out.drop (out.length - pad)).any (fun c => c != 0) then ([], 1)
  else if 4000 < out.length - pad then ([], 2) else (out.take (out.length - pad), 0)
def readFin : Option (List Nat × Nat) → List UInt8 × Nat
  | none => ([], 1)
  | some (vals, pad) => if vals.length % 4 != 0 || decide (2 < pad) then ([], 1) else cutPad (bytes3 vals) pad
/-- base.Read. -/
def readB (s : List UInt8) : List UInt8 × Nat := if 8000 < s.length then ([], 2) else readFin (scanB [] 0 s)

theorem readB_len (s : List UInt8) : (readB s).1.length ≤ 4000 := by
  unfold readB
  split
  · simp
  · cases h : scanB [] 0 s with
    | none => simp [readFin]
    | some p =>
      obtain ⟨vals, pad⟩ := p
      simp only [readFin]
      split
      · simp
      · unfold cutPad
        split
        · simp
        · split
          · simp
          · simp only [List.length_take]; omega
def nthN (l : List Nat) (k : Nat) : Nat := l.getD k 0
theorem drop_nth (s : List UInt8) (i : Nat) (h : i < s.length) : ∃ c : UInt8, c.toNat = nth s i ∧ s.drop i = c :: s.drop (i + 1) :=
  ⟨s[i], by rw [nth_of s i h], List.drop_eq_getElem_cons h⟩
theorem scan_blank {vals : List Nat} {pad i : Nat} {s : List UInt8} (h : i < s.length) (hb : blankN (nth s i) = true) : scanB vals pad (s.drop i) = scanB vals pad (s.drop (i + 1)) := by
  obtain ⟨c, hc, hd⟩ := drop_nth s i h
  rw [hd]; simp only [scanB, hc, hb, if_true]
theorem scan_eq {vals : List Nat} {pad i : Nat} {s : List UInt8} (h : i < s.length) (_hb : blankN (nth s i) = false) (he : nth s i = 61) : scanB vals pad (s.drop i) = scanB (vals ++ [0]) (pad + 1) (s.drop (i + 1)) := by
  obtain ⟨c, hc, hd⟩ := drop_nth s i h
  rw [hd]; simp only [scanB, hc, he]; simp [blankN]
theorem scan_bad {vals : List Nat} {pad i : Nat} {s : List UInt8} (h : i < s.length) (hb : blankN (nth s i) = false) (he : nth s i ≠ 61) (hx : idxI letters (nth s i) < 0 ∨ 0 < pad) : scanB vals pad (s.drop i) = none := by
  obtain ⟨c, hc, hd⟩ := drop_nth s i h
  rw [hd]; simp only [scanB, hc, hb]; simp [he]; intro h1; omega
theorem scan_val {vals : List Nat} {pad i : Nat} {s : List UInt8} (h : i < s.length) (hb : blankN (nth s i) = false) (he : nth s i ≠ 61) (hx : 0 ≤ idxI letters (nth s i)) (hp : pad = 0) : scanB vals pad (s.drop i) = scanB (vals ++ [(idxI letters (nth s i)).toNat]) pad (s.drop (i + 1)) := by
  obtain ⟨c, hc, hd⟩ := drop_nth s i h
  rw [hd]; simp only [scanB, hc, hb]; subst hp; simp [he]; intro h1; omega
theorem blank_cases (x : Nat) : (blankN x = true ∧ ((x : Int) == 32) = true) ∨ (blankN x = true ∧ ((x : Int) == 32) = false ∧ ((x : Int) == 9) = true) ∨
    (blankN x = true ∧ ((x : Int) == 32) = false ∧ ((x : Int) == 9) = false ∧ ((x : Int) == 13) = true) ∨
    (blankN x = true ∧ ((x : Int) == 32) = false ∧ ((x : Int) == 9) = false ∧ ((x : Int) == 13) = false ∧ ((x : Int) == 10) = true) ∨
    (blankN x = false ∧ ((x : Int) == 32) = false ∧ ((x : Int) == 9) = false ∧ ((x : Int) == 13) = false ∧ ((x : Int) == 10) = false) := by
  simp only [blankN, beq_iff_eq, beq_eq_false_iff_ne, Bool.or_eq_true, Bool.or_eq_false_iff]
  omega
theorem bytes3_len : ∀ (k : Nat) (l : List Nat), l.length = 4 * k → (bytes3 l).length = 3 * k := by
  intro k
  induction k with
  | zero => intro l h; have : l = [] := List.eq_nil_of_length_eq_zero (by omega); subst this; rfl
  | succ k ih =>
    intro l h
    match l, h with
    | a :: b :: c :: d :: r, h =>
      simp only [bytes3, List.length_append, three, List.length_cons, List.length_nil]
      rw [ih r (by simp at h; omega)]
      omega
theorem bytes3_step (l : List Nat) (j : Nat) (h : 4 * j + 4 ≤ l.length) : bytes3 (l.drop (4 * j)) = three (num4 (nthN l (4 * j)) (nthN l (4 * j + 1)) (nthN l (4 * j + 2)) (nthN l (4 * j + 3))) ++ bytes3 (l.drop (4 * (j + 1))) := by
  have e : l.drop (4 * j) = l[4 * j] :: l[4 * j + 1] :: l[4 * j + 2] :: l[4 * j + 3] :: l.drop (4 * (j + 1)) := by
    rw [List.drop_eq_getElem_cons (by omega), List.drop_eq_getElem_cons (by omega), List.drop_eq_getElem_cons (by omega), List.drop_eq_getElem_cons (by omega)]
    rfl
  rw [e]
  simp only [bytes3, nthN, List.getD]
  simp [show 4 * j < l.length by omega, show 4 * j + 1 < l.length by omega, show 4 * j + 2 < l.length by omega, show 4 * j + 3 < l.length by omega]
theorem three_cells (v : Nat) (h : v < 16777216) : Lib.byteCells (three v) = [Value.int .u8 ((v : Int) / 65536), Value.int .u8 ((v : Int) / 256 % 256), Value.int .u8 ((v : Int) % 256)] := by
  have e1 : ((UInt8.ofNat (v / 65536)).toNat : Int) = (v : Int) / 65536 := by rw [UInt8.toNat_ofNat']; omega
  have e2 : ((UInt8.ofNat (v / 256)).toNat : Int) = (v : Int) / 256 % 256 := by rw [UInt8.toNat_ofNat']; omega
  have e3 : ((UInt8.ofNat v).toNat : Int) = (v : Int) % 256 := by rw [UInt8.toNat_ofNat']; omega
  simp only [Lib.byteCells, three, List.map_cons, List.map_nil, e1, e2, e3]
theorem cutPad_bad (out : List UInt8) (pad q k : Nat) (hq : q + pad = out.length) (hk : k < pad) (h : nth (out.drop q) k ≠ 0) : cutPad out pad = ([], 1) := by
  have hq' : out.length - pad = q := by omega
  have hl : k < (out.drop q).length := by simp; omega
  rw [nth_of _ k hl] at h
  unfold cutPad
  rw [hq', if_pos]
  rw [List.any_eq_true]
  refine ⟨(out.drop q)[k], List.getElem_mem hl, ?_⟩
  rw [bne_iff_ne]
  rintro h0
  rw [h0] at h
  exact h rfl
theorem cutPad_ok (out : List UInt8) (pad q : Nat) (hq : q + pad = out.length) (h : ∀ k, k < pad → nth (out.drop q) k = 0) : cutPad out pad = if 4000 < q then ([], 2) else (out.take q, 0) := by
  have hq' : out.length - pad = q := by omega
  unfold cutPad
  rw [hq', if_neg]
  rw [List.any_eq_true]
  rintro ⟨x, hx, hx0⟩
  obtain ⟨k, hk, rfl⟩ := List.mem_iff_getElem.1 hx
  have hk' : k < pad := by simp at hk; omega
  have h1 := h k hk'
  rw [nth_of _ k hk] at h1
  rw [bne_iff_ne] at hx0
  exact hx0 (UInt8.toNat_inj.1 h1)
theorem nthN_lt (l : List Nat) (k b : Nat) (hb : 0 < b) (h : ∀ x ∈ l, x < b) : nthN l k < b := by
  unfold nthN
  rcases Nat.lt_or_ge k l.length with hk | hk
  · rw [List.getD_eq_getElem?_getD, List.getElem?_eq_getElem hk]; exact h _ (List.getElem_mem hk)
  · simp [List.getD, hk]; exact hb
theorem ints_opn {w : World} {B n : Nat} {A : Option Addr} {l : List Nat} (h : Sl w B 1 A n (intCells l)) (hn : 0 < n) : ∃ b off, A = some ⟨b, off, none⟩ ∧ b < B ∧ ∀ k, k < n → w.cell? ⟨b, off + k, none⟩ = some (.int .i64 (nthN l k : Nat)) := by
  obtain ⟨b, off, hA, hb, hc⟩ := And.right h hn
  have hl : l.length = n := by have := h.len; rwa [intCells_len] at this
  exact ⟨b, off, hA, hb, fun k hk => hc k _ (intCells_at l k (by omega))⟩
end Go.Proofs.YtlbdnohnngkapaaGreatDoor

namespace Go.Proofs.YtlbdnohnngkapaaGreatDoor

theorem quad_append (a r : List UInt8) (h : 3 ≤ a.length) : quad (a ++ r) = quad a := by
  match a, h with
  | x :: y :: z :: t, _ =>
    simp only [quad, val3, List.cons_append, nth, List.getD, List.length_cons, List.length_append]
    congr 2
theorem enc_line (k : Nat) : ∀ (i : Nat) (a r : List UInt8), k + i = 19 → a.length = 3 * k → enc (4 * i) (a ++ r) = enc (4 * i) a ++ enc 76 r := by
  induction k with
  | zero =>
    intro i a r hi ha
    have : a = [] := List.eq_nil_of_length_eq_zero (by omega)
    subst this
    have : i = 19 := by omega
    subst this
    simp [enc_nil]
  | succ k ih =>
    intro i a r hi ha
    have hw : after (4 * i) = 4 * (i + 1) := by unfold after; rw [if_neg (by omega)]; omega
    rw [enc_step (4 * i) (a ++ r) (by simp; omega), enc_step (4 * i) a (by omega), quad_append a r (by omega), hw]
    have e1 : min 3 (a ++ r).length = 3 := by simp; omega
    have e2 : min 3 a.length = 3 := by omega
    rw [e1, e2, List.drop_append_of_le_length (by omega), ih (i + 1) (a.drop 3) r (by omega) (by simp; omega)]
    simp
theorem enc_76 (r : List UInt8) (h : 0 < r.length) : enc 76 r = [13, 10] ++ enc 0 r := by
  rw [enc_step 76 r h, enc_step 0 r h]
  simp [brk, after]
theorem enc_lines (j : Nat) : ∀ (a r : List UInt8), a.length = 57 * (j + 1) → 0 < r.length → enc 0 (a ++ r) = enc 0 a ++ [13, 10] ++ enc 0 r := by
  induction j with
  | zero =>
    intro a r ha hr
    rw [enc_line 19 0 a r rfl (by omega), enc_76 r hr]
    simp
  | succ j ih =>
    intro a r ha hr
    have e : a = a.take 57 ++ a.drop 57 := (List.take_append_drop 57 a).symm
    have h1 : (a.take 57).length = 3 * 19 := by simp; omega
    have h2 : (a.drop 57).length = 57 * (j + 1) := by simp; omega
    generalize a.take 57 = x at *
    generalize a.drop 57 = y at *
    subst e
    rw [List.append_assoc, enc_line 19 0 x (y ++ r) rfl h1, enc_line 19 0 x y rfl h1, enc_76 (y ++ r) (by simp; omega), enc_76 y (by omega), ih y r h2 hr]
    simp
/-- BaseParts, plain. -/
theorem enc_parts (l : List UInt8) (j : Nat) (h : 57 * j < l.length) : enc 0 l = enc 0 (l.take (57 * j)) ++ (if 0 < 57 * j then [13, 10] else []) ++ enc 0 (l.drop (57 * j)) := by
  cases j with
  | zero => simp [enc_nil]
  | succ j =>
    rw [if_pos (by omega)]
    have h1 : (l.take (57 * (j + 1))).length = 57 * (j + 1) := by simp; omega
    have h2 : 0 < (l.drop (57 * (j + 1))).length := by simp; omega
    have := enc_lines j _ _ h1 h2
    rw [List.take_append_drop] at this
    exact this
theorem enc_Ma : enc 0 ([77, 97] : List UInt8) = [84, 87, 69, 61] := by
  rw [enc_step 0 _ (by decide)]
  show brk 0 ++ quad [77, 97] ++ enc (after 0) [] = _
  rw [enc_nil]
  kernel_rfl
theorem read_Man : readB [32, 84, 32, 87, 70, 117, 13, 10] = ([77, 97, 110], 0) := by kernel_rfl
end Go.Proofs.YtlbdnohnngkapaaGreatDoor

namespace Go.Proofs.YtlbdnohnngkapaaGreatDoor

theorem letter_facts : ∀ q : Fin 64, blankN (nth letters q.val) = false ∧ (nth letters q.val == 61) = false ∧ idxI letters (nth letters q.val) = (q.val : Int) := by decide +kernel
/-- Letter i's value. -/
def lv (l : List UInt8) (i : Nat) : Nat := val3 l / 2 ^ (18 - 6 * i) % 64
theorem lv_lt (l : List UInt8) (i : Nat) : lv l i < 64 := Nat.mod_lt _ (by omega)
theorem scan_letter (vals : List Nat) (q : Nat) (hq : q < 64) (r : List UInt8) : scanB vals 0 (letters.getD q 0 :: r) = scanB (vals ++ [q]) 0 r := by
  obtain ⟨h1, h2, h3⟩ := letter_facts ⟨q, hq⟩
  have e : (letters.getD q 0).toNat = nth letters q := rfl
  simp only [scanB, e]
  rw [h1, h2, h3]
  simp
  intro h
  omega
theorem scan_pad (vals : List Nat) (pad : Nat) (r : List UInt8) : scanB vals pad (61 :: r) = scanB (vals ++ [0]) (pad + 1) r := by
  simp [scanB, blankN]
theorem scan_brk (vals : List Nat) (pad wide : Nat) (r : List UInt8) : scanB vals pad (brk wide ++ r) = scanB vals pad r := by
  unfold brk
  split
  · simp [scanB, blankN]
  · rfl
def padOf (l : List UInt8) : Nat := 3 - min 3 l.length
theorem scan_quad (vals : List Nat) (l r : List UInt8) (h : 0 < l.length) : scanB vals 0 (quad l ++ r) = scanB (vals ++ [lv l 0, lv l 1, lv l 2, lv l 3]) (padOf l) r := by
  have hq : quad l = [quadL (min 3 l.length) (val3 l) 0, quadL (min 3 l.length) (val3 l) 1, quadL (min 3 l.length) (val3 l) 2, quadL (min 3 l.length) (val3 l) 3] := rfl
  have hlet : ∀ i, ¬ min 3 l.length < i → quadL (min 3 l.length) (val3 l) i = letters.getD (lv l i) 0 := fun i hi => by simp [quadL, hi, lv]
  rw [hq]
  rcases (by omega : l.length = 1 ∨ l.length = 2 ∨ 3 ≤ l.length) with h1 | h2 | h3
  · have z2 : lv l 2 = 0 := by
      have a := nth_ge l 1 (by omega); have b := nth_ge l 2 (by omega)
      simp only [lv, val3, a, b]; omega
    have z3 : lv l 3 = 0 := by
      have a := nth_ge l 1 (by omega); have b := nth_ge l 2 (by omega)
      simp only [lv, val3, a, b]; omega
    rw [hlet 0 (by omega), hlet 1 (by omega), quadL_gt (by omega), quadL_gt (by omega), z2, z3]
    simp only [List.cons_append, List.nil_append]
    rw [scan_letter _ _ (lv_lt l 0), scan_letter _ _ (lv_lt l 1), scan_pad, scan_pad]
    simp [padOf, h1]
  · have z3 : lv l 3 = 0 := by
      have b := nth_ge l 2 (by omega)
      simp only [lv, val3, b]; omega
    rw [hlet 0 (by omega), hlet 1 (by omega), hlet 2 (by omega), quadL_gt (by omega), z3]
    simp only [List.cons_append, List.nil_append]
    rw [scan_letter _ _ (lv_lt l 0), scan_letter _ _ (lv_lt l 1), scan_letter _ _ (lv_lt l 2), scan_pad]
    simp [padOf, h2]
  · rw [hlet 0 (by omega), hlet 1 (by omega), hlet 2 (by omega), hlet 3 (by omega)]
    simp only [List.cons_append, List.nil_append]
    rw [scan_letter _ _ (lv_lt l 0), scan_letter _ _ (lv_lt l 1), scan_letter _ _ (lv_lt l 2), scan_letter _ _ (lv_lt l 3)]
    simp [padOf, Nat.min_eq_left h3]
theorem num4_lv (l : List UInt8) : num4 (lv l 0) (lv l 1) (lv l 2) (lv l 3) = val3 l := by
  have h0 := nth_lt l 0
  have h1 := nth_lt l 1
  have h2 := nth_lt l 2
  have hv : val3 l < 16777216 := by unfold val3; omega
  unfold num4 lv
  generalize val3 l = v at hv ⊢
  simp only [Nat.reduceMul, Nat.reduceSub, Nat.reducePow]
  omega
theorem three_val (l : List UInt8) : three (val3 l) = [UInt8.ofNat (nth l 0), UInt8.ofNat (nth l 1), UInt8.ofNat (nth l 2)] := by
  have h0 := nth_lt l 0
  have h1 := nth_lt l 1
  have h2 := nth_lt l 2
  have e1 : ∀ x y : Nat, x % 256 = y % 256 → UInt8.ofNat x = UInt8.ofNat y := fun x y h => by
    rw [← UInt8.toNat_inj, UInt8.toNat_ofNat', UInt8.toNat_ofNat']; exact h
  have a0 : UInt8.ofNat (val3 l / 65536) = UInt8.ofNat (nth l 0) := e1 _ _ (by unfold val3; omega)
  have a1 : UInt8.ofNat (val3 l / 256) = UInt8.ofNat (nth l 1) := e1 _ _ (by unfold val3; omega)
  have a2 : UInt8.ofNat (val3 l) = UInt8.ofNat (nth l 2) := e1 _ _ (by unfold val3; omega)
  unfold three
  rw [a0, a1, a2]
theorem three_head (l : List UInt8) (h : 3 ≤ l.length) : [UInt8.ofNat (nth l 0), UInt8.ofNat (nth l 1), UInt8.ofNat (nth l 2)] ++ l.drop 3 = l := by
  match l, h with
  | a :: b :: c :: r, _ =>
    show [UInt8.ofNat a.toNat, UInt8.ofNat b.toNat, UInt8.ofNat c.toNat] ++ r = _
    rw [UInt8.ofNat_toNat, UInt8.ofNat_toNat, UInt8.ofNat_toNat]
    rfl
/-- What is written is scanned as fours that give the bytes back. -/
theorem scan_enc (k : Nat) : ∀ (l : List UInt8) (wide : Nat) (vals : List Nat), l.length ≤ k → ∃ xs z, scanB vals 0 (enc wide l) = some (vals ++ xs, z) ∧ xs.length % 4 = 0 ∧ z ≤ 2 ∧ bytes3 xs = l ++ List.replicate z 0 := by
  induction k with
  | zero =>
    intro l wide vals h
    have : l = [] := List.eq_nil_of_length_eq_zero (by omega)
    subst this
    exact ⟨[], 0, by simp [enc_nil, scanB], rfl, by omega, rfl⟩
  | succ k ih =>
    intro l wide vals h
    rcases Nat.eq_zero_or_pos l.length with h0 | h0
    · have : l = [] := List.eq_nil_of_length_eq_zero h0
      subst this
      exact ⟨[], 0, by simp [enc_nil, scanB], rfl, by omega, rfl⟩
    · rw [enc_step wide l h0, List.append_assoc, scan_brk, scan_quad vals l _ h0]
      rcases (by omega : l.length < 3 ∨ 3 ≤ l.length) with h3 | h3
      · have hd : l.drop (min 3 l.length) = [] := List.drop_of_length_le (by omega)
        rw [hd, enc_nil]
        refine ⟨[lv l 0, lv l 1, lv l 2, lv l 3], padOf l, rfl, by simp, by unfold padOf; omega, ?_⟩
        show three (num4 _ _ _ _) ++ [] = _
        rw [num4_lv, three_val, List.append_nil]
        match l, h0, h3 with
        | [a], _, _ => simp [nth, padOf, List.replicate]
        | [a, b], _, _ => simp [nth, padOf]
      · have hp : padOf l = 0 := by unfold padOf; omega
        rw [hp, Nat.min_eq_left h3]
        obtain ⟨xs, z, h1, h2, h4, h5⟩ := ih (l.drop 3) (after wide) (vals ++ [lv l 0, lv l 1, lv l 2, lv l 3]) (by simp; omega)
        refine ⟨[lv l 0, lv l 1, lv l 2, lv l 3] ++ xs, z, by rw [h1]; simp, by simp; omega, h4, ?_⟩
        show three (num4 _ _ _ _) ++ bytes3 xs = _
        rw [num4_lv, three_val, h5, ← List.append_assoc, three_head l h3]
theorem cutPad_zeros (l : List UInt8) (z : Nat) (h : l.length ≤ 4000) : cutPad (l ++ List.replicate z 0) z = (l, 0) := by
  unfold cutPad
  have e : (l ++ List.replicate z (0 : UInt8)).length - z = l.length := by simp
  rw [e, List.drop_left, List.take_left, if_neg (by simp), if_neg (by omega)]
theorem enc_len2 (k : Nat) : ∀ (i : Nat) (l : List UInt8), l.length ≤ k → i ≤ 19 → (enc (4 * i) l).length ≤ 4 * ((l.length + 2) / 3) + 2 * (((l.length + 2) / 3 + i) / 19) := by
  induction k with
  | zero => intro i l h _; have : l = [] := List.eq_nil_of_length_eq_zero (by omega); subst this; simp [enc_nil]
  | succ k ih =>
    intro i l h hi
    rcases Nat.eq_zero_or_pos l.length with h0 | h0
    · have : l = [] := List.eq_nil_of_length_eq_zero h0; subst this; simp [enc_nil]
    · rw [enc_step _ l h0]
      simp only [List.length_append, quad_len]
      have hdl : (l.drop (min 3 l.length)).length = l.length - min 3 l.length := by simp
      by_cases h19 : i = 19
      · subst h19
        have h1 := ih 1 (l.drop (min 3 l.length)) (by omega) (by omega)
        have ha : after (4 * 19) = 4 * 1 := rfl
        have hb : (brk (4 * 19)).length = 2 := rfl
        rw [ha, hb]
        rw [hdl] at h1
        omega
      · have h1 := ih (i + 1) (l.drop (min 3 l.length)) (by omega) (by omega)
        have ha : after (4 * i) = 4 * (i + 1) := by unfold after; rw [if_neg (by omega)]; omega
        have hb : (brk (4 * i)).length = 0 := by unfold brk; rw [if_neg (by omega)]; rfl
        rw [ha, hb]
        rw [hdl] at h1
        omega
/-- BaseBack, the first half, plain: what is written is read. -/
theorem read_enc (l : List UInt8) (h : l.length ≤ 4000) : readB (enc 0 l) = (l, 0) := by
  have h8 := enc_len2 l.length 0 l (Nat.le_refl _) (by omega)
  rw [Nat.mul_zero] at h8
  unfold readB
  rw [if_neg (by omega)]
  obtain ⟨xs, z, h1, h2, h3, h4⟩ := scan_enc l.length l 0 [] (Nat.le_refl _)
  rw [h1]
  simp only [readFin, List.nil_append]
  rw [if_neg (by simp [h2]; omega), h4, cutPad_zeros l z h]
end Go.Proofs.YtlbdnohnngkapaaGreatDoor

namespace Go.Proofs.YtlbdnohnngkapaaGreatDoor

/-- The sixteen digits. -/
def digits : List UInt8 := [48, 49, 50, 51, 52, 53, 54, 55, 56, 57, 65, 66, 67, 68, 69, 70]
/-- Is a byte written as itself? -/
def plainQ (x : Nat) : Bool := decide (32 < x) && decide (x ≤ 126) && !(x == 61)
/-- quote.one. -/
def oneQ (c : UInt8) : List UInt8 := if plainQ c.toNat then [c] else [61, digits.getD (c.toNat / 16) 0, digits.getD (c.toNat % 16) 0]
theorem oneQ_len (c : UInt8) : (oneQ c).length = 1 ∨ (oneQ c).length = 3 := by
  unfold oneQ; split <;> simp
/-- quote.Text, where so many letters stand in the line already. -/
def encQ (wide : Nat) : List UInt8 → List UInt8
  | [] => []
  | c :: r => if 75 < wide + (oneQ c).length then [61, 13, 10] ++ oneQ c ++ encQ (oneQ c).length r else oneQ c ++ encQ (wide + (oneQ c).length) r
theorem encQ_len : ∀ (l : List UInt8) (wide : Nat), (encQ wide l).length ≤ 6 * l.length := by
  intro l
  induction l with
  | nil => intro wide; simp [encQ]
  | cons c r ih =>
    intro wide
    have h1 := oneQ_len c
    have h2 := ih (oneQ c).length
    have h3 := ih (wide + (oneQ c).length)
    unfold encQ
    split
    · simp only [List.length_append, List.length_cons, List.length_nil]; omega
    · simp only [List.length_append, List.length_cons]; omega
end Go.Proofs.YtlbdnohnngkapaaGreatDoor
