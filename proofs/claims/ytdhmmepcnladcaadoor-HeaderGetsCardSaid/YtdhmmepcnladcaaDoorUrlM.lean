import Derived.Test.YtdhmmepcnladcaaDoorLinkM
import Derived.Lib.IndexMore
import Derived.Lib.LastIndexByte
namespace Go.Proofs.YtdhmmepcnladcaaDoor

/-! ### An address, as data; what package url computes -/
structure UrlD where
  scheme : List UInt8
  hasHost : Bool
  host : List UInt8
  path : List UInt8
  hasQuery : Bool
  query : List UInt8
  hasFrag : Bool
  frag : List UInt8
def UrlD.cells (u : UrlD) : List Value := [str u.scheme, .bool u.hasHost, str u.host, str u.path, .bool u.hasQuery, str u.query, .bool u.hasFrag, str u.frag]
def UrlD.val (u : UrlD) : Value := .agg #[str u.scheme, .bool u.hasHost, str u.host, str u.path, .bool u.hasQuery, str u.query, .bool u.hasFrag, str u.frag]
def noU : List UInt8 := [34, 60, 62, 92, 94, 96, 123, 124, 125]
def charU (x : Nat) : Bool := decide (32 < x) && decide (x ≤ 126) && decide (Lib.indexByte noU (UInt8.ofNat x) < 0)
def badU (but : List UInt8) (x : Nat) : Bool := !charU x || decide (0 ≤ Lib.indexByte but (UInt8.ofNat x))
def wordU (s but : List UInt8) : Bool := !s.any (fun b => badU but b.toNat)
def schC (x : Nat) : Bool := (decide (97 ≤ x) && decide (x ≤ 122)) || (decide (48 ≤ x) && decide (x ≤ 57)) || x == 43 || x == 45 || x == 46
def schA (x : Nat) : Bool := decide (97 ≤ x) && decide (x ≤ 122)
def schemeU : List UInt8 → Bool
  | [] => true
  | c :: r => schA c.toNat && r.all (fun b => schC b.toNat)
theorem lowC_scheme (s : List UInt8) : schemeU s = (s.all (fun b => schC b.toNat) && (s == [] || schA (nth s 0))) := by
  cases s with
  | nil => rfl
  | cons c r =>
    show (schA c.toNat && r.all _) = ((schC c.toNat && r.all _) && (false || schA c.toNat))
    cases h : schA c.toNat with
    | false => simp
    | true =>
      have : schC c.toNat = true := by unfold schA at h; unfold schC; simp only [h, Bool.true_or]
      simp [this]
/-- url.text. -/
def textU (u : UrlD) : List UInt8 :=
  (if u.scheme = [] then [] else u.scheme ++ [58]) ++ (if u.hasHost then [47, 47] ++ u.host else []) ++ u.path ++ (if u.hasQuery then 63 :: u.query else []) ++ (if u.hasFrag then 35 :: u.frag else [])
def okU (u : UrlD) : Bool := schemeU u.scheme && (wordU u.host [47, 63, 35] && ((u.host == lowL u.host) && (wordU u.path [63, 35] && (wordU u.query [35] && wordU u.frag [35]))))
def formA (u : UrlD) : Bool := (!u.hasHost && !(u.host == [])) || (!u.hasQuery && !(u.query == [])) || (!u.hasFrag && !(u.frag == []))
def formB (u : UrlD) : Bool := if u.hasHost then !(u.path == []) && !(nth u.path 0 == 47) else Lib.hasPrefix u.path [47, 47] || ((u.scheme == []) && decide (0 ≤ Lib.indexByte (Lib.cut u.path [47]).1 58))
/-- url.Check behind its first test. -/
def chkU (u : UrlD) : Nat := if okU u = false then 1 else if formA u || formB u then 4 else if 120 < (textU u).length then 2 else 0
def longU (u : UrlD) : Bool := decide (120 < u.scheme.length) || decide (120 < u.host.length) || decide (120 < u.path.length) || decide (120 < u.query.length) || decide (120 < u.frag.length)
/-- url.Check. -/
def checkU (u : UrlD) : Nat := if longU u then 2 else chkU u
def zeroU : UrlD := ⟨[], false, [], [], false, [], false, []⟩
def stopCS (b : UInt8) : Bool := b != 58 && b != 47
/-- The scheme, and what is behind it. -/
def schemeP (s : List UInt8) : Option (List UInt8 × List UInt8) :=
  if (s.dropWhile stopCS).head? = some 58 then
    (if (s.takeWhile stopCS) = [] ∨ schemeU (lowL (s.takeWhile stopCS)) = false then none else some (lowL (s.takeWhile stopCS), (s.dropWhile stopCS).tail))
  else some ([], s)
def not47 (b : UInt8) : Bool := b != 47
def hostP (s : List UInt8) : Bool × List UInt8 × List UInt8 :=
  if Lib.hasPrefix s [47, 47] then (true, lowL ((s.drop 2).takeWhile not47), (s.drop 2).dropWhile not47) else (false, [], s)
def partsU (s : List UInt8) : Option UrlD :=
  match schemeP (Lib.cut (Lib.cut s [35]).1 [63]).1 with
  | none => none
  | some (sc, r) => some ⟨sc, (hostP r).1, (hostP r).2.1, (hostP r).2.2, (Lib.cut (Lib.cut s [35]).1 [63]).2.2, (Lib.cut (Lib.cut s [35]).1 [63]).2.1, (Lib.cut s [35]).2.2, (Lib.cut s [35]).2.1⟩
/-- url.Parse. -/
def readU (s : List UInt8) : UrlD × Nat :=
  if 120 < s.length then (zeroU, 2) else
  match partsU s with
  | none => (zeroU, 1)
  | some u => if checkU u = 0 then (u, 0) else (zeroU, checkU u)
/-- url.Print. -/
def printU (u : UrlD) : List UInt8 × Nat := if checkU u = 0 then (textU u, 0) else ([], checkU u)

/-! ### Segments -/
def joinC (c : UInt8) : List (List UInt8) → List UInt8
  | [] => []
  | [x] => x
  | x :: y :: r => x ++ c :: joinC c (y :: r)
def consHead (b : UInt8) : List (List UInt8) → List (List UInt8)
  | [] => [[b]]
  | x :: r => (b :: x) :: r
def splitC (c : UInt8) : List UInt8 → List (List UInt8)
  | [] => [[]]
  | b :: l => if b = c then [] :: splitC c l else consHead b (splitC c l)
def isDot (s : List UInt8) : Bool := s == [46] || s == [46, 46]
def popU (out : List (List UInt8)) : List (List UInt8) := if 1 < out.length ∨ (out.length = 1 ∧ out.head? ≠ some []) then out.dropLast else out
def dotStep (last : Bool) (out : List (List UInt8)) (s : List UInt8) : List (List UInt8) :=
  if s = [46] then (if last then out ++ [[]] else out)
  else if s = [46, 46] then (if last then popU out ++ [[]] else popU out)
  else out ++ [s]
def dotsF : List (List UInt8) → List (List UInt8) → List (List UInt8)
  | [], out => out
  | s :: r, out => dotsF r (dotStep r.isEmpty out s)
def slashU (p q : List UInt8) : List UInt8 := if Lib.hasPrefix p [47] && !Lib.hasPrefix q [47] then 47 :: q else q
/-- url.dots. -/
def dotsU (p : List UInt8) : List UInt8 := if p = [] then [] else slashU p (joinC 47 (dotsF (splitC 47 p) []))
/-- url.merged. -/
def mergedU (b : UrlD) (p : List UInt8) : List UInt8 := if b.hasHost && b.path == [] then 47 :: p else b.path.take (Lib.lastIndexByte ⟨b.path.toArray⟩ 47 + 1).toNat ++ p
def ledU (b u : UrlD) : UrlD :=
  if u.scheme ≠ [] then u
  else if u.hasHost then { u with scheme := b.scheme }
  else if u.path = [] then
    (if u.hasQuery then { u with scheme := b.scheme, hasHost := b.hasHost, host := b.host, path := b.path }
     else { u with scheme := b.scheme, hasHost := b.hasHost, host := b.host, path := b.path, hasQuery := b.hasQuery, query := b.query })
  else if nth u.path 0 = 47 then { u with scheme := b.scheme, hasHost := b.hasHost, host := b.host }
  else { u with scheme := b.scheme, hasHost := b.hasHost, host := b.host, path := mergedU b u.path }
def undotU (o : UrlD) : UrlD := if o.hasHost || Lib.hasPrefix o.path [47] then { o with path := dotsU o.path } else o
def endU (o : UrlD) : UrlD × Nat := if (!o.hasHost && Lib.hasPrefix o.path [47, 47]) = true then (zeroU, 4) else if checkU o = 0 then (o, 0) else (zeroU, checkU o)
/-- url.Lead. -/
def leadU (b u : UrlD) : UrlD × Nat :=
  if checkU b ≠ 0 then (zeroU, checkU b)
  else if checkU u ≠ 0 then (zeroU, checkU u)
  else if b.scheme = [] then (zeroU, 4)
  else endU (undotU (ledU b u))

/-! ### Cuts -/
theorem indexByte_tw (l : List UInt8) (c : UInt8) : Lib.indexByte l c = if c ∈ l then ((l.takeWhile (fun b => b != c)).length : Int) else -1 := by
  induction l with
  | nil => rfl
  | cons b l ih =>
    unfold Lib.indexByte
    by_cases h : b = c
    · subst h; simp
    · have h' : c ≠ b := fun e => h e.symm
      rw [ih]
      by_cases hm : c ∈ l
      · have e2 : (((l.takeWhile (fun b => b != c)).length : Int) == -1) = false := by simp
        simp [h, hm, e2]
      · simp [h, h', hm]
theorem indexByte_neg (l : List UInt8) (c : UInt8) : Lib.indexByte l c < 0 ↔ c ∉ l := by
  rw [indexByte_tw]
  by_cases h : c ∈ l
  · rw [if_pos h]; simp [h]
  · rw [if_neg h]; simp [h]
theorem cut_tw (l : List UInt8) (c : UInt8) : Lib.cut l [c] = (l.takeWhile (fun b => b != c), (l.dropWhile (fun b => b != c)).drop 1, decide (c ∈ l)) := by
  unfold Lib.cut
  rw [Lib.index_one, indexByte_tw]
  by_cases h : c ∈ l
  · rw [if_pos h, if_pos (by omega)]
    have e := List.takeWhile_append_dropWhile (p := fun b => b != c) (l := l)
    have e1 : l.take (l.takeWhile (fun b => b != c)).length = l.takeWhile (fun b => b != c) := by
      have := congrArg (List.take (l.takeWhile (fun b => b != c)).length) e
      rw [List.take_left] at this
      exact this.symm
    have e2 : l.drop ((l.takeWhile (fun b => b != c)).length + 1) = (l.dropWhile (fun b => b != c)).drop 1 := by
      rw [← List.drop_drop]
      congr 1
      have := congrArg (List.drop (l.takeWhile (fun b => b != c)).length) e
      rw [List.drop_left] at this
      exact this.symm
    simp [h, e1, e2]
  · rw [if_neg h, if_neg (by omega)]
    have e1 : ∀ l : List UInt8, c ∉ l → l.takeWhile (fun b => b != c) = l ∧ l.dropWhile (fun b => b != c) = [] := by
      intro l
      induction l with
      | nil => simp
      | cons b l ih =>
        intro h
        simp only [List.mem_cons, not_or] at h
        have h' : b ≠ c := fun e => h.1 e.symm
        simp [h', ih h.2]
    simp [h, e1 l h]
theorem cut_app (x y : List UInt8) (c : UInt8) (h : ∀ b ∈ x, b ≠ c) : Lib.cut (x ++ c :: y) [c] = (x, y, true) := by
  rw [cut_tw, List.takeWhile_append_of_pos (by simpa using h), List.dropWhile_append_of_pos (by simpa using h)]
  simp
theorem cut_not (x : List UInt8) (c : UInt8) (h : ∀ b ∈ x, b ≠ c) : Lib.cut x [c] = (x, [], false) := by
  have e : Lib.index x [c] < 0 := by rw [Lib.index_one, indexByte_neg]; exact fun hm => h c hm rfl
  unfold Lib.cut
  rw [if_neg (by omega)]
theorem first_of (l : List UInt8) (c : UInt8) (h : c ∈ l) : ∃ x y, l = x ++ c :: y ∧ ∀ b ∈ x, b ≠ c := by
  induction l with
  | nil => cases h
  | cons a l ih =>
    by_cases e : a = c
    · subst e; exact ⟨[], l, rfl, by simp⟩
    · have hm : c ∈ l := by
        simp only [List.mem_cons] at h
        rcases h with h | h
        · exact absurd h.symm e
        · exact h
      obtain ⟨x, y, rfl, hx⟩ := ih hm
      exact ⟨a :: x, y, rfl, by intro b hb; simp only [List.mem_cons] at hb; rcases hb with rfl | hb; exact e; exact hx b hb⟩
theorem cut_back (l : List UInt8) (c : UInt8) : l = (Lib.cut l [c]).1 ++ (if (Lib.cut l [c]).2.2 then c :: (Lib.cut l [c]).2.1 else []) := by
  by_cases h : c ∈ l
  · obtain ⟨x, y, rfl, hx⟩ := first_of l c h
    rw [cut_app x y c hx]
    simp
  · rw [cut_not l c (fun b hb e => h (e ▸ hb))]
    simp
end Go.Proofs.YtdhmmepcnladcaaDoor
