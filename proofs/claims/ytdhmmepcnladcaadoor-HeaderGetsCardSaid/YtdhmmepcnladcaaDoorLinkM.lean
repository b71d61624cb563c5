import Derived.Test.YtdhmmepcnladcaaDoorMem
import Derived.Lib.Replace
import Derived.Lib.IndexLaws
import Derived.Lib.IndexBytes
import Derived.Lib.Strings
namespace Go.Proofs.YtdhmmepcnladcaaDoor

/-! ### What package link computes, said by what is still to be read -/
/-- Up to a byte for which p says yes; and from it on. -/
def stopT (p : Nat → Bool) (l : List UInt8) : List UInt8 := l.takeWhile (fun b => !p b.toNat)
def stopD (p : Nat → Bool) (l : List UInt8) : List UInt8 := l.dropWhile (fun b => !p b.toNat)
def isSp (x : Nat) : Bool := x == 32 || x == 9 || x == 13 || x == 10 || x == 12
def isLet (x : Nat) : Bool := decide (97 ≤ x ||| 32) && decide (x ||| 32 ≤ 122)
def pNotSp (x : Nat) : Bool := !isSp x
def pName (x : Nat) : Bool := isSp x || x == 47 || x == 62
def pAttr (x : Nat) : Bool := !isSp x && x != 47
def pEq (x : Nat) : Bool := isSp x || x == 47 || x == 62 || x == 61
def pVal (x : Nat) : Bool := isSp x || x == 62
def pIs (q x : Nat) : Bool := x == q
def lowB (b : UInt8) : UInt8 := if 65 ≤ b ∧ b ≤ 90 then b + 32 else b
def lowL (l : List UInt8) : List UInt8 := l.map lowB
def leadsB (l : List UInt8) : Bool := l == [104, 114, 101, 102] || l == [115, 114, 99]
def unamp (l : List UInt8) : List UInt8 := Lib.replaceAll l [38, 97, 109, 112, 59] [38]
def pastL (t r : List UInt8) : List UInt8 := if Lib.index r t < 0 then [] else r.drop ((Lib.index r t).toNat + t.length)
structure LinkD where
  frm : Nat
  til : Nat
  text : List UInt8
/-- A value: what is left where it begins, where it ends, where one goes on. -/
def valueR (r : List UInt8) : List UInt8 × List UInt8 × List UInt8 :=
  match stopD pNotSp r with
  | [] => ([], [], [])
  | c :: r2 => if c = 34 ∨ c = 39 then (r2, stopD (pIs c.toNat) r2, (stopD (pIs c.toNat) r2).drop 1) else (c :: r2, stopD pVal (c :: r2), stopD pVal (c :: r2))
def addLink (n : Nat) (name : List UInt8) (seen : List (List UInt8)) (v : List UInt8 × List UInt8 × List UInt8) (ls : List LinkD) : List LinkD :=
  if leadsB name && !seen.contains name then ls ++ [⟨n - v.1.length, n - v.2.1.length, unamp (v.1.take (v.1.length - v.2.1.length))⟩] else ls
def attrsL (n : Nat) : Nat → List UInt8 → List (List UInt8) → List LinkD → Option (List UInt8 × List LinkD)
  | 0, _, _, _ => none
  | f + 1, r, seen, ls =>
    match stopD pAttr r with
    | [] => none
    | c :: r2 =>
      if c = 62 then some (r2, ls)
      else if (stopD pNotSp (stopD pEq r2)).head? = some 61 then
        attrsL n f (valueR (stopD pNotSp (stopD pEq r2)).tail).2.2 (lowL (c :: stopT pEq r2) :: seen) (addLink n (lowL (c :: stopT pEq r2)) seen (valueR (stopD pNotSp (stopD pEq r2)).tail) ls)
      else attrsL n f (stopD pEq r2) (lowL (c :: stopT pEq r2) :: seen) ls
def tagL (n : Nat) (r : List UInt8) (shut : Bool) (out : List LinkD) : List UInt8 × List LinkD :=
  match attrsL n ((stopD pName r).length + 1) (stopD pName r) [] [] with
  | none => ([], out)
  | some (r', ls) => (r', if shut then out else out ++ ls)
/-- One round of Find, at a < or the end. -/
def stepL (n : Nat) (r : List UInt8) (out : List LinkD) : List UInt8 × List LinkD :=
  if Lib.hasPrefix r [60, 33, 45, 45] then (pastL [45, 45, 62] (r.drop 4), out)
  else if Lib.hasPrefix r [60, 33] || Lib.hasPrefix r [60, 63] then (pastL [62] r, out)
  else if decide (1 < r.length) && isLet (nth r 1) then tagL n (r.drop 1) false out
  else if decide (2 < r.length) && nth r 1 == 47 && isLet (nth r 2) then tagL n (r.drop 2) true out
  else (r.drop 1, out)
def findL (n : Nat) : Nat → List UInt8 → List LinkD → Option (List LinkD)
  | 0, _, out => some out
  | f + 1, r, out =>
    if r = [] then some out
    else if 60 < (stepL n (stopD (pIs 60) r) out).2.length then none
    else findL n f (stepL n (stopD (pIs 60) r) out).1 (stepL n (stopD (pIs 60) r) out).2
/-- link.Find of few enough bytes. -/
def findB (b : List UInt8) : Option (List LinkD) := findL b.length b.length b []

/-! ### Laws of what is left -/
theorem stop_app (p : Nat → Bool) (l : List UInt8) : stopT p l ++ stopD p l = l := List.takeWhile_append_dropWhile
theorem stopD_len (p : Nat → Bool) (l : List UInt8) : (stopD p l).length ≤ l.length := (List.dropWhile_suffix _).length_le
theorem stopD_suffix (p : Nat → Bool) (l : List UInt8) : stopD p l <:+ l := List.dropWhile_suffix _
theorem stopT_len (p : Nat → Bool) (l : List UInt8) : (stopT p l).length + (stopD p l).length = l.length := by
  have := congrArg List.length (stop_app p l); simpa using this
theorem stopT_not (p : Nat → Bool) (l : List UInt8) : ∀ b ∈ stopT p l, p b.toNat = false := by
  induction l with
  | nil => intro b hb; simp [stopT] at hb
  | cons a l ih =>
    intro b hb
    unfold stopT at hb
    rw [List.takeWhile_cons] at hb
    split at hb
    · rename_i h
      simp only [List.mem_cons] at hb
      rcases hb with rfl | hb
      · simpa using h
      · exact ih b hb
    · simp at hb
theorem stopD_head (p : Nat → Bool) (l : List UInt8) (c : UInt8) (r : List UInt8) (h : stopD p l = c :: r) : p c.toNat = true := by
  have := List.head?_dropWhile_not (fun b : UInt8 => !p b.toNat) l
  unfold stopD at h
  rw [h] at this
  simpa using this
/-- What stops in x ++ y, where p says no all over x, stops in y. -/
theorem stopD_pre (p : Nat → Bool) : ∀ (x y : List UInt8), (∀ b ∈ x, p b.toNat = false) → stopD p (x ++ y) = stopD p y ∧ stopT p (x ++ y) = x ++ stopT p y
  | [], _, _ => ⟨rfl, rfl⟩
  | a :: x, y, h => by
    have ha := h a (by simp)
    have := stopD_pre p x y (fun b hb => h b (by simp [hb]))
    unfold stopD stopT at this ⊢
    rw [List.cons_append, List.dropWhile_cons, List.takeWhile_cons]
    simp [ha, this]
theorem stopD_at (p : Nat → Bool) (c : UInt8) (y : List UInt8) (h : p c.toNat = true) : stopD p (c :: y) = c :: y ∧ stopT p (c :: y) = [] := by
  simp [stopD, stopT, List.dropWhile_cons, List.takeWhile_cons, h]
end Go.Proofs.YtdhmmepcnladcaaDoor
