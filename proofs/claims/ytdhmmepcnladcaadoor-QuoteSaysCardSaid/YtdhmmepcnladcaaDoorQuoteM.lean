import Derived.Test.YtdhmmepcnladcaaDoorMem
namespace Go.Proofs.YtdhmmepcnladcaaDoor

/-- The sixteen digits. -/
def digits : List UInt8 := [48, 49, 50, 51, 52, 53, 54, 55, 56, 57, 65, 66, 67, 68, 69, 70]
/-- Is a byte written as itself? -/
def plainQ (x : Nat) : Bool := decide (32 < x) && decide (x ≤ 126) && !(x == 61)
/-- quote.one. -/
def oneQ (c : UInt8) : List UInt8 := if plainQ c.toNat then [c] else [61, digits.getD (c.toNat / 16) 0, digits.getD (c.toNat % 16) 0]
theorem oneQ_len (c : UInt8) : (oneQ c).length = 1 ∨ (oneQ c).length = 3 := by
  unfold oneQ; split <;> simp
/-- quote.Text, where so many letters stand in the line already. -/
def encQ (wide : Nat) : List UInt8 → List UInt8
  | [] => []
  | c :: r => if 75 < wide + (oneQ c).length then [61, 13, 10] ++ oneQ c ++ encQ (oneQ c).length r else oneQ c ++ encQ (wide + (oneQ c).length) r
theorem encQ_len : ∀ (l : List UInt8) (wide : Nat), (encQ wide l).length ≤ 6 * l.length := by
  intro l
  induction l with
  | nil => intro wide; simp [encQ]
  | cons c r ih =>
    intro wide
    have h1 := oneQ_len c
    have h2 := ih (oneQ c).length
    have h3 := ih (wide + (oneQ c).length)
    unfold encQ
    split
    · simp only [List.length_append, List.length_cons, List.length_nil]; omega
    · simp only [List.length_append, List.length_cons]; omega
end Go.Proofs.YtdhmmepcnladcaaDoor
