import Derived.Test.YtdhmmepcnladcaaDoorMem
import Derived.Lib.IndexMore
namespace Go.Proofs.YtdhmmepcnladcaaDoor

/-- The first place of a byte; -1: none. -/
def idxB (l : List UInt8) (x : Nat) : Int := Lib.indexByte l (UInt8.ofNat x)
/-- What parts something. -/
def tspec : List UInt8 := [40, 41, 60, 62, 64, 44, 59, 58, 92, 34, 47, 91, 93, 63, 61]
def badTok (x : Nat) : Bool := decide (x ≤ 32) || decide (126 < x) || decide (0 ≤ idxB tspec x)
/-- header.Token. -/
def tokB (l : List UInt8) : Bool := !(l == []) && decide (l.length ≤ 30) && !l.any (fun b => badTok b.toNat)
def upR (r : Nat) : Bool := decide (65 ≤ r) && decide (r ≤ 90)
/-- part.Type. -/
def typB (l : List UInt8) : Bool :=
  (Lib.cut l [47]).2.2 && tokB (Lib.cut l [47]).1 && tokB (Lib.cut l [47]).2.1 && !l.any (fun b => upR b.toNat)
/-- part.Many. -/
def manyB (l : List UInt8) : Bool := Lib.hasPrefix l [109, 117, 108, 116, 105, 112, 97, 114, 116, 47]
def badWord (x : Nat) : Bool := decide (x ≤ 32) || decide (126 < x) || x == 34 || x == 60 || x == 62
/-- part.Word. -/
def wordB (l : List UInt8) : Bool := decide (l.length ≤ 120) && !l.any (fun b => badWord b.toNat)
theorem tok_ascii (l : List UInt8) (h : tokB l = true) : ∀ b ∈ l, b.toNat < 128 := by
  intro b hb
  simp only [tokB, Bool.and_eq_true, Bool.not_eq_true'] at h
  have := List.any_eq_false.1 h.2 b hb
  simp [badTok] at this
  omega
theorem cut_backT (l : List UInt8) (c : UInt8) (h : (Lib.cut l [c]).2.2 = true) : l = (Lib.cut l [c]).1 ++ c :: (Lib.cut l [c]).2.1 := by
  have hge := Lib.indexByte_ge l c
  unfold Lib.cut at h ⊢
  rw [Lib.index_one] at h ⊢
  by_cases h0 : 0 ≤ Lib.indexByte l c
  · rw [if_pos h0]
    obtain ⟨k, hk⟩ := Int.eq_ofNat_of_zero_le h0
    rw [hk, Int.toNat_natCast]
    have h1 := (Lib.indexByte_some hk).1
    have hl : k < l.length := by
      rcases Nat.lt_or_ge k l.length with h | h
      · exact h
      · rw [List.getElem?_eq_none h] at h1; cases h1
    have h2 : l[k] = c := by rw [List.getElem?_eq_getElem hl] at h1; exact Option.some.inj h1
    show l = l.take k ++ c :: l.drop (k + 1)
    rw [← h2, ← List.drop_eq_getElem_cons hl, List.take_append_drop]
  · rw [if_neg h0] at h
    cases h
theorem typ_ascii (l : List UInt8) (h0 : (Lib.cut l [47]).2.2 = true) (h1 : tokB (Lib.cut l [47]).1 = true) (h2 : tokB (Lib.cut l [47]).2.1 = true) : ∀ b ∈ l, b.toNat < 128 := by
  intro b hb
  rw [cut_backT l 47 h0] at hb
  simp only [List.mem_append, List.mem_cons] at hb
  rcases hb with hb | rfl | hb
  · exact tok_ascii _ h1 b hb
  · decide
  · exact tok_ascii _ h2 b hb
end Go.Proofs.YtdhmmepcnladcaaDoor
