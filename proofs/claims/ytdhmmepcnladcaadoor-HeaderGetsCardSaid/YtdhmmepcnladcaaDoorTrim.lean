import Derived.Test.YtdhmmepcnladcaaDoorStr
import Derived.Shelf.Strings.SlTrimAscii
namespace Go.Proofs.YtdhmmepcnladcaaDoor
open Go.RowKit

theorem HasSuffix_any (l p : List UInt8) (w : World) (hl : l.length ≤ maxLen) : Calls Tryd.prog 137 #[str l, .string ⟨p.toArray⟩] w fun e w' => e = .returned (.bool (Lib.hasSuffix l p)) ∧ w = w' := by
  refine (Go.Proofs.Tryd.strings_HasSuffix ⟨l.toArray⟩ ⟨p.toArray⟩ w (by unfold maxLen at hl; simpa [ByteArray.size] using hl)).mono ?_
  rintro e w1 ⟨rfl, rfl⟩
  exact ⟨rfl, rfl⟩
theorem TrimRight_any (l cs : List UInt8) (w : World) (hl : l.length ≤ maxLen) (hc : cs.length < 4294967281) (ha : cs.all (fun b => decide (b.toNat < 128)) = true) :
    Calls Tryd.prog 33 #[str l, .string ⟨cs.toArray⟩] w fun e w' => e = .returned (str (Lib.trimRightS l cs)) ∧ Below w.heap.size w w' :=
  Any.strings_TrimRight_laid Go.Proofs.Tryd.lays162 (by kernel_rfl) ⟨l.toArray⟩ ⟨cs.toArray⟩ w (by unfold maxLen at hl; simpa [ByteArray.size] using hl) (by simpa [ByteArray.size] using hc) (ascii_of_all ha)
end Go.Proofs.YtdhmmepcnladcaaDoor
