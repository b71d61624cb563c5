/-
  NARROWER THAN 'FOR EVERY INPUT', by the rows' own cells (each row's printed sentence says how): PartTree: loops · PartWraps: loops.
  DERIVED. THE GIVEN ROWS OF THIS SEAT. 5 by the template 'for every input the law returns true; each argument reads behind the call as it read before'; 0 by the template 'total and deterministic' (their statements: YtoolfhjlhhcbgaaTotals.lean).
  GIVEN WITH THE SEED: the statements are not yours to turn. If you find one false, say at which input.
  Laid BY PROGRAM, IN A SANDBOX (cutbox-rows.mjs): the forced cells as the released guide's own fill.sh prints them over the translation 564b8080efd81a8b… (all of the seat's roots in one cut). By AI agents, Wed Nov 11 2026. No macro, syntax, notation, axiom, sorry.
-/
import Derived.Test.YtoolfhjlhhcbgaaChecked
import GoSem.Claim
import GoSem.ClaimJoined
import GoSem.ClaimMapViews
import Derived.JoinedTies
import Derived.KernelRfl
namespace Go.Proofs.Ytoolfhjlhhcbgaa
/- THE CELL 'sum', in the pinned program and in every row, IS THE sha256 OF THE DUMP (.gsa) THAT YtoolfhjlhhcbgaaProg.lean LOADS. Nothing in Lean hashes anything: it is a label: what it is worth is what the hold of that sum in a sandbox is worth. -/
noncomputable def Try.pinned : Pinned := { name := "ytoolfhjlhhcbgaa", sum := "564b8080efd81a8bce766101b5a30119dddb76b00c1fc80f6e02e97c807d6aee", checked := Try.checked }
namespace Rows
def none {H : Type} : Left H := { results := [], args := [] }

/-- 'scrapbooklaw.Names': WHATEVER THE INPUT: true; the input reads as it did. -/
def namesSpec : ChangeSpec := { name := "names", fn := fun _ => fun
  | [] => { results := [.lit (.bool true)], args := [] }
  | _ => none }
def namesRow : OpenClaim := { program := "ytoolfhjlhhcbgaa", sum := "564b8080efd81a8bce766101b5a30119dddb76b00c1fc80f6e02e97c807d6aee", func := "scrapbook/scrapbooklaw.Names", spec := "names", apart := false }
def NamesSaid : Prop := namesRow.holds Try.pinned (OpenSpec.ofChange namesSpec)

/-- ITS FALSE NEIGHBOUR: 'it returns false'. Refute it at one input. -/
def namesWrong : ChangeSpec := { name := "names", fn := fun _ => fun
  | [] => { results := [.lit (.bool false)], args := [] }
  | _ => none }
def NamesWrongFalsely : Prop := namesRow.holds Try.pinned (OpenSpec.ofChange namesWrong)

/-- 'scrapbooklaw.BaseParts': WHATEVER THE INPUT: true; the input reads as it did. -/
def basePartsSpec : ChangeSpec := { name := "baseParts", fn := fun _ => fun
  | [d1, d2] => { results := [.lit (.bool true)], args := [d1, d2] }
  | _ => none }
def basePartsRow : OpenClaim := { program := "ytoolfhjlhhcbgaa", sum := "564b8080efd81a8bce766101b5a30119dddb76b00c1fc80f6e02e97c807d6aee", func := "scrapbook/scrapbooklaw.BaseParts", spec := "baseParts", inPlace := ["internal/abi.NoEscape", "internal/bytealg.IndexByteString"], apart := false }
def BasePartsSaid : Prop := basePartsRow.holds Try.pinned (OpenSpec.ofChange basePartsSpec)

/-- ITS FALSE NEIGHBOUR: 'it returns false'. Refute it at one input. -/
def basePartsWrong : ChangeSpec := { name := "baseParts", fn := fun _ => fun
  | [d1, d2] => { results := [.lit (.bool false)], args := [d1, d2] }
  | _ => none }
def BasePartsWrongFalsely : Prop := basePartsRow.holds Try.pinned (OpenSpec.ofChange basePartsWrong)

/-- 'scrapbooklaw.BaseSays': WHATEVER THE INPUT: true; the input reads as it did. -/
def baseSaysSpec : ChangeSpec := { name := "baseSays", fn := fun _ => fun
  | [d1, d2] => { results := [.lit (.bool true)], args := [d1, d2] }
  | _ => none }
def baseSaysRow : OpenClaim := { program := "ytoolfhjlhhcbgaa", sum := "564b8080efd81a8bce766101b5a30119dddb76b00c1fc80f6e02e97c807d6aee", func := "scrapbook/scrapbooklaw.BaseSays", spec := "baseSays", inPlace := ["internal/abi.NoEscape", "internal/bytealg.IndexByteString"], apart := false }
def BaseSaysSaid : Prop := baseSaysRow.holds Try.pinned (OpenSpec.ofChange baseSaysSpec)

/-- ITS FALSE NEIGHBOUR: 'it returns false'. Refute it at one input. -/
def baseSaysWrong : ChangeSpec := { name := "baseSays", fn := fun _ => fun
  | [d1, d2] => { results := [.lit (.bool false)], args := [d1, d2] }
  | _ => none }
def BaseSaysWrongFalsely : Prop := baseSaysRow.holds Try.pinned (OpenSpec.ofChange baseSaysWrong)

/-- 'scrapbooklaw.PartTree': WHATEVER THE INPUT: true; the input reads as it did. -/
def partTreeSpec : ChangeSpec := { name := "partTree", fn := fun _ => fun
  | [d] => { results := [.lit (.bool true)], args := [d] }
  | _ => none }
def partTreeRow : OpenClaim := { program := "ytoolfhjlhhcbgaa", sum := "564b8080efd81a8bce766101b5a30119dddb76b00c1fc80f6e02e97c807d6aee", func := "scrapbook/scrapbooklaw.PartTree", spec := "partTree", inPlace := ["internal/bytealg.IndexByteString", "internal/bytealg.IndexString"], unfollowed := true, recurses := true, named := ["internal/bytealg.MaxLen"], loops := true, apart := false }
def PartTreeSaid : Prop := partTreeRow.holds Try.pinned (OpenSpec.ofChange partTreeSpec)

/-- ITS FALSE NEIGHBOUR: 'it returns false'. Refute it at one input. -/
def partTreeWrong : ChangeSpec := { name := "partTree", fn := fun _ => fun
  | [d] => { results := [.lit (.bool false)], args := [d] }
  | _ => none }
def PartTreeWrongFalsely : Prop := partTreeRow.holds Try.pinned (OpenSpec.ofChange partTreeWrong)

/-- 'scrapbooklaw.PartWraps': WHATEVER THE INPUT: true; the input reads as it did. -/
def partWrapsSpec : ChangeSpec := { name := "partWraps", fn := fun _ => fun
  | [d1, d2] => { results := [.lit (.bool true)], args := [d1, d2] }
  | _ => none }
def partWrapsRow : OpenClaim := { program := "ytoolfhjlhhcbgaa", sum := "564b8080efd81a8bce766101b5a30119dddb76b00c1fc80f6e02e97c807d6aee", func := "scrapbook/scrapbooklaw.PartWraps", spec := "partWraps", inPlace := ["internal/bytealg.IndexByteString", "internal/bytealg.IndexString"], unfollowed := true, recurses := true, named := ["internal/bytealg.MaxLen"], loops := true, apart := false }
def PartWrapsSaid : Prop := partWrapsRow.holds Try.pinned (OpenSpec.ofChange partWrapsSpec)

/-- ITS FALSE NEIGHBOUR: 'it returns false'. Refute it at one input. -/
def partWrapsWrong : ChangeSpec := { name := "partWraps", fn := fun _ => fun
  | [d1, d2] => { results := [.lit (.bool false)], args := [d1, d2] }
  | _ => none }
def PartWrapsWrongFalsely : Prop := partWrapsRow.holds Try.pinned (OpenSpec.ofChange partWrapsWrong)

/- THE SECOND FORM. 'bulk': how many values and letters a reading holds, each counted each time it is reached (what is shared counts as often as it is met; a slice's spare places count too). A statement '..UptoSaid' is the law's where the arguments, and the package variables that the reading takes, are together of bulk at most 1048576: NARROWER than '..Said'. Prove '..Said' where nothing that the law and all that it calls make is longer than what came in: it says more and counts as full. Else prove '..UptoSaid'. A law counts once. -/
mutual
def uptoBulk {H : Type} : DataW H → Nat
  | .lit (.string bytes) => bytes.length + 1
  | .lit _ => 1
  | .nil => 1
  | .ptr d => uptoBulk d + 1
  | .slice elems spare => uptoBulkAll elems + uptoBulkAll spare + 1
  | .agg parts => uptoBulkAll parts + 1
  | .iface _ d => uptoBulk d + 1
  | .map entries => uptoBulkEntries entries + 1
  | .held _ => 1
def uptoBulkAll {H : Type} : List (DataW H) → Nat
  | [] => 0
  | d :: r => uptoBulk d + uptoBulkAll r
def uptoBulkEntries {H : Type} : List (Lit × DataW H) → Nat
  | [] => 0
  | x :: r => uptoBulkEntry x + uptoBulkEntries r
def uptoBulkEntry {H : Type} : Lit × DataW H → Nat
  | (.string bytes, d) => bytes.length + uptoBulk d + 1
  | (_, d) => uptoBulk d + 1
 end
def uptoSmall : (H : Type) → List (DataW H) → Bool := fun _ ds => decide (uptoBulkAll ds ≤ 1048576)
def OpenSpec.upto (s : _root_.Go.ChangeSpec) : _root_.Go.OpenSpec := { _root_.Go.OpenSpec.ofChange s with cond := some uptoSmall }

/-- 'scrapbooklaw.Names', WHERE WHAT IT READS IS OF BULK AT MOST 1048576: true; the input reads as it did. -/
def namesUptoRow : OpenClaim := { program := "ytoolfhjlhhcbgaa", sum := "564b8080efd81a8bce766101b5a30119dddb76b00c1fc80f6e02e97c807d6aee", func := "scrapbook/scrapbooklaw.Names", spec := "names", apart := false, narrowed := true }
def NamesUptoSaid : Prop := namesUptoRow.holds Try.pinned (OpenSpec.upto namesSpec)

/-- 'scrapbooklaw.BaseParts', WHERE WHAT IT READS IS OF BULK AT MOST 1048576: true; the input reads as it did. -/
def basePartsUptoRow : OpenClaim := { program := "ytoolfhjlhhcbgaa", sum := "564b8080efd81a8bce766101b5a30119dddb76b00c1fc80f6e02e97c807d6aee", func := "scrapbook/scrapbooklaw.BaseParts", spec := "baseParts", inPlace := ["internal/abi.NoEscape", "internal/bytealg.IndexByteString"], apart := false, narrowed := true }
def BasePartsUptoSaid : Prop := basePartsUptoRow.holds Try.pinned (OpenSpec.upto basePartsSpec)

/-- 'scrapbooklaw.BaseSays', WHERE WHAT IT READS IS OF BULK AT MOST 1048576: true; the input reads as it did. -/
def baseSaysUptoRow : OpenClaim := { program := "ytoolfhjlhhcbgaa", sum := "564b8080efd81a8bce766101b5a30119dddb76b00c1fc80f6e02e97c807d6aee", func := "scrapbook/scrapbooklaw.BaseSays", spec := "baseSays", inPlace := ["internal/abi.NoEscape", "internal/bytealg.IndexByteString"], apart := false, narrowed := true }
def BaseSaysUptoSaid : Prop := baseSaysUptoRow.holds Try.pinned (OpenSpec.upto baseSaysSpec)

/-- 'scrapbooklaw.PartTree', WHERE WHAT IT READS IS OF BULK AT MOST 1048576: true; the input reads as it did. -/
def partTreeUptoRow : OpenClaim := { program := "ytoolfhjlhhcbgaa", sum := "564b8080efd81a8bce766101b5a30119dddb76b00c1fc80f6e02e97c807d6aee", func := "scrapbook/scrapbooklaw.PartTree", spec := "partTree", inPlace := ["internal/bytealg.IndexByteString", "internal/bytealg.IndexString"], unfollowed := true, recurses := true, named := ["internal/bytealg.MaxLen"], loops := true, apart := false, narrowed := true }
def PartTreeUptoSaid : Prop := partTreeUptoRow.holds Try.pinned (OpenSpec.upto partTreeSpec)

/-- 'scrapbooklaw.PartWraps', WHERE WHAT IT READS IS OF BULK AT MOST 1048576: true; the input reads as it did. -/
def partWrapsUptoRow : OpenClaim := { program := "ytoolfhjlhhcbgaa", sum := "564b8080efd81a8bce766101b5a30119dddb76b00c1fc80f6e02e97c807d6aee", func := "scrapbook/scrapbooklaw.PartWraps", spec := "partWraps", inPlace := ["internal/bytealg.IndexByteString", "internal/bytealg.IndexString"], unfollowed := true, recurses := true, named := ["internal/bytealg.MaxLen"], loops := true, apart := false, narrowed := true }
def PartWrapsUptoSaid : Prop := partWrapsUptoRow.holds Try.pinned (OpenSpec.upto partWrapsSpec)

end Rows
end Go.Proofs.Ytoolfhjlhhcbgaa
