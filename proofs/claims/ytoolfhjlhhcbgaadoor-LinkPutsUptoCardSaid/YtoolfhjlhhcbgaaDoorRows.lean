/-
  NARROWER THAN 'FOR EVERY INPUT', by the rows' own cells (each row's printed sentence says how): BaseBack: laid · PartSays: loops, laid · LinkPuts: laid · LinkNone: laid · QuoteParts: laid · QuoteBack: laid.
  DERIVED. THE GIVEN ROWS OF THIS SEAT. 6 by the template 'for every input the law returns true; each argument reads behind the call as it read before'; 0 by the template 'total and deterministic' (their statements: YtoolfhjlhhcbgaaDoorTotals.lean).
  GIVEN WITH THE SEED: the statements are not yours to turn. If you find one false, say at which input.
  Laid BY PROGRAM, IN A SANDBOX (cutbox-rows.mjs): the forced cells as the released guide's own fill.sh prints them over the translation e3620f4228246478… (all of the seat's roots in one cut). By AI agents, Wed Nov 11 2026. No macro, syntax, notation, axiom, sorry.
-/
import Derived.Test.YtoolfhjlhhcbgaaDoorChecked
import GoSem.PinnedTables
import GoSem.Claim
import GoSem.ClaimJoined
import GoSem.ClaimMapViews
import Derived.JoinedTies
import Derived.KernelRfl
namespace Go.Proofs.YtoolfhjlhhcbgaaDoor
/- THE CELL 'sum', in the pinned program and in every row, IS THE sha256 OF THE DUMP (.gsa) THAT YtoolfhjlhhcbgaaDoorProg.lean LOADS. Nothing in Lean hashes anything: it is a label: what it is worth is what the hold of that sum in a sandbox is worth. -/
noncomputable def Tryd.pinned : Pinned := { name := "ytoolfhjlhhcbgaadoor", sum := "e3620f4228246478a970543591101af0269f9dc1ae9a447c98b4151d314af885", checked := Tryd.checked }
namespace Rows
def none {H : Type} : Left H := { results := [], args := [] }

/- WHAT THE LISTED PACKAGE-LEVEL VARIABLES READ AS WHEN THE CALL BEGINS. Each datum BY PROGRAM (the guide's laid-datum.mjs) off the statement by which the dump's own 'gosem.cut.vars' lays the variable. In a bare row this is a premise. The card (YtoolfhjlhhcbgaaDoorCards.lean) ties it to the program's text. -/
def laid_unicode_utf8_acceptRanges {H : Type} : DataW H := .agg [.agg [.lit (.int .u8 128), .lit (.int .u8 191)], .agg [.lit (.int .u8 160), .lit (.int .u8 191)], .agg [.lit (.int .u8 128), .lit (.int .u8 159)], .agg [.lit (.int .u8 144), .lit (.int .u8 191)], .agg [.lit (.int .u8 128), .lit (.int .u8 143)], .agg [.lit (.int .u8 0), .lit (.int .u8 0)], .agg [.lit (.int .u8 0), .lit (.int .u8 0)], .agg [.lit (.int .u8 0), .lit (.int .u8 0)], .agg [.lit (.int .u8 0), .lit (.int .u8 0)], .agg [.lit (.int .u8 0), .lit (.int .u8 0)], .agg [.lit (.int .u8 0), .lit (.int .u8 0)], .agg [.lit (.int .u8 0), .lit (.int .u8 0)], .agg [.lit (.int .u8 0), .lit (.int .u8 0)], .agg [.lit (.int .u8 0), .lit (.int .u8 0)], .agg [.lit (.int .u8 0), .lit (.int .u8 0)], .agg [.lit (.int .u8 0), .lit (.int .u8 0)]]
/-- One of Go's own tables, pinned by name: the form's constant. -/
def laid_unicode_utf8_first : DataW Unit := Go.Pinned.utf8First

/-- 'scrapbooklaw.BaseBack': WHATEVER THE INPUT: true; the input reads as it did. -/
def baseBackSpec : ChangeSpec := { name := "baseBack", fn := fun _ => fun
  | [d1, d2] => { results := [.lit (.bool true)], args := [d1, d2] }
  | _ => none }
def baseBackRow : OpenClaim := { program := "ytoolfhjlhhcbgaadoor", sum := "e3620f4228246478a970543591101af0269f9dc1ae9a447c98b4151d314af885", func := "scrapbook/scrapbooklaw.BaseBack", spec := "baseBack", inPlace := ["internal/bytealg.IndexByteString", "internal/abi.NoEscape", "internal/bytealg.CountString", "internal/bytealg.IndexString", "internal/bytealg.MakeNoZero"], unfollowed := true, recurses := true, named := ["unicode/utf8.first", "unicode/utf8.acceptRanges", "internal/bytealg.MaxLen"], apart := false, laid := [("unicode/utf8.acceptRanges", laid_unicode_utf8_acceptRanges), ("unicode/utf8.first", laid_unicode_utf8_first)] }
def BaseBackSaid : Prop := baseBackRow.holds Tryd.pinned (OpenSpec.ofChange baseBackSpec)

/-- ITS FALSE NEIGHBOUR: 'it returns false'. Refute it at one input. -/
def baseBackWrong : ChangeSpec := { name := "baseBack", fn := fun _ => fun
  | [d1, d2] => { results := [.lit (.bool false)], args := [d1, d2] }
  | _ => none }
def BaseBackWrongFalsely : Prop := baseBackRow.holds Tryd.pinned (OpenSpec.ofChange baseBackWrong)

/-- 'scrapbooklaw.PartSays': WHATEVER THE INPUT: true; the input reads as it did. -/
def partSaysSpec : ChangeSpec := { name := "partSays", fn := fun _ => fun
  | [d1, d2, d3] => { results := [.lit (.bool true)], args := [d1, d2, d3] }
  | _ => none }
def partSaysRow : OpenClaim := { program := "ytoolfhjlhhcbgaadoor", sum := "e3620f4228246478a970543591101af0269f9dc1ae9a447c98b4151d314af885", func := "scrapbook/scrapbooklaw.PartSays", spec := "partSays", inPlace := ["internal/bytealg.IndexByteString", "internal/bytealg.IndexString", "internal/abi.NoEscape", "internal/bytealg.MakeNoZero"], unfollowed := true, recurses := true, named := ["internal/bytealg.MaxLen", "unicode/utf8.first", "unicode/utf8.acceptRanges"], loops := true, apart := false, laid := [("unicode/utf8.acceptRanges", laid_unicode_utf8_acceptRanges), ("unicode/utf8.first", laid_unicode_utf8_first)] }
def PartSaysSaid : Prop := partSaysRow.holds Tryd.pinned (OpenSpec.ofChange partSaysSpec)

/-- ITS FALSE NEIGHBOUR: 'it returns false'. Refute it at one input. -/
def partSaysWrong : ChangeSpec := { name := "partSays", fn := fun _ => fun
  | [d1, d2, d3] => { results := [.lit (.bool false)], args := [d1, d2, d3] }
  | _ => none }
def PartSaysWrongFalsely : Prop := partSaysRow.holds Tryd.pinned (OpenSpec.ofChange partSaysWrong)

/-- 'scrapbooklaw.LinkPuts': WHATEVER THE INPUT: true; the input reads as it did. -/
def linkPutsSpec : ChangeSpec := { name := "linkPuts", fn := fun _ => fun
  | [d1, d2] => { results := [.lit (.bool true)], args := [d1, d2] }
  | _ => none }
def linkPutsRow : OpenClaim := { program := "ytoolfhjlhhcbgaadoor", sum := "e3620f4228246478a970543591101af0269f9dc1ae9a447c98b4151d314af885", func := "scrapbook/scrapbooklaw.LinkPuts", spec := "linkPuts", inPlace := ["internal/bytealg.IndexByteString", "internal/bytealg.IndexString", "internal/bytealg.CountString", "internal/abi.NoEscape", "internal/bytealg.MakeNoZero"], unfollowed := true, recurses := true, named := ["internal/bytealg.MaxLen", "unicode/utf8.first", "unicode/utf8.acceptRanges"], apart := false, laid := [("unicode/utf8.acceptRanges", laid_unicode_utf8_acceptRanges), ("unicode/utf8.first", laid_unicode_utf8_first)] }
def LinkPutsSaid : Prop := linkPutsRow.holds Tryd.pinned (OpenSpec.ofChange linkPutsSpec)

/-- ITS FALSE NEIGHBOUR: 'it returns false'. Refute it at one input. -/
def linkPutsWrong : ChangeSpec := { name := "linkPuts", fn := fun _ => fun
  | [d1, d2] => { results := [.lit (.bool false)], args := [d1, d2] }
  | _ => none }
def LinkPutsWrongFalsely : Prop := linkPutsRow.holds Tryd.pinned (OpenSpec.ofChange linkPutsWrong)

/-- 'scrapbooklaw.LinkNone': WHATEVER THE INPUT: true; the input reads as it did. -/
def linkNoneSpec : ChangeSpec := { name := "linkNone", fn := fun _ => fun
  | [d1, d2] => { results := [.lit (.bool true)], args := [d1, d2] }
  | _ => none }
def linkNoneRow : OpenClaim := { program := "ytoolfhjlhhcbgaadoor", sum := "e3620f4228246478a970543591101af0269f9dc1ae9a447c98b4151d314af885", func := "scrapbook/scrapbooklaw.LinkNone", spec := "linkNone", inPlace := ["internal/bytealg.IndexByteString", "internal/bytealg.IndexString", "internal/bytealg.CountString", "internal/abi.NoEscape", "internal/bytealg.MakeNoZero"], unfollowed := true, recurses := true, named := ["internal/bytealg.MaxLen", "unicode/utf8.first", "unicode/utf8.acceptRanges"], apart := false, laid := [("unicode/utf8.acceptRanges", laid_unicode_utf8_acceptRanges), ("unicode/utf8.first", laid_unicode_utf8_first)] }
def LinkNoneSaid : Prop := linkNoneRow.holds Tryd.pinned (OpenSpec.ofChange linkNoneSpec)

/-- ITS FALSE NEIGHBOUR: 'it returns false'. Refute it at one input. -/
def linkNoneWrong : ChangeSpec := { name := "linkNone", fn := fun _ => fun
  | [d1, d2] => { results := [.lit (.bool false)], args := [d1, d2] }
  | _ => none }
def LinkNoneWrongFalsely : Prop := linkNoneRow.holds Tryd.pinned (OpenSpec.ofChange linkNoneWrong)

/-- 'scrapbooklaw.QuoteParts': WHATEVER THE INPUT: true; the input reads as it did. -/
def quotePartsSpec : ChangeSpec := { name := "quoteParts", fn := fun _ => fun
  | [d1, d2] => { results := [.lit (.bool true)], args := [d1, d2] }
  | _ => none }
def quotePartsRow : OpenClaim := { program := "ytoolfhjlhhcbgaadoor", sum := "e3620f4228246478a970543591101af0269f9dc1ae9a447c98b4151d314af885", func := "scrapbook/scrapbooklaw.QuoteParts", spec := "quoteParts", inPlace := ["internal/abi.NoEscape", "internal/bytealg.IndexByteString", "internal/bytealg.IndexString", "internal/bytealg.CountString", "internal/bytealg.MakeNoZero"], unfollowed := true, recurses := true, named := ["internal/bytealg.MaxLen", "unicode/utf8.first", "unicode/utf8.acceptRanges"], apart := false, laid := [("unicode/utf8.acceptRanges", laid_unicode_utf8_acceptRanges), ("unicode/utf8.first", laid_unicode_utf8_first)] }
def QuotePartsSaid : Prop := quotePartsRow.holds Tryd.pinned (OpenSpec.ofChange quotePartsSpec)

/-- ITS FALSE NEIGHBOUR: 'it returns false'. Refute it at one input. -/
def quotePartsWrong : ChangeSpec := { name := "quoteParts", fn := fun _ => fun
  | [d1, d2] => { results := [.lit (.bool false)], args := [d1, d2] }
  | _ => none }
def QuotePartsWrongFalsely : Prop := quotePartsRow.holds Tryd.pinned (OpenSpec.ofChange quotePartsWrong)

/-- 'scrapbooklaw.QuoteBack': WHATEVER THE INPUT: true; the input reads as it did. -/
def quoteBackSpec : ChangeSpec := { name := "quoteBack", fn := fun _ => fun
  | [d] => { results := [.lit (.bool true)], args := [d] }
  | _ => none }
def quoteBackRow : OpenClaim := { program := "ytoolfhjlhhcbgaadoor", sum := "e3620f4228246478a970543591101af0269f9dc1ae9a447c98b4151d314af885", func := "scrapbook/scrapbooklaw.QuoteBack", spec := "quoteBack", inPlace := ["internal/abi.NoEscape", "internal/bytealg.IndexByteString", "internal/bytealg.IndexString", "internal/bytealg.CountString", "internal/bytealg.MakeNoZero"], unfollowed := true, recurses := true, named := ["internal/bytealg.MaxLen", "unicode/utf8.first", "unicode/utf8.acceptRanges"], apart := false, laid := [("unicode/utf8.acceptRanges", laid_unicode_utf8_acceptRanges), ("unicode/utf8.first", laid_unicode_utf8_first)] }
def QuoteBackSaid : Prop := quoteBackRow.holds Tryd.pinned (OpenSpec.ofChange quoteBackSpec)

/-- ITS FALSE NEIGHBOUR: 'it returns false'. Refute it at one input. -/
def quoteBackWrong : ChangeSpec := { name := "quoteBack", fn := fun _ => fun
  | [d] => { results := [.lit (.bool false)], args := [d] }
  | _ => none }
def QuoteBackWrongFalsely : Prop := quoteBackRow.holds Tryd.pinned (OpenSpec.ofChange quoteBackWrong)

/- THE SECOND FORM. 'bulk': how many values and letters a reading holds, each counted each time it is reached (what is shared counts as often as it is met; a slice's spare places count too). A statement '..UptoSaid' is the law's where the arguments, and the package variables that the reading takes, are together of bulk at most 1048576: NARROWER than '..Said'. Prove '..Said' where nothing that the law and all that it calls make is longer than what came in: it says more and counts as full. Else prove '..UptoSaid'. A law counts once. -/
mutual
def uptoBulk {H : Type} : DataW H → Nat
  | .lit (.string bytes) => bytes.length + 1
  | .lit _ => 1
  | .nil => 1
  | .ptr d => uptoBulk d + 1
  | .slice elems spare => uptoBulkAll elems + uptoBulkAll spare + 1
  | .agg parts => uptoBulkAll parts + 1
  | .iface _ d => uptoBulk d + 1
  | .map entries => uptoBulkEntries entries + 1
  | .held _ => 1
def uptoBulkAll {H : Type} : List (DataW H) → Nat
  | [] => 0
  | d :: r => uptoBulk d + uptoBulkAll r
def uptoBulkEntries {H : Type} : List (Lit × DataW H) → Nat
  | [] => 0
  | x :: r => uptoBulkEntry x + uptoBulkEntries r
def uptoBulkEntry {H : Type} : Lit × DataW H → Nat
  | (.string bytes, d) => bytes.length + uptoBulk d + 1
  | (_, d) => uptoBulk d + 1
 end
def uptoSmall : (H : Type) → List (DataW H) → Bool := fun _ ds => decide (uptoBulkAll ds ≤ 1048576)
def OpenSpec.upto (s : _root_.Go.ChangeSpec) : _root_.Go.OpenSpec := { _root_.Go.OpenSpec.ofChange s with cond := some uptoSmall }

/-- 'scrapbooklaw.BaseBack', WHERE WHAT IT READS IS OF BULK AT MOST 1048576: true; the input reads as it did. -/
def baseBackUptoRow : OpenClaim := { program := "ytoolfhjlhhcbgaadoor", sum := "e3620f4228246478a970543591101af0269f9dc1ae9a447c98b4151d314af885", func := "scrapbook/scrapbooklaw.BaseBack", spec := "baseBack", inPlace := ["internal/bytealg.IndexByteString", "internal/abi.NoEscape", "internal/bytealg.CountString", "internal/bytealg.IndexString", "internal/bytealg.MakeNoZero"], unfollowed := true, recurses := true, named := ["unicode/utf8.first", "unicode/utf8.acceptRanges", "internal/bytealg.MaxLen"], apart := false, laid := [("unicode/utf8.acceptRanges", laid_unicode_utf8_acceptRanges), ("unicode/utf8.first", laid_unicode_utf8_first)], narrowed := true }
def BaseBackUptoSaid : Prop := baseBackUptoRow.holds Tryd.pinned (OpenSpec.upto baseBackSpec)

/-- 'scrapbooklaw.PartSays', WHERE WHAT IT READS IS OF BULK AT MOST 1048576: true; the input reads as it did. -/
def partSaysUptoRow : OpenClaim := { program := "ytoolfhjlhhcbgaadoor", sum := "e3620f4228246478a970543591101af0269f9dc1ae9a447c98b4151d314af885", func := "scrapbook/scrapbooklaw.PartSays", spec := "partSays", inPlace := ["internal/bytealg.IndexByteString", "internal/bytealg.IndexString", "internal/abi.NoEscape", "internal/bytealg.MakeNoZero"], unfollowed := true, recurses := true, named := ["internal/bytealg.MaxLen", "unicode/utf8.first", "unicode/utf8.acceptRanges"], loops := true, apart := false, laid := [("unicode/utf8.acceptRanges", laid_unicode_utf8_acceptRanges), ("unicode/utf8.first", laid_unicode_utf8_first)], narrowed := true }
def PartSaysUptoSaid : Prop := partSaysUptoRow.holds Tryd.pinned (OpenSpec.upto partSaysSpec)

/-- 'scrapbooklaw.LinkPuts', WHERE WHAT IT READS IS OF BULK AT MOST 1048576: true; the input reads as it did. -/
def linkPutsUptoRow : OpenClaim := { program := "ytoolfhjlhhcbgaadoor", sum := "e3620f4228246478a970543591101af0269f9dc1ae9a447c98b4151d314af885", func := "scrapbook/scrapbooklaw.LinkPuts", spec := "linkPuts", inPlace := ["internal/bytealg.IndexByteString", "internal/bytealg.IndexString", "internal/bytealg.CountString", "internal/abi.NoEscape", "internal/bytealg.MakeNoZero"], unfollowed := true, recurses := true, named := ["internal/bytealg.MaxLen", "unicode/utf8.first", "unicode/utf8.acceptRanges"], apart := false, laid := [("unicode/utf8.acceptRanges", laid_unicode_utf8_acceptRanges), ("unicode/utf8.first", laid_unicode_utf8_first)], narrowed := true }
def LinkPutsUptoSaid : Prop := linkPutsUptoRow.holds Tryd.pinned (OpenSpec.upto linkPutsSpec)

/-- 'scrapbooklaw.LinkNone', WHERE WHAT IT READS IS OF BULK AT MOST 1048576: true; the input reads as it did. -/
def linkNoneUptoRow : OpenClaim := { program := "ytoolfhjlhhcbgaadoor", sum := "e3620f4228246478a970543591101af0269f9dc1ae9a447c98b4151d314af885", func := "scrapbook/scrapbooklaw.LinkNone", spec := "linkNone", inPlace := ["internal/bytealg.IndexByteString", "internal/bytealg.IndexString", "internal/bytealg.CountString", "internal/abi.NoEscape", "internal/bytealg.MakeNoZero"], unfollowed := true, recurses := true, named := ["internal/bytealg.MaxLen", "unicode/utf8.first", "unicode/utf8.acceptRanges"], apart := false, laid := [("unicode/utf8.acceptRanges", laid_unicode_utf8_acceptRanges), ("unicode/utf8.first", laid_unicode_utf8_first)], narrowed := true }
def LinkNoneUptoSaid : Prop := linkNoneUptoRow.holds Tryd.pinned (OpenSpec.upto linkNoneSpec)

/-- 'scrapbooklaw.QuoteParts', WHERE WHAT IT READS IS OF BULK AT MOST 1048576: true; the input reads as it did. -/
def quotePartsUptoRow : OpenClaim := { program := "ytoolfhjlhhcbgaadoor", sum := "e3620f4228246478a970543591101af0269f9dc1ae9a447c98b4151d314af885", func := "scrapbook/scrapbooklaw.QuoteParts", spec := "quoteParts", inPlace := ["internal/abi.NoEscape", "internal/bytealg.IndexByteString", "internal/bytealg.IndexString", "internal/bytealg.CountString", "internal/bytealg.MakeNoZero"], unfollowed := true, recurses := true, named := ["internal/bytealg.MaxLen", "unicode/utf8.first", "unicode/utf8.acceptRanges"], apart := false, laid := [("unicode/utf8.acceptRanges", laid_unicode_utf8_acceptRanges), ("unicode/utf8.first", laid_unicode_utf8_first)], narrowed := true }
def QuotePartsUptoSaid : Prop := quotePartsUptoRow.holds Tryd.pinned (OpenSpec.upto quotePartsSpec)

/-- 'scrapbooklaw.QuoteBack', WHERE WHAT IT READS IS OF BULK AT MOST 1048576: true; the input reads as it did. -/
def quoteBackUptoRow : OpenClaim := { program := "ytoolfhjlhhcbgaadoor", sum := "e3620f4228246478a970543591101af0269f9dc1ae9a447c98b4151d314af885", func := "scrapbook/scrapbooklaw.QuoteBack", spec := "quoteBack", inPlace := ["internal/abi.NoEscape", "internal/bytealg.IndexByteString", "internal/bytealg.IndexString", "internal/bytealg.CountString", "internal/bytealg.MakeNoZero"], unfollowed := true, recurses := true, named := ["internal/bytealg.MaxLen", "unicode/utf8.first", "unicode/utf8.acceptRanges"], apart := false, laid := [("unicode/utf8.acceptRanges", laid_unicode_utf8_acceptRanges), ("unicode/utf8.first", laid_unicode_utf8_first)], narrowed := true }
def QuoteBackUptoSaid : Prop := quoteBackUptoRow.holds Tryd.pinned (OpenSpec.upto quoteBackSpec)

end Rows
end Go.Proofs.YtoolfhjlhhcbgaaDoor
