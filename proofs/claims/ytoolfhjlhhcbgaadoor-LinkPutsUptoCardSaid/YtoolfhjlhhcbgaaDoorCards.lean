/-
  DERIVED. GIVEN WITH THE SEED: THE CARDS: each row of YtoolfhjlhhcbgaaDoorRows.lean that lists a variable, with what it lists TIED to the program's text (the seventh form; the later family's looks); each row that meets fmt, with fmt's text TOLD by the authors' own Lean function (tested against real Go, not proved from fmt's source: count such statements apart). THE CARD IS WHAT COUNTS. Prove the row's statement (the work); the ties are given (YtoolfhjlhhcbgaaDoorTie.lean); close each card by the builder's one call (the guide's Derived/Test/ToyasCard.lean, 'card_holds'). Laid BY PROGRAM, IN A SANDBOX (cutbox-door.mjs). By AI agents, Wed Nov 11 2026. No macro, syntax, notation, axiom, sorry.
-/
import Derived.Test.YtoolfhjlhhcbgaaDoorRows
import GoSem.ClaimSeven
namespace Go.Proofs.YtoolfhjlhhcbgaaDoor
namespace Rows

/-- THE TIED CARD OF 'scrapbooklaw.BaseBack'. -/
def baseBackCard : Claim7 := { stood := { row := baseBackRow, standIns := [], harness := (true, "6527cc34dd4ac04812dc3fe441ef15d9a042faf2d0d3d159170930c3b3efb5a8"), looks := false }, kinds := [], alts := [], laidByText := true, laidKinds := [.data, .pinned], laidTests := true, laidLooks := .later }
def BaseBackCardSaid : Prop := Claim7.holds Tryd.pinned (.plain (OpenSpec.ofChange baseBackSpec)) baseBackCard

/-- THE TIED CARD OF 'scrapbooklaw.PartSays'. -/
def partSaysCard : Claim7 := { stood := { row := partSaysRow, standIns := [], harness := (true, "6527cc34dd4ac04812dc3fe441ef15d9a042faf2d0d3d159170930c3b3efb5a8"), looks := false }, kinds := [], alts := [], laidByText := true, laidKinds := [.data, .pinned], laidTests := true, laidLooks := .later }
def PartSaysCardSaid : Prop := Claim7.holds Tryd.pinned (.plain (OpenSpec.ofChange partSaysSpec)) partSaysCard

/-- THE TIED CARD OF 'scrapbooklaw.LinkPuts'. -/
def linkPutsCard : Claim7 := { stood := { row := linkPutsRow, standIns := [], harness := (true, "6527cc34dd4ac04812dc3fe441ef15d9a042faf2d0d3d159170930c3b3efb5a8"), looks := false }, kinds := [], alts := [], laidByText := true, laidKinds := [.data, .pinned], laidTests := true, laidLooks := .later }
def LinkPutsCardSaid : Prop := Claim7.holds Tryd.pinned (.plain (OpenSpec.ofChange linkPutsSpec)) linkPutsCard

/-- THE TIED CARD OF 'scrapbooklaw.LinkNone'. -/
def linkNoneCard : Claim7 := { stood := { row := linkNoneRow, standIns := [], harness := (true, "6527cc34dd4ac04812dc3fe441ef15d9a042faf2d0d3d159170930c3b3efb5a8"), looks := false }, kinds := [], alts := [], laidByText := true, laidKinds := [.data, .pinned], laidTests := true, laidLooks := .later }
def LinkNoneCardSaid : Prop := Claim7.holds Tryd.pinned (.plain (OpenSpec.ofChange linkNoneSpec)) linkNoneCard

/-- THE TIED CARD OF 'scrapbooklaw.QuoteParts'. -/
def quotePartsCard : Claim7 := { stood := { row := quotePartsRow, standIns := [], harness := (true, "6527cc34dd4ac04812dc3fe441ef15d9a042faf2d0d3d159170930c3b3efb5a8"), looks := false }, kinds := [], alts := [], laidByText := true, laidKinds := [.data, .pinned], laidTests := true, laidLooks := .later }
def QuotePartsCardSaid : Prop := Claim7.holds Tryd.pinned (.plain (OpenSpec.ofChange quotePartsSpec)) quotePartsCard

/-- THE TIED CARD OF 'scrapbooklaw.QuoteBack'. -/
def quoteBackCard : Claim7 := { stood := { row := quoteBackRow, standIns := [], harness := (true, "6527cc34dd4ac04812dc3fe441ef15d9a042faf2d0d3d159170930c3b3efb5a8"), looks := false }, kinds := [], alts := [], laidByText := true, laidKinds := [.data, .pinned], laidTests := true, laidLooks := .later }
def QuoteBackCardSaid : Prop := Claim7.holds Tryd.pinned (.plain (OpenSpec.ofChange quoteBackSpec)) quoteBackCard

/-- THE SECOND FORM's CARD OF 'scrapbooklaw.BaseBack'. -/
def baseBackUptoCard : Claim7 := { stood := { row := baseBackUptoRow, standIns := [], harness := (true, "6527cc34dd4ac04812dc3fe441ef15d9a042faf2d0d3d159170930c3b3efb5a8"), looks := false }, kinds := [], alts := [], laidByText := true, laidKinds := [.data, .pinned], laidTests := true, laidLooks := .later }
def BaseBackUptoCardSaid : Prop := Claim7.holds Tryd.pinned (.plain (OpenSpec.upto baseBackSpec)) baseBackUptoCard

/-- THE SECOND FORM's CARD OF 'scrapbooklaw.PartSays'. -/
def partSaysUptoCard : Claim7 := { stood := { row := partSaysUptoRow, standIns := [], harness := (true, "6527cc34dd4ac04812dc3fe441ef15d9a042faf2d0d3d159170930c3b3efb5a8"), looks := false }, kinds := [], alts := [], laidByText := true, laidKinds := [.data, .pinned], laidTests := true, laidLooks := .later }
def PartSaysUptoCardSaid : Prop := Claim7.holds Tryd.pinned (.plain (OpenSpec.upto partSaysSpec)) partSaysUptoCard

/-- THE SECOND FORM's CARD OF 'scrapbooklaw.LinkPuts'. -/
def linkPutsUptoCard : Claim7 := { stood := { row := linkPutsUptoRow, standIns := [], harness := (true, "6527cc34dd4ac04812dc3fe441ef15d9a042faf2d0d3d159170930c3b3efb5a8"), looks := false }, kinds := [], alts := [], laidByText := true, laidKinds := [.data, .pinned], laidTests := true, laidLooks := .later }
def LinkPutsUptoCardSaid : Prop := Claim7.holds Tryd.pinned (.plain (OpenSpec.upto linkPutsSpec)) linkPutsUptoCard

/-- THE SECOND FORM's CARD OF 'scrapbooklaw.LinkNone'. -/
def linkNoneUptoCard : Claim7 := { stood := { row := linkNoneUptoRow, standIns := [], harness := (true, "6527cc34dd4ac04812dc3fe441ef15d9a042faf2d0d3d159170930c3b3efb5a8"), looks := false }, kinds := [], alts := [], laidByText := true, laidKinds := [.data, .pinned], laidTests := true, laidLooks := .later }
def LinkNoneUptoCardSaid : Prop := Claim7.holds Tryd.pinned (.plain (OpenSpec.upto linkNoneSpec)) linkNoneUptoCard

/-- THE SECOND FORM's CARD OF 'scrapbooklaw.QuoteParts'. -/
def quotePartsUptoCard : Claim7 := { stood := { row := quotePartsUptoRow, standIns := [], harness := (true, "6527cc34dd4ac04812dc3fe441ef15d9a042faf2d0d3d159170930c3b3efb5a8"), looks := false }, kinds := [], alts := [], laidByText := true, laidKinds := [.data, .pinned], laidTests := true, laidLooks := .later }
def QuotePartsUptoCardSaid : Prop := Claim7.holds Tryd.pinned (.plain (OpenSpec.upto quotePartsSpec)) quotePartsUptoCard

/-- THE SECOND FORM's CARD OF 'scrapbooklaw.QuoteBack'. -/
def quoteBackUptoCard : Claim7 := { stood := { row := quoteBackUptoRow, standIns := [], harness := (true, "6527cc34dd4ac04812dc3fe441ef15d9a042faf2d0d3d159170930c3b3efb5a8"), looks := false }, kinds := [], alts := [], laidByText := true, laidKinds := [.data, .pinned], laidTests := true, laidLooks := .later }
def QuoteBackUptoCardSaid : Prop := Claim7.holds Tryd.pinned (.plain (OpenSpec.upto quoteBackSpec)) quoteBackUptoCard
end Rows
end Go.Proofs.YtoolfhjlhhcbgaaDoor
