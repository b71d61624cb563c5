/-
  DERIVED. GIVEN WITH THE SEED: THE CARDS: each row of YtlbdnohnngkapaaGreatDoorRows.lean that lists a variable, with what it lists TIED to the program's text (the seventh form; the later family's looks); each row that meets fmt, with fmt's text TOLD by the authors' own Lean function (tested against real Go, not proved from fmt's source: count such statements apart). THE CARD IS WHAT COUNTS. Prove the row's statement (the work); the ties are given (YtlbdnohnngkapaaGreatDoorTie.lean); close each card by the builder's one call (the guide's Derived/Test/ToyasCard.lean, 'card_holds'). Laid BY PROGRAM, IN A SANDBOX (cutbox-door.mjs). By AI agents, Wed Nov 11 2026. No macro, syntax, notation, axiom, sorry.
-/
import Derived.Test.YtlbdnohnngkapaaGreatDoorRows
import GoSem.ClaimSeven
namespace Go.Proofs.YtlbdnohnngkapaaGreatDoor
namespace Rows

/-- THE TIED CARD OF 'scrapbooklaw.RewriteSays'. -/
def rewriteSaysCard : Claim7 := { stood := { row := rewriteSaysRow, standIns := [], harness := (true, "39fc6b930f623d6efa52c3e6c08a607f5a07ce4c1347c56dadf7147a59c8bcc7"), looks := true }, kinds := [], alts := [], laidByText := true, laidKinds := [.data, .pinned], laidTests := true, laidLooks := .later }
def RewriteSaysCardSaid : Prop := Claim7.holds Tryz.pinned (.plain (OpenSpec.ofChange rewriteSaysSpec)) rewriteSaysCard

/-- THE TIED CARD OF 'scrapbooklaw.MimeSays'. -/
def mimeSaysCard : Claim7 := { stood := { row := mimeSaysRow, standIns := [], harness := (true, "39fc6b930f623d6efa52c3e6c08a607f5a07ce4c1347c56dadf7147a59c8bcc7"), looks := true }, kinds := [], alts := [], laidByText := true, laidKinds := [.data, .data, .data, .data, .sentinel, .sentinel, .data, .data, .pinned, .pinned], laidTests := true, laidLooks := .later }
def MimeSaysCardSaid : Prop := Claim7.holds Tryz.pinned (.plain (OpenSpec.ofChange mimeSaysSpec)) mimeSaysCard

/-- THE TIED CARD OF 'scrapbooklaw.BundleMore'. -/
def bundleMoreCard : Claim7 := { stood := { row := bundleMoreRow, standIns := [], harness := (true, "39fc6b930f623d6efa52c3e6c08a607f5a07ce4c1347c56dadf7147a59c8bcc7"), looks := true }, kinds := [], alts := [], laidByText := true, laidKinds := [.data, .pinned], laidTests := true, laidLooks := .later }
def BundleMoreCardSaid : Prop := Claim7.holds Tryz.pinned (.plain (OpenSpec.ofChange bundleMoreSpec)) bundleMoreCard

/-- THE TIED CARD OF 'scrapbooklaw.BundleWhere'. -/
def bundleWhereCard : Claim7 := { stood := { row := bundleWhereRow, standIns := [], harness := (true, "39fc6b930f623d6efa52c3e6c08a607f5a07ce4c1347c56dadf7147a59c8bcc7"), looks := true }, kinds := [], alts := [], laidByText := true, laidKinds := [.data, .pinned], laidTests := true, laidLooks := .later }
def BundleWhereCardSaid : Prop := Claim7.holds Tryz.pinned (.plain (OpenSpec.ofChange bundleWhereSpec)) bundleWhereCard

/-- THE TIED CARD OF 'scrapbooklaw.BundleGoals'. -/
def bundleGoalsCard : Claim7 := { stood := { row := bundleGoalsRow, standIns := [], harness := (true, "39fc6b930f623d6efa52c3e6c08a607f5a07ce4c1347c56dadf7147a59c8bcc7"), looks := true }, kinds := [], alts := [], laidByText := true, laidKinds := [.data, .pinned], laidTests := true, laidLooks := .later }
def BundleGoalsCardSaid : Prop := Claim7.holds Tryz.pinned (.plain (OpenSpec.ofChange bundleGoalsSpec)) bundleGoalsCard

/-- THE TIED CARD OF 'scrapbooklaw.RewriteOnly'. -/
def rewriteOnlyCard : Claim7 := { stood := { row := rewriteOnlyRow, standIns := [], harness := (true, "39fc6b930f623d6efa52c3e6c08a607f5a07ce4c1347c56dadf7147a59c8bcc7"), looks := true }, kinds := [], alts := [], laidByText := true, laidKinds := [.data, .pinned], laidTests := true, laidLooks := .later }
def RewriteOnlyCardSaid : Prop := Claim7.holds Tryz.pinned (.plain (OpenSpec.ofChange rewriteOnlySpec)) rewriteOnlyCard

/-- THE TIED CARD OF 'scrapbooklaw.RewriteNone'. -/
def rewriteNoneCard : Claim7 := { stood := { row := rewriteNoneRow, standIns := [], harness := (true, "39fc6b930f623d6efa52c3e6c08a607f5a07ce4c1347c56dadf7147a59c8bcc7"), looks := true }, kinds := [], alts := [], laidByText := true, laidKinds := [.data, .pinned], laidTests := true, laidLooks := .later }
def RewriteNoneCardSaid : Prop := Claim7.holds Tryz.pinned (.plain (OpenSpec.ofChange rewriteNoneSpec)) rewriteNoneCard

/-- THE TIED CARD OF 'scrapbooklaw.BundleSays'. -/
def bundleSaysCard : Claim7 := { stood := { row := bundleSaysRow, standIns := [], harness := (true, "39fc6b930f623d6efa52c3e6c08a607f5a07ce4c1347c56dadf7147a59c8bcc7"), looks := true }, kinds := [], alts := [], laidByText := true, laidKinds := [.data, .pinned], laidTests := true, laidLooks := .later }
def BundleSaysCardSaid : Prop := Claim7.holds Tryz.pinned (.plain (OpenSpec.ofChange bundleSaysSpec)) bundleSaysCard

/-- THE TIED CARD OF 'scrapbooklaw.MimeHow'. -/
def mimeHowCard : Claim7 := { stood := { row := mimeHowRow, standIns := [], harness := (true, "39fc6b930f623d6efa52c3e6c08a607f5a07ce4c1347c56dadf7147a59c8bcc7"), looks := true }, kinds := [], alts := [], laidByText := true, laidKinds := [.data, .data, .data, .data, .data, .data, .pinned, .pinned], laidTests := true, laidLooks := .later }
def MimeHowCardSaid : Prop := Claim7.holds Tryz.pinned (.plain (OpenSpec.ofChange mimeHowSpec)) mimeHowCard

/-- THE TIED CARD OF 'scrapbooklaw.MimeBack'. -/
def mimeBackCard : Claim7 := { stood := { row := mimeBackRow, standIns := [], harness := (true, "39fc6b930f623d6efa52c3e6c08a607f5a07ce4c1347c56dadf7147a59c8bcc7"), looks := true }, kinds := [], alts := [], laidByText := true, laidKinds := [.data, .data, .data, .data, .data, .data, .pinned, .pinned], laidTests := true, laidLooks := .later }
def MimeBackCardSaid : Prop := Claim7.holds Tryz.pinned (.plain (OpenSpec.ofChange mimeBackSpec)) mimeBackCard

/-- THE TIED CARD OF 'scrapbooklaw.MimeBorders'. -/
def mimeBordersCard : Claim7 := { stood := { row := mimeBordersRow, standIns := [], harness := (true, "39fc6b930f623d6efa52c3e6c08a607f5a07ce4c1347c56dadf7147a59c8bcc7"), looks := true }, kinds := [], alts := [], laidByText := true, laidKinds := [.data, .data, .data, .data, .data, .data, .pinned, .pinned], laidTests := true, laidLooks := .later }
def MimeBordersCardSaid : Prop := Claim7.holds Tryz.pinned (.plain (OpenSpec.ofChange mimeBordersSpec)) mimeBordersCard

/-- THE TIED CARD OF 'scrapbooklaw.MimeWraps'. -/
def mimeWrapsCard : Claim7 := { stood := { row := mimeWrapsRow, standIns := [], harness := (true, "39fc6b930f623d6efa52c3e6c08a607f5a07ce4c1347c56dadf7147a59c8bcc7"), looks := true }, kinds := [], alts := [], laidByText := true, laidKinds := [.data, .data, .data, .data, .data, .data, .pinned, .pinned], laidTests := true, laidLooks := .later }
def MimeWrapsCardSaid : Prop := Claim7.holds Tryz.pinned (.plain (OpenSpec.ofChange mimeWrapsSpec)) mimeWrapsCard

/-- THE SECOND FORM's CARD OF 'scrapbooklaw.RewriteSays'. -/
def rewriteSaysUptoCard : Claim7 := { stood := { row := rewriteSaysUptoRow, standIns := [], harness := (true, "39fc6b930f623d6efa52c3e6c08a607f5a07ce4c1347c56dadf7147a59c8bcc7"), looks := true }, kinds := [], alts := [], laidByText := true, laidKinds := [.data, .pinned], laidTests := true, laidLooks := .later }
def RewriteSaysUptoCardSaid : Prop := Claim7.holds Tryz.pinned (.plain (OpenSpec.upto rewriteSaysSpec)) rewriteSaysUptoCard

/-- THE SECOND FORM's CARD OF 'scrapbooklaw.MimeSays'. -/
def mimeSaysUptoCard : Claim7 := { stood := { row := mimeSaysUptoRow, standIns := [], harness := (true, "39fc6b930f623d6efa52c3e6c08a607f5a07ce4c1347c56dadf7147a59c8bcc7"), looks := true }, kinds := [], alts := [], laidByText := true, laidKinds := [.data, .data, .data, .data, .sentinel, .sentinel, .data, .data, .pinned, .pinned], laidTests := true, laidLooks := .later }
def MimeSaysUptoCardSaid : Prop := Claim7.holds Tryz.pinned (.plain (OpenSpec.upto mimeSaysSpec)) mimeSaysUptoCard

/-- THE SECOND FORM's CARD OF 'scrapbooklaw.BundleMore'. -/
def bundleMoreUptoCard : Claim7 := { stood := { row := bundleMoreUptoRow, standIns := [], harness := (true, "39fc6b930f623d6efa52c3e6c08a607f5a07ce4c1347c56dadf7147a59c8bcc7"), looks := true }, kinds := [], alts := [], laidByText := true, laidKinds := [.data, .pinned], laidTests := true, laidLooks := .later }
def BundleMoreUptoCardSaid : Prop := Claim7.holds Tryz.pinned (.plain (OpenSpec.upto bundleMoreSpec)) bundleMoreUptoCard

/-- THE SECOND FORM's CARD OF 'scrapbooklaw.BundleWhere'. -/
def bundleWhereUptoCard : Claim7 := { stood := { row := bundleWhereUptoRow, standIns := [], harness := (true, "39fc6b930f623d6efa52c3e6c08a607f5a07ce4c1347c56dadf7147a59c8bcc7"), looks := true }, kinds := [], alts := [], laidByText := true, laidKinds := [.data, .pinned], laidTests := true, laidLooks := .later }
def BundleWhereUptoCardSaid : Prop := Claim7.holds Tryz.pinned (.plain (OpenSpec.upto bundleWhereSpec)) bundleWhereUptoCard

/-- THE SECOND FORM's CARD OF 'scrapbooklaw.BundleGoals'. -/
def bundleGoalsUptoCard : Claim7 := { stood := { row := bundleGoalsUptoRow, standIns := [], harness := (true, "39fc6b930f623d6efa52c3e6c08a607f5a07ce4c1347c56dadf7147a59c8bcc7"), looks := true }, kinds := [], alts := [], laidByText := true, laidKinds := [.data, .pinned], laidTests := true, laidLooks := .later }
def BundleGoalsUptoCardSaid : Prop := Claim7.holds Tryz.pinned (.plain (OpenSpec.upto bundleGoalsSpec)) bundleGoalsUptoCard

/-- THE SECOND FORM's CARD OF 'scrapbooklaw.RewriteOnly'. -/
def rewriteOnlyUptoCard : Claim7 := { stood := { row := rewriteOnlyUptoRow, standIns := [], harness := (true, "39fc6b930f623d6efa52c3e6c08a607f5a07ce4c1347c56dadf7147a59c8bcc7"), looks := true }, kinds := [], alts := [], laidByText := true, laidKinds := [.data, .pinned], laidTests := true, laidLooks := .later }
def RewriteOnlyUptoCardSaid : Prop := Claim7.holds Tryz.pinned (.plain (OpenSpec.upto rewriteOnlySpec)) rewriteOnlyUptoCard

/-- THE SECOND FORM's CARD OF 'scrapbooklaw.RewriteNone'. -/
def rewriteNoneUptoCard : Claim7 := { stood := { row := rewriteNoneUptoRow, standIns := [], harness := (true, "39fc6b930f623d6efa52c3e6c08a607f5a07ce4c1347c56dadf7147a59c8bcc7"), looks := true }, kinds := [], alts := [], laidByText := true, laidKinds := [.data, .pinned], laidTests := true, laidLooks := .later }
def RewriteNoneUptoCardSaid : Prop := Claim7.holds Tryz.pinned (.plain (OpenSpec.upto rewriteNoneSpec)) rewriteNoneUptoCard

/-- THE SECOND FORM's CARD OF 'scrapbooklaw.BundleSays'. -/
def bundleSaysUptoCard : Claim7 := { stood := { row := bundleSaysUptoRow, standIns := [], harness := (true, "39fc6b930f623d6efa52c3e6c08a607f5a07ce4c1347c56dadf7147a59c8bcc7"), looks := true }, kinds := [], alts := [], laidByText := true, laidKinds := [.data, .pinned], laidTests := true, laidLooks := .later }
def BundleSaysUptoCardSaid : Prop := Claim7.holds Tryz.pinned (.plain (OpenSpec.upto bundleSaysSpec)) bundleSaysUptoCard

/-- THE SECOND FORM's CARD OF 'scrapbooklaw.MimeHow'. -/
def mimeHowUptoCard : Claim7 := { stood := { row := mimeHowUptoRow, standIns := [], harness := (true, "39fc6b930f623d6efa52c3e6c08a607f5a07ce4c1347c56dadf7147a59c8bcc7"), looks := true }, kinds := [], alts := [], laidByText := true, laidKinds := [.data, .data, .data, .data, .data, .data, .pinned, .pinned], laidTests := true, laidLooks := .later }
def MimeHowUptoCardSaid : Prop := Claim7.holds Tryz.pinned (.plain (OpenSpec.upto mimeHowSpec)) mimeHowUptoCard

/-- THE SECOND FORM's CARD OF 'scrapbooklaw.MimeBack'. -/
def mimeBackUptoCard : Claim7 := { stood := { row := mimeBackUptoRow, standIns := [], harness := (true, "39fc6b930f623d6efa52c3e6c08a607f5a07ce4c1347c56dadf7147a59c8bcc7"), looks := true }, kinds := [], alts := [], laidByText := true, laidKinds := [.data, .data, .data, .data, .data, .data, .pinned, .pinned], laidTests := true, laidLooks := .later }
def MimeBackUptoCardSaid : Prop := Claim7.holds Tryz.pinned (.plain (OpenSpec.upto mimeBackSpec)) mimeBackUptoCard

/-- THE SECOND FORM's CARD OF 'scrapbooklaw.MimeBorders'. -/
def mimeBordersUptoCard : Claim7 := { stood := { row := mimeBordersUptoRow, standIns := [], harness := (true, "39fc6b930f623d6efa52c3e6c08a607f5a07ce4c1347c56dadf7147a59c8bcc7"), looks := true }, kinds := [], alts := [], laidByText := true, laidKinds := [.data, .data, .data, .data, .data, .data, .pinned, .pinned], laidTests := true, laidLooks := .later }
def MimeBordersUptoCardSaid : Prop := Claim7.holds Tryz.pinned (.plain (OpenSpec.upto mimeBordersSpec)) mimeBordersUptoCard

/-- THE SECOND FORM's CARD OF 'scrapbooklaw.MimeWraps'. -/
def mimeWrapsUptoCard : Claim7 := { stood := { row := mimeWrapsUptoRow, standIns := [], harness := (true, "39fc6b930f623d6efa52c3e6c08a607f5a07ce4c1347c56dadf7147a59c8bcc7"), looks := true }, kinds := [], alts := [], laidByText := true, laidKinds := [.data, .data, .data, .data, .data, .data, .pinned, .pinned], laidTests := true, laidLooks := .later }
def MimeWrapsUptoCardSaid : Prop := Claim7.holds Tryz.pinned (.plain (OpenSpec.upto mimeWrapsSpec)) mimeWrapsUptoCard
end Rows
end Go.Proofs.YtlbdnohnngkapaaGreatDoor
