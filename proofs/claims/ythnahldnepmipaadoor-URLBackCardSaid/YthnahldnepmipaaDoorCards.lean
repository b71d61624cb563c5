/-
  DERIVED. GIVEN WITH THE SEED: THE CARDS: each row of YthnahldnepmipaaDoorRows.lean that lists a variable, with what it lists TIED to the program's text (the seventh form; the later family's looks); each row that meets fmt, with fmt's text TOLD by the authors' own Lean function (tested against real Go, not proved from fmt's source: count such statements apart). THE CARD IS WHAT COUNTS. Prove the row's statement (the work); the ties are given (YthnahldnepmipaaDoorTie.lean); close each card by the builder's one call (the guide's Derived/Test/ToyasCard.lean, 'card_holds'). Laid BY PROGRAM, IN A SANDBOX (cutbox-door.mjs). By AI agents, Wed Nov 11 2026. No macro, syntax, notation, axiom, sorry.
-/
import Derived.Test.YthnahldnepmipaaDoorRows
import GoSem.ClaimSeven
namespace Go.Proofs.YthnahldnepmipaaDoor
namespace Rows

/-- THE TIED CARD OF 'scrapbooklaw.PartSays'. -/
def partSaysCard : Claim7 := { stood := { row := partSaysRow, standIns := [], harness := (true, "f3518824719b80f6432d8acb5b863c8dff62b76cbbdbe7469ef533bae7ddd81e"), looks := true }, kinds := [], alts := [], laidByText := true, laidKinds := [.data, .pinned], laidTests := true, laidLooks := .later }
def PartSaysCardSaid : Prop := Claim7.holds Tryd.pinned (.plain (OpenSpec.ofChange partSaysSpec)) partSaysCard

/-- THE TIED CARD OF 'scrapbooklaw.URLLeads'. -/
def uRLLeadsCard : Claim7 := { stood := { row := uRLLeadsRow, standIns := [], harness := (true, "f3518824719b80f6432d8acb5b863c8dff62b76cbbdbe7469ef533bae7ddd81e"), looks := true }, kinds := [], alts := [], laidByText := true, laidKinds := [.data, .pinned], laidTests := true, laidLooks := .later }
def URLLeadsCardSaid : Prop := Claim7.holds Tryd.pinned (.plain (OpenSpec.ofChange uRLLeadsSpec)) uRLLeadsCard

/-- THE TIED CARD OF 'scrapbooklaw.URLPaths'. -/
def uRLPathsCard : Claim7 := { stood := { row := uRLPathsRow, standIns := [], harness := (true, "f3518824719b80f6432d8acb5b863c8dff62b76cbbdbe7469ef533bae7ddd81e"), looks := true }, kinds := [], alts := [], laidByText := true, laidKinds := [.data, .pinned], laidTests := true, laidLooks := .later }
def URLPathsCardSaid : Prop := Claim7.holds Tryd.pinned (.plain (OpenSpec.ofChange uRLPathsSpec)) uRLPathsCard

/-- THE TIED CARD OF 'scrapbooklaw.URLSays'. -/
def uRLSaysCard : Claim7 := { stood := { row := uRLSaysRow, standIns := [], harness := (true, "f3518824719b80f6432d8acb5b863c8dff62b76cbbdbe7469ef533bae7ddd81e"), looks := true }, kinds := [], alts := [], laidByText := true, laidKinds := [.data, .pinned], laidTests := true, laidLooks := .later }
def URLSaysCardSaid : Prop := Claim7.holds Tryd.pinned (.plain (OpenSpec.ofChange uRLSaysSpec)) uRLSaysCard

/-- THE TIED CARD OF 'scrapbooklaw.URLBack'. -/
def uRLBackCard : Claim7 := { stood := { row := uRLBackRow, standIns := [], harness := (true, "f3518824719b80f6432d8acb5b863c8dff62b76cbbdbe7469ef533bae7ddd81e"), looks := true }, kinds := [], alts := [], laidByText := true, laidKinds := [.data, .data, .data, .pinned, .pinned], laidTests := true, laidLooks := .later }
def URLBackCardSaid : Prop := Claim7.holds Tryd.pinned (.plain (OpenSpec.ofChange uRLBackSpec)) uRLBackCard

/-- THE TIED CARD OF 'scrapbooklaw.LinkSays'. -/
def linkSaysCard : Claim7 := { stood := { row := linkSaysRow, standIns := [], harness := (true, "f3518824719b80f6432d8acb5b863c8dff62b76cbbdbe7469ef533bae7ddd81e"), looks := true }, kinds := [], alts := [], laidByText := true, laidKinds := [.data, .pinned], laidTests := true, laidLooks := .later }
def LinkSaysCardSaid : Prop := Claim7.holds Tryd.pinned (.plain (OpenSpec.ofChange linkSaysSpec)) linkSaysCard

/-- THE TIED CARD OF 'scrapbooklaw.QuoteSays'. -/
def quoteSaysCard : Claim7 := { stood := { row := quoteSaysRow, standIns := [], harness := (true, "f3518824719b80f6432d8acb5b863c8dff62b76cbbdbe7469ef533bae7ddd81e"), looks := true }, kinds := [], alts := [], laidByText := true, laidKinds := [.data, .data, .data, .data, .sentinel, .sentinel, .pinned, .pinned], laidTests := true, laidLooks := .later }
def QuoteSaysCardSaid : Prop := Claim7.holds Tryd.pinned (.plain (OpenSpec.ofChange quoteSaysSpec)) quoteSaysCard

/-- THE SECOND FORM's CARD OF 'scrapbooklaw.PartSays'. -/
def partSaysUptoCard : Claim7 := { stood := { row := partSaysUptoRow, standIns := [], harness := (true, "f3518824719b80f6432d8acb5b863c8dff62b76cbbdbe7469ef533bae7ddd81e"), looks := true }, kinds := [], alts := [], laidByText := true, laidKinds := [.data, .pinned], laidTests := true, laidLooks := .later }
def PartSaysUptoCardSaid : Prop := Claim7.holds Tryd.pinned (.plain (OpenSpec.upto partSaysSpec)) partSaysUptoCard

/-- THE SECOND FORM's CARD OF 'scrapbooklaw.URLLeads'. -/
def uRLLeadsUptoCard : Claim7 := { stood := { row := uRLLeadsUptoRow, standIns := [], harness := (true, "f3518824719b80f6432d8acb5b863c8dff62b76cbbdbe7469ef533bae7ddd81e"), looks := true }, kinds := [], alts := [], laidByText := true, laidKinds := [.data, .pinned], laidTests := true, laidLooks := .later }
def URLLeadsUptoCardSaid : Prop := Claim7.holds Tryd.pinned (.plain (OpenSpec.upto uRLLeadsSpec)) uRLLeadsUptoCard

/-- THE SECOND FORM's CARD OF 'scrapbooklaw.URLPaths'. -/
def uRLPathsUptoCard : Claim7 := { stood := { row := uRLPathsUptoRow, standIns := [], harness := (true, "f3518824719b80f6432d8acb5b863c8dff62b76cbbdbe7469ef533bae7ddd81e"), looks := true }, kinds := [], alts := [], laidByText := true, laidKinds := [.data, .pinned], laidTests := true, laidLooks := .later }
def URLPathsUptoCardSaid : Prop := Claim7.holds Tryd.pinned (.plain (OpenSpec.upto uRLPathsSpec)) uRLPathsUptoCard

/-- THE SECOND FORM's CARD OF 'scrapbooklaw.URLSays'. -/
def uRLSaysUptoCard : Claim7 := { stood := { row := uRLSaysUptoRow, standIns := [], harness := (true, "f3518824719b80f6432d8acb5b863c8dff62b76cbbdbe7469ef533bae7ddd81e"), looks := true }, kinds := [], alts := [], laidByText := true, laidKinds := [.data, .pinned], laidTests := true, laidLooks := .later }
def URLSaysUptoCardSaid : Prop := Claim7.holds Tryd.pinned (.plain (OpenSpec.upto uRLSaysSpec)) uRLSaysUptoCard

/-- THE SECOND FORM's CARD OF 'scrapbooklaw.URLBack'. -/
def uRLBackUptoCard : Claim7 := { stood := { row := uRLBackUptoRow, standIns := [], harness := (true, "f3518824719b80f6432d8acb5b863c8dff62b76cbbdbe7469ef533bae7ddd81e"), looks := true }, kinds := [], alts := [], laidByText := true, laidKinds := [.data, .data, .data, .pinned, .pinned], laidTests := true, laidLooks := .later }
def URLBackUptoCardSaid : Prop := Claim7.holds Tryd.pinned (.plain (OpenSpec.upto uRLBackSpec)) uRLBackUptoCard

/-- THE SECOND FORM's CARD OF 'scrapbooklaw.LinkSays'. -/
def linkSaysUptoCard : Claim7 := { stood := { row := linkSaysUptoRow, standIns := [], harness := (true, "f3518824719b80f6432d8acb5b863c8dff62b76cbbdbe7469ef533bae7ddd81e"), looks := true }, kinds := [], alts := [], laidByText := true, laidKinds := [.data, .pinned], laidTests := true, laidLooks := .later }
def LinkSaysUptoCardSaid : Prop := Claim7.holds Tryd.pinned (.plain (OpenSpec.upto linkSaysSpec)) linkSaysUptoCard

/-- THE SECOND FORM's CARD OF 'scrapbooklaw.QuoteSays'. -/
def quoteSaysUptoCard : Claim7 := { stood := { row := quoteSaysUptoRow, standIns := [], harness := (true, "f3518824719b80f6432d8acb5b863c8dff62b76cbbdbe7469ef533bae7ddd81e"), looks := true }, kinds := [], alts := [], laidByText := true, laidKinds := [.data, .data, .data, .data, .sentinel, .sentinel, .pinned, .pinned], laidTests := true, laidLooks := .later }
def QuoteSaysUptoCardSaid : Prop := Claim7.holds Tryd.pinned (.plain (OpenSpec.upto quoteSaysSpec)) quoteSaysUptoCard
end Rows
end Go.Proofs.YthnahldnepmipaaDoor
