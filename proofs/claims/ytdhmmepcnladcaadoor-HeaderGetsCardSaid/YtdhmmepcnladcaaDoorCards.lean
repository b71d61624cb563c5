/-
  DERIVED. GIVEN WITH THE SEED: THE CARDS: each row of YtdhmmepcnladcaaDoorRows.lean that lists a variable, with what it lists TIED to the program's text (the seventh form; the later family's looks); each row that meets fmt, with fmt's text TOLD by the authors' own Lean function (tested against real Go, not proved from fmt's source: count such statements apart). THE CARD IS WHAT COUNTS. Prove the row's statement (the work); the ties are given (YtdhmmepcnladcaaDoorTie.lean); close each card by the builder's one call (the guide's Derived/Test/ToyasCard.lean, 'card_holds'). Laid BY PROGRAM, IN A SANDBOX (cutbox-door.mjs). By AI agents, Wed Nov 11 2026. No macro, syntax, notation, axiom, sorry.
-/
import Derived.Test.YtdhmmepcnladcaaDoorRows
import GoSem.ClaimSeven
namespace Go.Proofs.YtdhmmepcnladcaaDoor
namespace Rows

/-- THE TIED CARD OF 'scrapbooklaw.PartSays'. -/
def partSaysCard : Claim7 := { stood := { row := partSaysRow, standIns := [], harness := (true, "444c031c4c6b6332d8169e066e7e6901ad87c41e5b9cf6acaab0f00d13c084f6"), looks := true }, kinds := [], alts := [], laidByText := true, laidKinds := [.data, .pinned], laidTests := true, laidLooks := .later }
def PartSaysCardSaid : Prop := Claim7.holds Tryd.pinned (.plain (OpenSpec.ofChange partSaysSpec)) partSaysCard

/-- THE TIED CARD OF 'scrapbooklaw.HeaderParams'. -/
def headerParamsCard : Claim7 := { stood := { row := headerParamsRow, standIns := [], harness := (true, "444c031c4c6b6332d8169e066e7e6901ad87c41e5b9cf6acaab0f00d13c084f6"), looks := true }, kinds := [], alts := [], laidByText := true, laidKinds := [.data, .data, .data, .pinned, .pinned], laidTests := true, laidLooks := .later }
def HeaderParamsCardSaid : Prop := Claim7.holds Tryd.pinned (.plain (OpenSpec.ofChange headerParamsSpec)) headerParamsCard

/-- THE TIED CARD OF 'scrapbooklaw.HeaderBack'. -/
def headerBackCard : Claim7 := { stood := { row := headerBackRow, standIns := [], harness := (true, "444c031c4c6b6332d8169e066e7e6901ad87c41e5b9cf6acaab0f00d13c084f6"), looks := true }, kinds := [], alts := [], laidByText := true, laidKinds := [.data, .data, .data, .pinned, .pinned], laidTests := true, laidLooks := .later }
def HeaderBackCardSaid : Prop := Claim7.holds Tryd.pinned (.plain (OpenSpec.ofChange headerBackSpec)) headerBackCard

/-- THE TIED CARD OF 'scrapbooklaw.URLSays'. -/
def uRLSaysCard : Claim7 := { stood := { row := uRLSaysRow, standIns := [], harness := (true, "444c031c4c6b6332d8169e066e7e6901ad87c41e5b9cf6acaab0f00d13c084f6"), looks := true }, kinds := [], alts := [], laidByText := true, laidKinds := [.data, .pinned], laidTests := true, laidLooks := .later }
def URLSaysCardSaid : Prop := Claim7.holds Tryd.pinned (.plain (OpenSpec.ofChange uRLSaysSpec)) uRLSaysCard

/-- THE TIED CARD OF 'scrapbooklaw.LinkSays'. -/
def linkSaysCard : Claim7 := { stood := { row := linkSaysRow, standIns := [], harness := (true, "444c031c4c6b6332d8169e066e7e6901ad87c41e5b9cf6acaab0f00d13c084f6"), looks := true }, kinds := [], alts := [], laidByText := true, laidKinds := [.data, .pinned], laidTests := true, laidLooks := .later }
def LinkSaysCardSaid : Prop := Claim7.holds Tryd.pinned (.plain (OpenSpec.ofChange linkSaysSpec)) linkSaysCard

/-- THE TIED CARD OF 'scrapbooklaw.HeaderSays'. -/
def headerSaysCard : Claim7 := { stood := { row := headerSaysRow, standIns := [], harness := (true, "444c031c4c6b6332d8169e066e7e6901ad87c41e5b9cf6acaab0f00d13c084f6"), looks := true }, kinds := [], alts := [], laidByText := true, laidKinds := [.data, .data, .data, .pinned, .pinned], laidTests := true, laidLooks := .later }
def HeaderSaysCardSaid : Prop := Claim7.holds Tryd.pinned (.plain (OpenSpec.ofChange headerSaysSpec)) headerSaysCard

/-- THE TIED CARD OF 'scrapbooklaw.HeaderGets'. -/
def headerGetsCard : Claim7 := { stood := { row := headerGetsRow, standIns := [], harness := (true, "444c031c4c6b6332d8169e066e7e6901ad87c41e5b9cf6acaab0f00d13c084f6"), looks := true }, kinds := [], alts := [], laidByText := true, laidKinds := [.data, .data, .data, .pinned, .pinned], laidTests := true, laidLooks := .later }
def HeaderGetsCardSaid : Prop := Claim7.holds Tryd.pinned (.plain (OpenSpec.ofChange headerGetsSpec)) headerGetsCard

/-- THE TIED CARD OF 'scrapbooklaw.QuoteSays'. -/
def quoteSaysCard : Claim7 := { stood := { row := quoteSaysRow, standIns := [], harness := (true, "444c031c4c6b6332d8169e066e7e6901ad87c41e5b9cf6acaab0f00d13c084f6"), looks := true }, kinds := [], alts := [], laidByText := true, laidKinds := [.data, .data, .data, .data, .sentinel, .sentinel, .pinned, .pinned], laidTests := true, laidLooks := .later }
def QuoteSaysCardSaid : Prop := Claim7.holds Tryd.pinned (.plain (OpenSpec.ofChange quoteSaysSpec)) quoteSaysCard

/-- THE SECOND FORM's CARD OF 'scrapbooklaw.PartSays'. -/
def partSaysUptoCard : Claim7 := { stood := { row := partSaysUptoRow, standIns := [], harness := (true, "444c031c4c6b6332d8169e066e7e6901ad87c41e5b9cf6acaab0f00d13c084f6"), looks := true }, kinds := [], alts := [], laidByText := true, laidKinds := [.data, .pinned], laidTests := true, laidLooks := .later }
def PartSaysUptoCardSaid : Prop := Claim7.holds Tryd.pinned (.plain (OpenSpec.upto partSaysSpec)) partSaysUptoCard

/-- THE SECOND FORM's CARD OF 'scrapbooklaw.HeaderParams'. -/
def headerParamsUptoCard : Claim7 := { stood := { row := headerParamsUptoRow, standIns := [], harness := (true, "444c031c4c6b6332d8169e066e7e6901ad87c41e5b9cf6acaab0f00d13c084f6"), looks := true }, kinds := [], alts := [], laidByText := true, laidKinds := [.data, .data, .data, .pinned, .pinned], laidTests := true, laidLooks := .later }
def HeaderParamsUptoCardSaid : Prop := Claim7.holds Tryd.pinned (.plain (OpenSpec.upto headerParamsSpec)) headerParamsUptoCard

/-- THE SECOND FORM's CARD OF 'scrapbooklaw.HeaderBack'. -/
def headerBackUptoCard : Claim7 := { stood := { row := headerBackUptoRow, standIns := [], harness := (true, "444c031c4c6b6332d8169e066e7e6901ad87c41e5b9cf6acaab0f00d13c084f6"), looks := true }, kinds := [], alts := [], laidByText := true, laidKinds := [.data, .data, .data, .pinned, .pinned], laidTests := true, laidLooks := .later }
def HeaderBackUptoCardSaid : Prop := Claim7.holds Tryd.pinned (.plain (OpenSpec.upto headerBackSpec)) headerBackUptoCard

/-- THE SECOND FORM's CARD OF 'scrapbooklaw.URLSays'. -/
def uRLSaysUptoCard : Claim7 := { stood := { row := uRLSaysUptoRow, standIns := [], harness := (true, "444c031c4c6b6332d8169e066e7e6901ad87c41e5b9cf6acaab0f00d13c084f6"), looks := true }, kinds := [], alts := [], laidByText := true, laidKinds := [.data, .pinned], laidTests := true, laidLooks := .later }
def URLSaysUptoCardSaid : Prop := Claim7.holds Tryd.pinned (.plain (OpenSpec.upto uRLSaysSpec)) uRLSaysUptoCard

/-- THE SECOND FORM's CARD OF 'scrapbooklaw.LinkSays'. -/
def linkSaysUptoCard : Claim7 := { stood := { row := linkSaysUptoRow, standIns := [], harness := (true, "444c031c4c6b6332d8169e066e7e6901ad87c41e5b9cf6acaab0f00d13c084f6"), looks := true }, kinds := [], alts := [], laidByText := true, laidKinds := [.data, .pinned], laidTests := true, laidLooks := .later }
def LinkSaysUptoCardSaid : Prop := Claim7.holds Tryd.pinned (.plain (OpenSpec.upto linkSaysSpec)) linkSaysUptoCard

/-- THE SECOND FORM's CARD OF 'scrapbooklaw.HeaderSays'. -/
def headerSaysUptoCard : Claim7 := { stood := { row := headerSaysUptoRow, standIns := [], harness := (true, "444c031c4c6b6332d8169e066e7e6901ad87c41e5b9cf6acaab0f00d13c084f6"), looks := true }, kinds := [], alts := [], laidByText := true, laidKinds := [.data, .data, .data, .pinned, .pinned], laidTests := true, laidLooks := .later }
def HeaderSaysUptoCardSaid : Prop := Claim7.holds Tryd.pinned (.plain (OpenSpec.upto headerSaysSpec)) headerSaysUptoCard

/-- THE SECOND FORM's CARD OF 'scrapbooklaw.HeaderGets'. -/
def headerGetsUptoCard : Claim7 := { stood := { row := headerGetsUptoRow, standIns := [], harness := (true, "444c031c4c6b6332d8169e066e7e6901ad87c41e5b9cf6acaab0f00d13c084f6"), looks := true }, kinds := [], alts := [], laidByText := true, laidKinds := [.data, .data, .data, .pinned, .pinned], laidTests := true, laidLooks := .later }
def HeaderGetsUptoCardSaid : Prop := Claim7.holds Tryd.pinned (.plain (OpenSpec.upto headerGetsSpec)) headerGetsUptoCard

/-- THE SECOND FORM's CARD OF 'scrapbooklaw.QuoteSays'. -/
def quoteSaysUptoCard : Claim7 := { stood := { row := quoteSaysUptoRow, standIns := [], harness := (true, "444c031c4c6b6332d8169e066e7e6901ad87c41e5b9cf6acaab0f00d13c084f6"), looks := true }, kinds := [], alts := [], laidByText := true, laidKinds := [.data, .data, .data, .data, .sentinel, .sentinel, .pinned, .pinned], laidTests := true, laidLooks := .later }
def QuoteSaysUptoCardSaid : Prop := Claim7.holds Tryd.pinned (.plain (OpenSpec.upto quoteSaysSpec)) quoteSaysUptoCard
end Rows
end Go.Proofs.YtdhmmepcnladcaaDoor
