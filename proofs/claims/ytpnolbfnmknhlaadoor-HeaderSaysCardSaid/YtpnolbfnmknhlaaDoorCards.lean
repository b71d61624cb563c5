/-
  DERIVED. GIVEN WITH THE SEED: THE CARDS: each row of YtpnolbfnmknhlaaDoorRows.lean that lists a variable, with what it lists TIED to the program's text (the seventh form; the later family's looks); each row that meets fmt, with fmt's text TOLD by the authors' own Lean function (tested against real Go, not proved from fmt's source: count such statements apart). THE CARD IS WHAT COUNTS. Prove the row's statement (the work); the ties are given (YtpnolbfnmknhlaaDoorTie.lean); close each card by the builder's one call (the guide's Derived/Test/ToyasCard.lean, 'card_holds'). Laid BY PROGRAM, IN A SANDBOX (cutbox-door.mjs). By AI agents, Wed Nov 11 2026. No macro, syntax, notation, axiom, sorry.
-/
import Derived.Test.YtpnolbfnmknhlaaDoorRows
import GoSem.ClaimSeven
namespace Go.Proofs.YtpnolbfnmknhlaaDoor
namespace Rows

/-- THE TIED CARD OF 'scrapbooklaw.HeaderSays'. -/
def headerSaysCard : Claim7 := { stood := { row := headerSaysRow, standIns := [], harness := (true, "4bde1f7773d5e772c79812ddcf48333c9eac64c1b36c18d72d42094c12b78e1f"), looks := false }, kinds := [], alts := [], laidByText := true, laidKinds := [.data, .data, .data, .pinned, .pinned], laidTests := true, laidLooks := .later }
def HeaderSaysCardSaid : Prop := Claim7.holds Tryd.pinned (.plain (OpenSpec.ofChange headerSaysSpec)) headerSaysCard

/-- THE SECOND FORM's CARD OF 'scrapbooklaw.HeaderSays'. -/
def headerSaysUptoCard : Claim7 := { stood := { row := headerSaysUptoRow, standIns := [], harness := (true, "4bde1f7773d5e772c79812ddcf48333c9eac64c1b36c18d72d42094c12b78e1f"), looks := false }, kinds := [], alts := [], laidByText := true, laidKinds := [.data, .data, .data, .pinned, .pinned], laidTests := true, laidLooks := .later }
def HeaderSaysUptoCardSaid : Prop := Claim7.holds Tryd.pinned (.plain (OpenSpec.upto headerSaysSpec)) headerSaysUptoCard
end Rows
end Go.Proofs.YtpnolbfnmknhlaaDoor
