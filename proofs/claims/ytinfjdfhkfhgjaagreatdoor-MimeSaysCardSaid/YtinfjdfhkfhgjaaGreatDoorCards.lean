/-
  DERIVED. GIVEN WITH THE SEED: THE CARDS: each row of YtinfjdfhkfhgjaaGreatDoorRows.lean that lists a variable, with what it lists TIED to the program's text (the seventh form; the later family's looks); each row that meets fmt, with fmt's text TOLD by the authors' own Lean function (tested against real Go, not proved from fmt's source: count such statements apart). THE CARD IS WHAT COUNTS. Prove the row's statement (the work); the ties are given (YtinfjdfhkfhgjaaGreatDoorTie.lean); close each card by the builder's one call (the guide's Derived/Test/ToyasCard.lean, 'card_holds'). Laid BY PROGRAM, IN A SANDBOX (cutbox-door.mjs). By AI agents, Wed Nov 11 2026. No macro, syntax, notation, axiom, sorry.
-/
import Derived.Test.YtinfjdfhkfhgjaaGreatDoorRows
import GoSem.ClaimSeven
namespace Go.Proofs.YtinfjdfhkfhgjaaGreatDoor
namespace Rows

/-- THE TIED CARD OF 'scrapbooklaw.MimeSays'. -/
def mimeSaysCard : Claim7 := { stood := { row := mimeSaysRow, standIns := [], harness := (true, "c84a4bfdc834b02035ecda2b2a66c4aabd941429dcbf26651eba9f3ba5f45dea"), looks := true }, kinds := [], alts := [], laidByText := true, laidKinds := [.data, .data, .data, .data, .sentinel, .sentinel, .data, .data, .pinned, .pinned], laidTests := true, laidLooks := .later }
def MimeSaysCardSaid : Prop := Claim7.holds Tryz.pinned (.plain (OpenSpec.ofChange mimeSaysSpec)) mimeSaysCard

/-- THE SECOND FORM's CARD OF 'scrapbooklaw.MimeSays'. -/
def mimeSaysUptoCard : Claim7 := { stood := { row := mimeSaysUptoRow, standIns := [], harness := (true, "c84a4bfdc834b02035ecda2b2a66c4aabd941429dcbf26651eba9f3ba5f45dea"), looks := true }, kinds := [], alts := [], laidByText := true, laidKinds := [.data, .data, .data, .data, .sentinel, .sentinel, .data, .data, .pinned, .pinned], laidTests := true, laidLooks := .later }
def MimeSaysUptoCardSaid : Prop := Claim7.holds Tryz.pinned (.plain (OpenSpec.upto mimeSaysSpec)) mimeSaysUptoCard
end Rows
end Go.Proofs.YtinfjdfhkfhgjaaGreatDoor
