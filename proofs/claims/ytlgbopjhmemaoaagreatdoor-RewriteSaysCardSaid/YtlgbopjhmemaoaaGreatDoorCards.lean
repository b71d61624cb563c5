/-
  DERIVED. GIVEN WITH THE SEED: THE CARDS: each row of YtlgbopjhmemaoaaGreatDoorRows.lean that lists a variable, with what it lists TIED to the program's text (the seventh form; the later family's looks); each row that meets fmt, with fmt's text TOLD by the authors' own Lean function (tested against real Go, not proved from fmt's source: count such statements apart). THE CARD IS WHAT COUNTS. Prove the row's statement (the work); the ties are given (YtlgbopjhmemaoaaGreatDoorTie.lean); close each card by the builder's one call (the guide's Derived/Test/ToyasCard.lean, 'card_holds'). Laid BY PROGRAM, IN A SANDBOX (cutbox-door.mjs). By AI agents, Wed Nov 11 2026. No macro, syntax, notation, axiom, sorry.
-/
import Derived.Test.YtlgbopjhmemaoaaGreatDoorRows
import GoSem.ClaimSeven
namespace Go.Proofs.YtlgbopjhmemaoaaGreatDoor
namespace Rows

/-- THE TIED CARD OF 'scrapbooklaw.RewriteSays'. -/
def rewriteSaysCard : Claim7 := { stood := { row := rewriteSaysRow, standIns := [], harness := (true, "61f4c4147fa061b1d2ed46ff23379750cee6844b625af3bbbe62c388cea3e4cf"), looks := false }, kinds := [], alts := [], laidByText := true, laidKinds := [.data, .pinned], laidTests := true, laidLooks := .later }
def RewriteSaysCardSaid : Prop := Claim7.holds Tryz.pinned (.plain (OpenSpec.ofChange rewriteSaysSpec)) rewriteSaysCard

/-- THE SECOND FORM's CARD OF 'scrapbooklaw.RewriteSays'. -/
def rewriteSaysUptoCard : Claim7 := { stood := { row := rewriteSaysUptoRow, standIns := [], harness := (true, "61f4c4147fa061b1d2ed46ff23379750cee6844b625af3bbbe62c388cea3e4cf"), looks := false }, kinds := [], alts := [], laidByText := true, laidKinds := [.data, .pinned], laidTests := true, laidLooks := .later }
def RewriteSaysUptoCardSaid : Prop := Claim7.holds Tryz.pinned (.plain (OpenSpec.upto rewriteSaysSpec)) rewriteSaysUptoCard
end Rows
end Go.Proofs.YtlgbopjhmemaoaaGreatDoor
