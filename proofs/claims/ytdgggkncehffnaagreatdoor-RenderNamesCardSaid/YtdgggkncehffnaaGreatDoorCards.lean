/-
  DERIVED. GIVEN WITH THE SEED: THE CARDS: each row of YtdgggkncehffnaaGreatDoorRows.lean that lists a variable, with what it lists TIED to the program's text (the seventh form; the later family's looks); each row that meets fmt, with fmt's text TOLD by the authors' own Lean function (tested against real Go, not proved from fmt's source: count such statements apart). THE CARD IS WHAT COUNTS. Prove the row's statement (the work); the ties are given (YtdgggkncehffnaaGreatDoorTie.lean); close each card by the builder's one call (the guide's Derived/Test/ToyasCard.lean, 'card_holds'). Laid BY PROGRAM, IN A SANDBOX (cutbox-door.mjs). By AI agents, Wed Nov 11 2026. No macro, syntax, notation, axiom, sorry.
-/
import Derived.Test.YtdgggkncehffnaaGreatDoorRows
import GoSem.ClaimSeven
namespace Go.Proofs.YtdgggkncehffnaaGreatDoor
namespace Rows

/-- THE TIED CARD OF 'bulkheadlaw7.RenderNames'. -/
def renderNamesCard : Claim7 := { stood := { row := renderNamesRow, standIns := [], harness := (true, "2230c33d68a5f6c72b422352961e0413a9fcf12f3c00efac6314f03cd163451d"), looks := true }, kinds := [], alts := [], laidByText := true, laidKinds := [.data, .data, .data, .sentinel, .sentinel, .listed, .data, .data, .data], laidTests := true, laidLooks := .later }
def RenderNamesCardSaid : Prop := Claim7.holds Tryz.pinned (.plain (OpenSpec.ofChange renderNamesSpec)) renderNamesCard

/-- THE SECOND FORM's CARD OF 'bulkheadlaw7.RenderNames'. -/
def renderNamesUptoCard : Claim7 := { stood := { row := renderNamesUptoRow, standIns := [], harness := (true, "2230c33d68a5f6c72b422352961e0413a9fcf12f3c00efac6314f03cd163451d"), looks := true }, kinds := [], alts := [], laidByText := true, laidKinds := [.data, .data, .data, .sentinel, .sentinel, .listed, .data, .data, .data], laidTests := true, laidLooks := .later }
def RenderNamesUptoCardSaid : Prop := Claim7.holds Tryz.pinned (.plain (OpenSpec.upto renderNamesSpec)) renderNamesUptoCard
end Rows
end Go.Proofs.YtdgggkncehffnaaGreatDoor
