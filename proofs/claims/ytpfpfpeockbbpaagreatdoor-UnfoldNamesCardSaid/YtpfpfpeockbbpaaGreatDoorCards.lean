/-
  DERIVED. GIVEN WITH THE SEED: THE CARDS: each row of YtpfpfpeockbbpaaGreatDoorRows.lean that lists a variable, with what it lists TIED to the program's text (the seventh form; the later family's looks); each row that meets fmt, with fmt's text TOLD by the authors' own Lean function (tested against real Go, not proved from fmt's source: count such statements apart). THE CARD IS WHAT COUNTS. Prove the row's statement (the work); the ties are given (YtpfpfpeockbbpaaGreatDoorTie.lean); close each card by the builder's one call (the guide's Derived/Test/ToyasCard.lean, 'card_holds'). Laid BY PROGRAM, IN A SANDBOX (cutbox-door.mjs). By AI agents, Wed Nov 11 2026. No macro, syntax, notation, axiom, sorry.
-/
import Derived.Test.YtpfpfpeockbbpaaGreatDoorRows
import GoSem.ClaimSeven
namespace Go.Proofs.YtpfpfpeockbbpaaGreatDoor
namespace Rows

/-- THE TIED CARD OF 'bulkheadlaw8.UnfoldNames'. -/
def unfoldNamesCard : Claim7 := { stood := { row := unfoldNamesRow, standIns := [], harness := (true, "0f6d99832b7fb413c5e8d66e610af91301a00b595c0f41a913a88a4b3551db1f"), looks := true }, kinds := [], alts := [], laidByText := true, laidKinds := [.data, .data, .data, .data, .sentinel, .sentinel, .listed, .data, .data, .data, .pinned], laidTests := true, laidLooks := .later }
def UnfoldNamesCardSaid : Prop := Claim7.holds Tryz.pinned (.plain (OpenSpec.ofChange unfoldNamesSpec)) unfoldNamesCard

/-- THE SECOND FORM's CARD OF 'bulkheadlaw8.UnfoldNames'. -/
def unfoldNamesUptoCard : Claim7 := { stood := { row := unfoldNamesUptoRow, standIns := [], harness := (true, "0f6d99832b7fb413c5e8d66e610af91301a00b595c0f41a913a88a4b3551db1f"), looks := true }, kinds := [], alts := [], laidByText := true, laidKinds := [.data, .data, .data, .data, .sentinel, .sentinel, .listed, .data, .data, .data, .pinned], laidTests := true, laidLooks := .later }
def UnfoldNamesUptoCardSaid : Prop := Claim7.holds Tryz.pinned (.plain (OpenSpec.upto unfoldNamesSpec)) unfoldNamesUptoCard
end Rows
end Go.Proofs.YtpfpfpeockbbpaaGreatDoor
