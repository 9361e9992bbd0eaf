/-
  DERIVED. GIVEN WITH THE SEED: THE CARDS: each row of YtohmeeglehopiaaGreatDoorRows.lean that lists a variable, with what it lists TIED to the program's text (the seventh form; the later family's looks); each row that meets fmt, with fmt's text TOLD by the authors' own Lean function (tested against real Go, not proved from fmt's source: count such statements apart). THE CARD IS WHAT COUNTS. Prove the row's statement (the work); the ties are given (YtohmeeglehopiaaGreatDoorTie.lean); close each card by the builder's one call (the guide's Derived/Test/ToyasCard.lean, 'card_holds'). Laid BY PROGRAM, IN A SANDBOX (cutbox-door.mjs). By AI agents, Wed Nov 11 2026. No macro, syntax, notation, axiom, sorry.
-/
import Derived.Test.YtohmeeglehopiaaGreatDoorRows
import GoSem.ClaimSeven
namespace Go.Proofs.YtohmeeglehopiaaGreatDoor
namespace Rows

/-- THE TIED CARD OF 'bulkheadlaw5.ScanTokens'. -/
def scanTokensCard : Claim7 := { stood := { row := scanTokensRow, standIns := [], harness := (true, "46322eb93078ab5341ab62518be47bb65dc4b3428bea29a308bfb9ffd8db0e91"), looks := true }, kinds := [], alts := [], laidByText := true, laidKinds := [.data, .data, .data, .data, .data, .data, .sentinel, .sentinel, .listed, .data, .data, .pinned], laidTests := true, laidLooks := .later }
def ScanTokensCardSaid : Prop := Claim7.holds Tryz.pinned (.plain (OpenSpec.ofChange scanTokensSpec)) scanTokensCard

/-- THE TIED CARD OF 'bulkheadlaw5.ScanKept'. -/
def scanKeptCard : Claim7 := { stood := { row := scanKeptRow, standIns := [], harness := (true, "46322eb93078ab5341ab62518be47bb65dc4b3428bea29a308bfb9ffd8db0e91"), looks := true }, kinds := [], alts := [], laidByText := true, laidKinds := [.data, .data, .data, .data, .data, .data, .sentinel, .sentinel, .listed, .data, .data, .pinned], laidTests := true, laidLooks := .later }
def ScanKeptCardSaid : Prop := Claim7.holds Tryz.pinned (.plain (OpenSpec.ofChange scanKeptSpec)) scanKeptCard

/-- THE SECOND FORM's CARD OF 'bulkheadlaw5.ScanTokens'. -/
def scanTokensUptoCard : Claim7 := { stood := { row := scanTokensUptoRow, standIns := [], harness := (true, "46322eb93078ab5341ab62518be47bb65dc4b3428bea29a308bfb9ffd8db0e91"), looks := true }, kinds := [], alts := [], laidByText := true, laidKinds := [.data, .data, .data, .data, .data, .data, .sentinel, .sentinel, .listed, .data, .data, .pinned], laidTests := true, laidLooks := .later }
def ScanTokensUptoCardSaid : Prop := Claim7.holds Tryz.pinned (.plain (OpenSpec.upto scanTokensSpec)) scanTokensUptoCard

/-- THE SECOND FORM's CARD OF 'bulkheadlaw5.ScanKept'. -/
def scanKeptUptoCard : Claim7 := { stood := { row := scanKeptUptoRow, standIns := [], harness := (true, "46322eb93078ab5341ab62518be47bb65dc4b3428bea29a308bfb9ffd8db0e91"), looks := true }, kinds := [], alts := [], laidByText := true, laidKinds := [.data, .data, .data, .data, .data, .data, .sentinel, .sentinel, .listed, .data, .data, .pinned], laidTests := true, laidLooks := .later }
def ScanKeptUptoCardSaid : Prop := Claim7.holds Tryz.pinned (.plain (OpenSpec.upto scanKeptSpec)) scanKeptUptoCard
end Rows
end Go.Proofs.YtohmeeglehopiaaGreatDoor
