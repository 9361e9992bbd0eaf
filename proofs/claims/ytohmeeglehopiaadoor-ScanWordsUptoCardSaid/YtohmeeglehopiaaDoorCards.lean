/-
  DERIVED. GIVEN WITH THE SEED: THE CARDS: each row of YtohmeeglehopiaaDoorRows.lean that lists a variable, with what it lists TIED to the program's text (the seventh form; the later family's looks); each row that meets fmt, with fmt's text TOLD by the authors' own Lean function (tested against real Go, not proved from fmt's source: count such statements apart). THE CARD IS WHAT COUNTS. Prove the row's statement (the work); the ties are given (YtohmeeglehopiaaDoorTie.lean); close each card by the builder's one call (the guide's Derived/Test/ToyasCard.lean, 'card_holds'). Laid BY PROGRAM, IN A SANDBOX (cutbox-door.mjs). By AI agents, Wed Nov 11 2026. No macro, syntax, notation, axiom, sorry.
-/
import Derived.Test.YtohmeeglehopiaaDoorRows
import GoSem.ClaimSeven
namespace Go.Proofs.YtohmeeglehopiaaDoor
namespace Rows

/-- THE TIED CARD OF 'bulkheadlaw5.ScanNames'. -/
def scanNamesCard : Claim7 := { stood := { row := scanNamesRow, standIns := [], harness := (true, "d40a611f82b3939b4068be00e287195a398064018dc18e1ba393b388aeb84ffa"), looks := true }, kinds := [], alts := [], laidByText := true, laidKinds := [.data, .data, .data, .data, .sentinel, .sentinel, .listed, .data, .data, .pinned], laidTests := true, laidLooks := .later }
def ScanNamesCardSaid : Prop := Claim7.holds Tryd.pinned (.plain (OpenSpec.ofChange scanNamesSpec)) scanNamesCard

/-- THE TIED CARD OF 'bulkheadlaw5.ScanBound'. -/
def scanBoundCard : Claim7 := { stood := { row := scanBoundRow, standIns := [], harness := (true, "d40a611f82b3939b4068be00e287195a398064018dc18e1ba393b388aeb84ffa"), looks := true }, kinds := [], alts := [], laidByText := true, laidKinds := [.data, .data, .data, .data, .sentinel, .sentinel, .listed, .data, .data, .pinned], laidTests := true, laidLooks := .later }
def ScanBoundCardSaid : Prop := Claim7.holds Tryd.pinned (.plain (OpenSpec.ofChange scanBoundSpec)) scanBoundCard

/-- THE TIED CARD OF 'bulkheadlaw5.ScanWords'. -/
def scanWordsCard : Claim7 := { stood := { row := scanWordsRow, standIns := [], harness := (true, "d40a611f82b3939b4068be00e287195a398064018dc18e1ba393b388aeb84ffa"), looks := true }, kinds := [], alts := [], laidByText := true, laidKinds := [.data, .data, .data, .data, .data, .sentinel, .sentinel, .listed, .data, .data, .pinned], laidTests := true, laidLooks := .later }
def ScanWordsCardSaid : Prop := Claim7.holds Tryd.pinned (.plain (OpenSpec.ofChange scanWordsSpec)) scanWordsCard

/-- THE TIED CARD OF 'bulkheadlaw5.ScanFirst'. -/
def scanFirstCard : Claim7 := { stood := { row := scanFirstRow, standIns := [], harness := (true, "d40a611f82b3939b4068be00e287195a398064018dc18e1ba393b388aeb84ffa"), looks := true }, kinds := [], alts := [], laidByText := true, laidKinds := [.data, .data, .data, .data, .sentinel, .sentinel, .listed, .data, .data, .pinned], laidTests := true, laidLooks := .later }
def ScanFirstCardSaid : Prop := Claim7.holds Tryd.pinned (.plain (OpenSpec.ofChange scanFirstSpec)) scanFirstCard

/-- THE TIED CARD OF 'bulkheadlaw5.ScanApart'. -/
def scanApartCard : Claim7 := { stood := { row := scanApartRow, standIns := [], harness := (true, "d40a611f82b3939b4068be00e287195a398064018dc18e1ba393b388aeb84ffa"), looks := true }, kinds := [], alts := [], laidByText := true, laidKinds := [.data, .data, .data, .data, .sentinel, .sentinel, .listed, .data, .data, .pinned], laidTests := true, laidLooks := .later }
def ScanApartCardSaid : Prop := Claim7.holds Tryd.pinned (.plain (OpenSpec.ofChange scanApartSpec)) scanApartCard

/-- THE TIED CARD OF 'bulkheadlaw5.ScanBack'. -/
def scanBackCard : Claim7 := { stood := { row := scanBackRow, standIns := [], harness := (true, "d40a611f82b3939b4068be00e287195a398064018dc18e1ba393b388aeb84ffa"), looks := true }, kinds := [], alts := [], laidByText := true, laidKinds := [.data, .data, .data, .data, .sentinel, .sentinel, .listed, .data, .data, .pinned], laidTests := true, laidLooks := .later }
def ScanBackCardSaid : Prop := Claim7.holds Tryd.pinned (.plain (OpenSpec.ofChange scanBackSpec)) scanBackCard

/-- THE SECOND FORM's CARD OF 'bulkheadlaw5.ScanNames'. -/
def scanNamesUptoCard : Claim7 := { stood := { row := scanNamesUptoRow, standIns := [], harness := (true, "d40a611f82b3939b4068be00e287195a398064018dc18e1ba393b388aeb84ffa"), looks := true }, kinds := [], alts := [], laidByText := true, laidKinds := [.data, .data, .data, .data, .sentinel, .sentinel, .listed, .data, .data, .pinned], laidTests := true, laidLooks := .later }
def ScanNamesUptoCardSaid : Prop := Claim7.holds Tryd.pinned (.plain (OpenSpec.upto scanNamesSpec)) scanNamesUptoCard

/-- THE SECOND FORM's CARD OF 'bulkheadlaw5.ScanBound'. -/
def scanBoundUptoCard : Claim7 := { stood := { row := scanBoundUptoRow, standIns := [], harness := (true, "d40a611f82b3939b4068be00e287195a398064018dc18e1ba393b388aeb84ffa"), looks := true }, kinds := [], alts := [], laidByText := true, laidKinds := [.data, .data, .data, .data, .sentinel, .sentinel, .listed, .data, .data, .pinned], laidTests := true, laidLooks := .later }
def ScanBoundUptoCardSaid : Prop := Claim7.holds Tryd.pinned (.plain (OpenSpec.upto scanBoundSpec)) scanBoundUptoCard

/-- THE SECOND FORM's CARD OF 'bulkheadlaw5.ScanWords'. -/
def scanWordsUptoCard : Claim7 := { stood := { row := scanWordsUptoRow, standIns := [], harness := (true, "d40a611f82b3939b4068be00e287195a398064018dc18e1ba393b388aeb84ffa"), looks := true }, kinds := [], alts := [], laidByText := true, laidKinds := [.data, .data, .data, .data, .data, .sentinel, .sentinel, .listed, .data, .data, .pinned], laidTests := true, laidLooks := .later }
def ScanWordsUptoCardSaid : Prop := Claim7.holds Tryd.pinned (.plain (OpenSpec.upto scanWordsSpec)) scanWordsUptoCard

/-- THE SECOND FORM's CARD OF 'bulkheadlaw5.ScanFirst'. -/
def scanFirstUptoCard : Claim7 := { stood := { row := scanFirstUptoRow, standIns := [], harness := (true, "d40a611f82b3939b4068be00e287195a398064018dc18e1ba393b388aeb84ffa"), looks := true }, kinds := [], alts := [], laidByText := true, laidKinds := [.data, .data, .data, .data, .sentinel, .sentinel, .listed, .data, .data, .pinned], laidTests := true, laidLooks := .later }
def ScanFirstUptoCardSaid : Prop := Claim7.holds Tryd.pinned (.plain (OpenSpec.upto scanFirstSpec)) scanFirstUptoCard

/-- THE SECOND FORM's CARD OF 'bulkheadlaw5.ScanApart'. -/
def scanApartUptoCard : Claim7 := { stood := { row := scanApartUptoRow, standIns := [], harness := (true, "d40a611f82b3939b4068be00e287195a398064018dc18e1ba393b388aeb84ffa"), looks := true }, kinds := [], alts := [], laidByText := true, laidKinds := [.data, .data, .data, .data, .sentinel, .sentinel, .listed, .data, .data, .pinned], laidTests := true, laidLooks := .later }
def ScanApartUptoCardSaid : Prop := Claim7.holds Tryd.pinned (.plain (OpenSpec.upto scanApartSpec)) scanApartUptoCard

/-- THE SECOND FORM's CARD OF 'bulkheadlaw5.ScanBack'. -/
def scanBackUptoCard : Claim7 := { stood := { row := scanBackUptoRow, standIns := [], harness := (true, "d40a611f82b3939b4068be00e287195a398064018dc18e1ba393b388aeb84ffa"), looks := true }, kinds := [], alts := [], laidByText := true, laidKinds := [.data, .data, .data, .data, .sentinel, .sentinel, .listed, .data, .data, .pinned], laidTests := true, laidLooks := .later }
def ScanBackUptoCardSaid : Prop := Claim7.holds Tryd.pinned (.plain (OpenSpec.upto scanBackSpec)) scanBackUptoCard
end Rows
end Go.Proofs.YtohmeeglehopiaaDoor
