/-
  DERIVED. GIVEN WITH THE SEED: THE CARDS: each row of YtmliebodadgpbaaGreatDoorRows.lean that lists a variable, with what it lists TIED to the program's text (the seventh form; the later family's looks); each row that meets fmt, with fmt's text TOLD by the authors' own Lean function (tested against real Go, not proved from fmt's source: count such statements apart). THE CARD IS WHAT COUNTS. Prove the row's statement (the work); the ties are given (YtmliebodadgpbaaGreatDoorTie.lean); close each card by the builder's one call (the guide's Derived/Test/ToyasCard.lean, 'card_holds'). Laid BY PROGRAM, IN A SANDBOX (cutbox-door.mjs). By AI agents, Wed Nov 11 2026. No macro, syntax, notation, axiom, sorry.
-/
import Derived.Test.YtmliebodadgpbaaGreatDoorRows
import GoSem.ClaimSeven
namespace Go.Proofs.YtmliebodadgpbaaGreatDoor
namespace Rows

/-- THE TIED CARD OF 'bulkheadlaw6.SyntaxNames'. -/
def syntaxNamesCard : Claim7 := { stood := { row := syntaxNamesRow, standIns := [], harness := (true, "dbcfb0c65aa9004662b9a607d776c0b8b1384e69287638c8ab3d6750adc99e5a"), looks := true }, kinds := [], alts := [], laidByText := true, laidKinds := [.data, .data, .data, .sentinel, .sentinel, .listed, .data, .data], laidTests := true, laidLooks := .later }
def SyntaxNamesCardSaid : Prop := Claim7.holds Tryz.pinned (.plain (OpenSpec.ofChange syntaxNamesSpec)) syntaxNamesCard

/-- THE TIED CARD OF 'bulkheadlaw6.SyntaxPlaces'. -/
def syntaxPlacesCard : Claim7 := { stood := { row := syntaxPlacesRow, standIns := [], harness := (true, "dbcfb0c65aa9004662b9a607d776c0b8b1384e69287638c8ab3d6750adc99e5a"), looks := true }, kinds := [], alts := [], laidByText := true, laidKinds := [.data, .data, .data, .sentinel, .sentinel, .listed, .data, .data], laidTests := true, laidLooks := .later }
def SyntaxPlacesCardSaid : Prop := Claim7.holds Tryz.pinned (.plain (OpenSpec.ofChange syntaxPlacesSpec)) syntaxPlacesCard

/-- THE TIED CARD OF 'bulkheadlaw6.SyntaxBlanks'. -/
def syntaxBlanksCard : Claim7 := { stood := { row := syntaxBlanksRow, standIns := [], harness := (true, "dbcfb0c65aa9004662b9a607d776c0b8b1384e69287638c8ab3d6750adc99e5a"), looks := true }, kinds := [], alts := [], laidByText := true, laidKinds := [.data, .data, .data, .sentinel, .sentinel, .listed, .data, .data], laidTests := true, laidLooks := .later }
def SyntaxBlanksCardSaid : Prop := Claim7.holds Tryz.pinned (.plain (OpenSpec.ofChange syntaxBlanksSpec)) syntaxBlanksCard

/-- THE TIED CARD OF 'bulkheadlaw6.SyntaxCounts'. -/
def syntaxCountsCard : Claim7 := { stood := { row := syntaxCountsRow, standIns := [], harness := (true, "dbcfb0c65aa9004662b9a607d776c0b8b1384e69287638c8ab3d6750adc99e5a"), looks := true }, kinds := [], alts := [], laidByText := true, laidKinds := [.data, .data, .data, .sentinel, .sentinel, .listed, .data, .data], laidTests := true, laidLooks := .later }
def SyntaxCountsCardSaid : Prop := Claim7.holds Tryz.pinned (.plain (OpenSpec.ofChange syntaxCountsSpec)) syntaxCountsCard

/-- THE TIED CARD OF 'bulkheadlaw6.SyntaxDeep'. -/
def syntaxDeepCard : Claim7 := { stood := { row := syntaxDeepRow, standIns := [], harness := (true, "dbcfb0c65aa9004662b9a607d776c0b8b1384e69287638c8ab3d6750adc99e5a"), looks := true }, kinds := [], alts := [], laidByText := true, laidKinds := [.data, .data, .data, .sentinel, .sentinel, .listed, .data, .data], laidTests := true, laidLooks := .later }
def SyntaxDeepCardSaid : Prop := Claim7.holds Tryz.pinned (.plain (OpenSpec.ofChange syntaxDeepSpec)) syntaxDeepCard

/-- THE SECOND FORM's CARD OF 'bulkheadlaw6.SyntaxNames'. -/
def syntaxNamesUptoCard : Claim7 := { stood := { row := syntaxNamesUptoRow, standIns := [], harness := (true, "dbcfb0c65aa9004662b9a607d776c0b8b1384e69287638c8ab3d6750adc99e5a"), looks := true }, kinds := [], alts := [], laidByText := true, laidKinds := [.data, .data, .data, .sentinel, .sentinel, .listed, .data, .data], laidTests := true, laidLooks := .later }
def SyntaxNamesUptoCardSaid : Prop := Claim7.holds Tryz.pinned (.plain (OpenSpec.upto syntaxNamesSpec)) syntaxNamesUptoCard

/-- THE SECOND FORM's CARD OF 'bulkheadlaw6.SyntaxPlaces'. -/
def syntaxPlacesUptoCard : Claim7 := { stood := { row := syntaxPlacesUptoRow, standIns := [], harness := (true, "dbcfb0c65aa9004662b9a607d776c0b8b1384e69287638c8ab3d6750adc99e5a"), looks := true }, kinds := [], alts := [], laidByText := true, laidKinds := [.data, .data, .data, .sentinel, .sentinel, .listed, .data, .data], laidTests := true, laidLooks := .later }
def SyntaxPlacesUptoCardSaid : Prop := Claim7.holds Tryz.pinned (.plain (OpenSpec.upto syntaxPlacesSpec)) syntaxPlacesUptoCard

/-- THE SECOND FORM's CARD OF 'bulkheadlaw6.SyntaxBlanks'. -/
def syntaxBlanksUptoCard : Claim7 := { stood := { row := syntaxBlanksUptoRow, standIns := [], harness := (true, "dbcfb0c65aa9004662b9a607d776c0b8b1384e69287638c8ab3d6750adc99e5a"), looks := true }, kinds := [], alts := [], laidByText := true, laidKinds := [.data, .data, .data, .sentinel, .sentinel, .listed, .data, .data], laidTests := true, laidLooks := .later }
def SyntaxBlanksUptoCardSaid : Prop := Claim7.holds Tryz.pinned (.plain (OpenSpec.upto syntaxBlanksSpec)) syntaxBlanksUptoCard

/-- THE SECOND FORM's CARD OF 'bulkheadlaw6.SyntaxCounts'. -/
def syntaxCountsUptoCard : Claim7 := { stood := { row := syntaxCountsUptoRow, standIns := [], harness := (true, "dbcfb0c65aa9004662b9a607d776c0b8b1384e69287638c8ab3d6750adc99e5a"), looks := true }, kinds := [], alts := [], laidByText := true, laidKinds := [.data, .data, .data, .sentinel, .sentinel, .listed, .data, .data], laidTests := true, laidLooks := .later }
def SyntaxCountsUptoCardSaid : Prop := Claim7.holds Tryz.pinned (.plain (OpenSpec.upto syntaxCountsSpec)) syntaxCountsUptoCard

/-- THE SECOND FORM's CARD OF 'bulkheadlaw6.SyntaxDeep'. -/
def syntaxDeepUptoCard : Claim7 := { stood := { row := syntaxDeepUptoRow, standIns := [], harness := (true, "dbcfb0c65aa9004662b9a607d776c0b8b1384e69287638c8ab3d6750adc99e5a"), looks := true }, kinds := [], alts := [], laidByText := true, laidKinds := [.data, .data, .data, .sentinel, .sentinel, .listed, .data, .data], laidTests := true, laidLooks := .later }
def SyntaxDeepUptoCardSaid : Prop := Claim7.holds Tryz.pinned (.plain (OpenSpec.upto syntaxDeepSpec)) syntaxDeepUptoCard
end Rows
end Go.Proofs.YtmliebodadgpbaaGreatDoor
