/-
  DERIVED. GIVEN WITH THE SEED: THE CARDS: each row of YtnhcamokcggnkaaGreatDoorRows.lean that lists a variable, with what it lists TIED to the program's text (the seventh form; the later family's looks); each row that meets fmt, with fmt's text TOLD by the authors' own Lean function (tested against real Go, not proved from fmt's source: count such statements apart). THE CARD IS WHAT COUNTS. Prove the row's statement (the work); the ties are given (YtnhcamokcggnkaaGreatDoorTie.lean); close each card by the builder's one call (the guide's Derived/Test/ToyasCard.lean, 'card_holds'). Laid BY PROGRAM, IN A SANDBOX (cutbox-door.mjs). By AI agents, Wed Nov 11 2026. No macro, syntax, notation, axiom, sorry.
-/
import Derived.Test.YtnhcamokcggnkaaGreatDoorRows
import GoSem.ClaimSeven
namespace Go.Proofs.YtnhcamokcggnkaaGreatDoor
namespace Rows

/-- THE TIED CARD OF 'buchholzlaw01.GroupUnits'. -/
def groupUnitsCard : Claim7 := { stood := { row := groupUnitsRow, standIns := [], harness := (true, "8ba9b9c8e8192fcf413e8e0ddb4b0592143c23b609279ff0e70f78d1bbd3053e"), looks := false }, kinds := [], alts := [], laidByText := true, laidKinds := [.data, .data, .data, .data, .data, .widerDeep, .pinned, .pinned], laidTests := true, laidLooks := .later }
def GroupUnitsCardSaid : Prop := Claim7.holds Tryz.pinned (.plain (OpenSpec.ofChange groupUnitsSpec)) groupUnitsCard

/-- THE TIED CARD OF 'buchholzlaw01.GroupCurrents'. -/
def groupCurrentsCard : Claim7 := { stood := { row := groupCurrentsRow, standIns := [], harness := (true, "8ba9b9c8e8192fcf413e8e0ddb4b0592143c23b609279ff0e70f78d1bbd3053e"), looks := false }, kinds := [], alts := [], laidByText := true, laidKinds := [.data, .data, .data, .data, .data, .widerDeep, .pinned, .pinned], laidTests := true, laidLooks := .later }
def GroupCurrentsCardSaid : Prop := Claim7.holds Tryz.pinned (.plain (OpenSpec.ofChange groupCurrentsSpec)) groupCurrentsCard

/-- THE TIED CARD OF 'buchholzlaw01.GroupRuns'. -/
def groupRunsCard : Claim7 := { stood := { row := groupRunsRow, standIns := [], harness := (true, "8ba9b9c8e8192fcf413e8e0ddb4b0592143c23b609279ff0e70f78d1bbd3053e"), looks := false }, kinds := [], alts := [], laidByText := true, laidKinds := [.data, .data, .data, .data, .data, .widerDeep, .pinned, .pinned], laidTests := true, laidLooks := .later }
def GroupRunsCardSaid : Prop := Claim7.holds Tryz.pinned (.plain (OpenSpec.ofChange groupRunsSpec)) groupRunsCard

/-- THE TIED CARD OF 'buchholzlaw01.GroupMatched'. -/
def groupMatchedCard : Claim7 := { stood := { row := groupMatchedRow, standIns := [], harness := (true, "8ba9b9c8e8192fcf413e8e0ddb4b0592143c23b609279ff0e70f78d1bbd3053e"), looks := false }, kinds := [], alts := [], laidByText := true, laidKinds := [.data, .data, .data, .data, .data, .widerDeep, .pinned, .pinned], laidTests := true, laidLooks := .later }
def GroupMatchedCardSaid : Prop := Claim7.holds Tryz.pinned (.plain (OpenSpec.ofChange groupMatchedSpec)) groupMatchedCard

/-- THE SECOND FORM's CARD OF 'buchholzlaw01.GroupUnits'. -/
def groupUnitsUptoCard : Claim7 := { stood := { row := groupUnitsUptoRow, standIns := [], harness := (true, "8ba9b9c8e8192fcf413e8e0ddb4b0592143c23b609279ff0e70f78d1bbd3053e"), looks := false }, kinds := [], alts := [], laidByText := true, laidKinds := [.data, .data, .data, .data, .data, .widerDeep, .pinned, .pinned], laidTests := true, laidLooks := .later }
def GroupUnitsUptoCardSaid : Prop := Claim7.holds Tryz.pinned (.plain (OpenSpec.upto groupUnitsSpec)) groupUnitsUptoCard

/-- THE SECOND FORM's CARD OF 'buchholzlaw01.GroupCurrents'. -/
def groupCurrentsUptoCard : Claim7 := { stood := { row := groupCurrentsUptoRow, standIns := [], harness := (true, "8ba9b9c8e8192fcf413e8e0ddb4b0592143c23b609279ff0e70f78d1bbd3053e"), looks := false }, kinds := [], alts := [], laidByText := true, laidKinds := [.data, .data, .data, .data, .data, .widerDeep, .pinned, .pinned], laidTests := true, laidLooks := .later }
def GroupCurrentsUptoCardSaid : Prop := Claim7.holds Tryz.pinned (.plain (OpenSpec.upto groupCurrentsSpec)) groupCurrentsUptoCard

/-- THE SECOND FORM's CARD OF 'buchholzlaw01.GroupRuns'. -/
def groupRunsUptoCard : Claim7 := { stood := { row := groupRunsUptoRow, standIns := [], harness := (true, "8ba9b9c8e8192fcf413e8e0ddb4b0592143c23b609279ff0e70f78d1bbd3053e"), looks := false }, kinds := [], alts := [], laidByText := true, laidKinds := [.data, .data, .data, .data, .data, .widerDeep, .pinned, .pinned], laidTests := true, laidLooks := .later }
def GroupRunsUptoCardSaid : Prop := Claim7.holds Tryz.pinned (.plain (OpenSpec.upto groupRunsSpec)) groupRunsUptoCard

/-- THE SECOND FORM's CARD OF 'buchholzlaw01.GroupMatched'. -/
def groupMatchedUptoCard : Claim7 := { stood := { row := groupMatchedUptoRow, standIns := [], harness := (true, "8ba9b9c8e8192fcf413e8e0ddb4b0592143c23b609279ff0e70f78d1bbd3053e"), looks := false }, kinds := [], alts := [], laidByText := true, laidKinds := [.data, .data, .data, .data, .data, .widerDeep, .pinned, .pinned], laidTests := true, laidLooks := .later }
def GroupMatchedUptoCardSaid : Prop := Claim7.holds Tryz.pinned (.plain (OpenSpec.upto groupMatchedSpec)) groupMatchedUptoCard
end Rows
end Go.Proofs.YtnhcamokcggnkaaGreatDoor
