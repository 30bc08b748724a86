/-
  DERIVED. GIVEN WITH THE SEED: THE CARDS: each row of YtnhcamokcggnkaaDoorRows.lean that lists a variable, with what it lists TIED to the program's text (the seventh form; the later family's looks); each row that meets fmt, with fmt's text TOLD by the authors' own Lean function (tested against real Go, not proved from fmt's source: count such statements apart). THE CARD IS WHAT COUNTS. Prove the row's statement (the work); the ties are given (YtnhcamokcggnkaaDoorTie.lean); close each card by the builder's one call (the guide's Derived/Test/ToyasCard.lean, 'card_holds'). Laid BY PROGRAM, IN A SANDBOX (cutbox-door.mjs). By AI agents, Wed Nov 11 2026. No macro, syntax, notation, axiom, sorry.
-/
import Derived.Test.YtnhcamokcggnkaaDoorRows
import GoSem.ClaimSeven
namespace Go.Proofs.YtnhcamokcggnkaaDoor
namespace Rows

/-- THE TIED CARD OF 'buchholzlaw01.GroupLow'. -/
def groupLowCard : Claim7 := { stood := { row := groupLowRow, standIns := [], harness := (true, "57c837042efeb651519f23f796c8cb46761e124c30c0e109a11765b2df07c557"), looks := false }, kinds := [], alts := [], laidByText := true, laidKinds := [.data, .data, .data, .data, .data, .widerDeep, .pinned, .pinned], laidTests := true, laidLooks := .later }
def GroupLowCardSaid : Prop := Claim7.holds Tryd.pinned (.plain (OpenSpec.ofChange groupLowSpec)) groupLowCard

/-- THE TIED CARD OF 'buchholzlaw01.GroupWindings'. -/
def groupWindingsCard : Claim7 := { stood := { row := groupWindingsRow, standIns := [], harness := (true, "57c837042efeb651519f23f796c8cb46761e124c30c0e109a11765b2df07c557"), looks := false }, kinds := [], alts := [], laidByText := true, laidKinds := [.data, .data, .data, .data, .data, .widerDeep, .pinned, .pinned], laidTests := true, laidLooks := .later }
def GroupWindingsCardSaid : Prop := Claim7.holds Tryd.pinned (.plain (OpenSpec.ofChange groupWindingsSpec)) groupWindingsCard

/-- THE TIED CARD OF 'buchholzlaw01.GroupPhasors'. -/
def groupPhasorsCard : Claim7 := { stood := { row := groupPhasorsRow, standIns := [], harness := (true, "57c837042efeb651519f23f796c8cb46761e124c30c0e109a11765b2df07c557"), looks := false }, kinds := [], alts := [], laidByText := true, laidKinds := [.data, .data, .data, .data, .data, .widerDeep, .pinned, .pinned], laidTests := true, laidLooks := .later }
def GroupPhasorsCardSaid : Prop := Claim7.holds Tryd.pinned (.plain (OpenSpec.ofChange groupPhasorsSpec)) groupPhasorsCard

/-- THE TIED CARD OF 'buchholzlaw01.GroupBalanced'. -/
def groupBalancedCard : Claim7 := { stood := { row := groupBalancedRow, standIns := [], harness := (true, "57c837042efeb651519f23f796c8cb46761e124c30c0e109a11765b2df07c557"), looks := false }, kinds := [], alts := [], laidByText := true, laidKinds := [.data, .data, .data, .data, .data, .widerDeep, .pinned, .pinned], laidTests := true, laidLooks := .later }
def GroupBalancedCardSaid : Prop := Claim7.holds Tryd.pinned (.plain (OpenSpec.ofChange groupBalancedSpec)) groupBalancedCard

/-- THE TIED CARD OF 'buchholzlaw01.GroupTurns'. -/
def groupTurnsCard : Claim7 := { stood := { row := groupTurnsRow, standIns := [], harness := (true, "57c837042efeb651519f23f796c8cb46761e124c30c0e109a11765b2df07c557"), looks := false }, kinds := [], alts := [], laidByText := true, laidKinds := [.data, .data, .data, .data, .data, .widerDeep, .pinned, .pinned], laidTests := true, laidLooks := .later }
def GroupTurnsCardSaid : Prop := Claim7.holds Tryd.pinned (.plain (OpenSpec.ofChange groupTurnsSpec)) groupTurnsCard

/-- THE TIED CARD OF 'buchholzlaw01.GroupLinesOf'. -/
def groupLinesOfCard : Claim7 := { stood := { row := groupLinesOfRow, standIns := [], harness := (true, "57c837042efeb651519f23f796c8cb46761e124c30c0e109a11765b2df07c557"), looks := false }, kinds := [], alts := [], laidByText := true, laidKinds := [.data, .data, .data, .data, .data, .widerDeep, .pinned, .pinned], laidTests := true, laidLooks := .later }
def GroupLinesOfCardSaid : Prop := Claim7.holds Tryd.pinned (.plain (OpenSpec.ofChange groupLinesOfSpec)) groupLinesOfCard

/-- THE TIED CARD OF 'buchholzlaw01.GroupRenamed'. -/
def groupRenamedCard : Claim7 := { stood := { row := groupRenamedRow, standIns := [], harness := (true, "57c837042efeb651519f23f796c8cb46761e124c30c0e109a11765b2df07c557"), looks := false }, kinds := [], alts := [], laidByText := true, laidKinds := [.data, .data, .data, .data, .data, .widerDeep, .pinned, .pinned], laidTests := true, laidLooks := .later }
def GroupRenamedCardSaid : Prop := Claim7.holds Tryd.pinned (.plain (OpenSpec.ofChange groupRenamedSpec)) groupRenamedCard

/-- THE TIED CARD OF 'buchholzlaw01.GroupShares'. -/
def groupSharesCard : Claim7 := { stood := { row := groupSharesRow, standIns := [], harness := (true, "57c837042efeb651519f23f796c8cb46761e124c30c0e109a11765b2df07c557"), looks := false }, kinds := [], alts := [], laidByText := true, laidKinds := [.data, .data, .data, .data, .data, .widerDeep, .pinned, .pinned], laidTests := true, laidLooks := .later }
def GroupSharesCardSaid : Prop := Claim7.holds Tryd.pinned (.plain (OpenSpec.ofChange groupSharesSpec)) groupSharesCard

/-- THE SECOND FORM's CARD OF 'buchholzlaw01.GroupLow'. -/
def groupLowUptoCard : Claim7 := { stood := { row := groupLowUptoRow, standIns := [], harness := (true, "57c837042efeb651519f23f796c8cb46761e124c30c0e109a11765b2df07c557"), looks := false }, kinds := [], alts := [], laidByText := true, laidKinds := [.data, .data, .data, .data, .data, .widerDeep, .pinned, .pinned], laidTests := true, laidLooks := .later }
def GroupLowUptoCardSaid : Prop := Claim7.holds Tryd.pinned (.plain (OpenSpec.upto groupLowSpec)) groupLowUptoCard

/-- THE SECOND FORM's CARD OF 'buchholzlaw01.GroupWindings'. -/
def groupWindingsUptoCard : Claim7 := { stood := { row := groupWindingsUptoRow, standIns := [], harness := (true, "57c837042efeb651519f23f796c8cb46761e124c30c0e109a11765b2df07c557"), looks := false }, kinds := [], alts := [], laidByText := true, laidKinds := [.data, .data, .data, .data, .data, .widerDeep, .pinned, .pinned], laidTests := true, laidLooks := .later }
def GroupWindingsUptoCardSaid : Prop := Claim7.holds Tryd.pinned (.plain (OpenSpec.upto groupWindingsSpec)) groupWindingsUptoCard

/-- THE SECOND FORM's CARD OF 'buchholzlaw01.GroupPhasors'. -/
def groupPhasorsUptoCard : Claim7 := { stood := { row := groupPhasorsUptoRow, standIns := [], harness := (true, "57c837042efeb651519f23f796c8cb46761e124c30c0e109a11765b2df07c557"), looks := false }, kinds := [], alts := [], laidByText := true, laidKinds := [.data, .data, .data, .data, .data, .widerDeep, .pinned, .pinned], laidTests := true, laidLooks := .later }
def GroupPhasorsUptoCardSaid : Prop := Claim7.holds Tryd.pinned (.plain (OpenSpec.upto groupPhasorsSpec)) groupPhasorsUptoCard

/-- THE SECOND FORM's CARD OF 'buchholzlaw01.GroupBalanced'. -/
def groupBalancedUptoCard : Claim7 := { stood := { row := groupBalancedUptoRow, standIns := [], harness := (true, "57c837042efeb651519f23f796c8cb46761e124c30c0e109a11765b2df07c557"), looks := false }, kinds := [], alts := [], laidByText := true, laidKinds := [.data, .data, .data, .data, .data, .widerDeep, .pinned, .pinned], laidTests := true, laidLooks := .later }
def GroupBalancedUptoCardSaid : Prop := Claim7.holds Tryd.pinned (.plain (OpenSpec.upto groupBalancedSpec)) groupBalancedUptoCard

/-- THE SECOND FORM's CARD OF 'buchholzlaw01.GroupTurns'. -/
def groupTurnsUptoCard : Claim7 := { stood := { row := groupTurnsUptoRow, standIns := [], harness := (true, "57c837042efeb651519f23f796c8cb46761e124c30c0e109a11765b2df07c557"), looks := false }, kinds := [], alts := [], laidByText := true, laidKinds := [.data, .data, .data, .data, .data, .widerDeep, .pinned, .pinned], laidTests := true, laidLooks := .later }
def GroupTurnsUptoCardSaid : Prop := Claim7.holds Tryd.pinned (.plain (OpenSpec.upto groupTurnsSpec)) groupTurnsUptoCard

/-- THE SECOND FORM's CARD OF 'buchholzlaw01.GroupLinesOf'. -/
def groupLinesOfUptoCard : Claim7 := { stood := { row := groupLinesOfUptoRow, standIns := [], harness := (true, "57c837042efeb651519f23f796c8cb46761e124c30c0e109a11765b2df07c557"), looks := false }, kinds := [], alts := [], laidByText := true, laidKinds := [.data, .data, .data, .data, .data, .widerDeep, .pinned, .pinned], laidTests := true, laidLooks := .later }
def GroupLinesOfUptoCardSaid : Prop := Claim7.holds Tryd.pinned (.plain (OpenSpec.upto groupLinesOfSpec)) groupLinesOfUptoCard

/-- THE SECOND FORM's CARD OF 'buchholzlaw01.GroupRenamed'. -/
def groupRenamedUptoCard : Claim7 := { stood := { row := groupRenamedUptoRow, standIns := [], harness := (true, "57c837042efeb651519f23f796c8cb46761e124c30c0e109a11765b2df07c557"), looks := false }, kinds := [], alts := [], laidByText := true, laidKinds := [.data, .data, .data, .data, .data, .widerDeep, .pinned, .pinned], laidTests := true, laidLooks := .later }
def GroupRenamedUptoCardSaid : Prop := Claim7.holds Tryd.pinned (.plain (OpenSpec.upto groupRenamedSpec)) groupRenamedUptoCard

/-- THE SECOND FORM's CARD OF 'buchholzlaw01.GroupShares'. -/
def groupSharesUptoCard : Claim7 := { stood := { row := groupSharesUptoRow, standIns := [], harness := (true, "57c837042efeb651519f23f796c8cb46761e124c30c0e109a11765b2df07c557"), looks := false }, kinds := [], alts := [], laidByText := true, laidKinds := [.data, .data, .data, .data, .data, .widerDeep, .pinned, .pinned], laidTests := true, laidLooks := .later }
def GroupSharesUptoCardSaid : Prop := Claim7.holds Tryd.pinned (.plain (OpenSpec.upto groupSharesSpec)) groupSharesUptoCard
end Rows
end Go.Proofs.YtnhcamokcggnkaaDoor
