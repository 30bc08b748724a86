/-
  DERIVED. GIVEN WITH THE SEED: THE CARDS: each row of YtpdkbhjcpddnpaaGreatDoorRows.lean that lists a variable, with what it lists TIED to the program's text (the seventh form; the later family's looks); each row that meets fmt, with fmt's text TOLD by the authors' own Lean function (tested against real Go, not proved from fmt's source: count such statements apart). THE CARD IS WHAT COUNTS. Prove the row's statement (the work); the ties are given (YtpdkbhjcpddnpaaGreatDoorTie.lean); close each card by the builder's one call (the guide's Derived/Test/ToyasCard.lean, 'card_holds'). Laid BY PROGRAM, IN A SANDBOX (cutbox-door.mjs). By AI agents, Wed Nov 11 2026. No macro, syntax, notation, axiom, sorry.
-/
import Derived.Test.YtpdkbhjcpddnpaaGreatDoorRows
import GoSem.ClaimSeven
namespace Go.Proofs.YtpdkbhjcpddnpaaGreatDoor
namespace Rows

/-- THE TIED CARD OF 'buchholzlaw01.GroupCurrents'. -/
def groupCurrentsCard : Claim7 := { stood := { row := groupCurrentsRow, standIns := [], harness := (true, "2562a4b41127b0ee987ee8bab34c9583f8218439cc7c30bd91ff25274b3ba6c9"), looks := true }, kinds := [], alts := [], laidByText := true, laidKinds := [.data, .data, .data, .data, .data, .widerDeep, .pinned, .pinned], laidTests := true, laidLooks := .later }
def GroupCurrentsCardSaid : Prop := Claim7.holds Tryz.pinned (.plain (OpenSpec.ofChange groupCurrentsSpec)) groupCurrentsCard

/-- THE TIED CARD OF 'buchholztop.TopGroupChained'. -/
def topGroupChainedCard : Claim7 := { stood := { row := topGroupChainedRow, standIns := [], harness := (true, "2562a4b41127b0ee987ee8bab34c9583f8218439cc7c30bd91ff25274b3ba6c9"), looks := true }, kinds := [], alts := [], laidByText := true, laidKinds := [.data, .data, .data, .data, .sentinel, .sentinel, .data, .widerDeep, .pinned, .pinned], laidTests := true, laidLooks := .later }
def TopGroupChainedCardSaid : Prop := Claim7.holds Tryz.pinned (.plain (OpenSpec.ofChange topGroupChainedSpec)) topGroupChainedCard

/-- THE TIED CARD OF 'buchholztop.TopGroupParallel'. -/
def topGroupParallelCard : Claim7 := { stood := { row := topGroupParallelRow, standIns := [], harness := (true, "2562a4b41127b0ee987ee8bab34c9583f8218439cc7c30bd91ff25274b3ba6c9"), looks := true }, kinds := [], alts := [], laidByText := true, laidKinds := [.data, .data, .data, .data, .sentinel, .sentinel, .data, .widerDeep, .pinned, .pinned], laidTests := true, laidLooks := .later }
def TopGroupParallelCardSaid : Prop := Claim7.holds Tryz.pinned (.plain (OpenSpec.ofChange topGroupParallelSpec)) topGroupParallelCard

/-- THE SECOND FORM's CARD OF 'buchholzlaw01.GroupCurrents'. -/
def groupCurrentsUptoCard : Claim7 := { stood := { row := groupCurrentsUptoRow, standIns := [], harness := (true, "2562a4b41127b0ee987ee8bab34c9583f8218439cc7c30bd91ff25274b3ba6c9"), looks := true }, kinds := [], alts := [], laidByText := true, laidKinds := [.data, .data, .data, .data, .data, .widerDeep, .pinned, .pinned], laidTests := true, laidLooks := .later }
def GroupCurrentsUptoCardSaid : Prop := Claim7.holds Tryz.pinned (.plain (OpenSpec.upto groupCurrentsSpec)) groupCurrentsUptoCard

/-- THE SECOND FORM's CARD OF 'buchholztop.TopGroupChained'. -/
def topGroupChainedUptoCard : Claim7 := { stood := { row := topGroupChainedUptoRow, standIns := [], harness := (true, "2562a4b41127b0ee987ee8bab34c9583f8218439cc7c30bd91ff25274b3ba6c9"), looks := true }, kinds := [], alts := [], laidByText := true, laidKinds := [.data, .data, .data, .data, .sentinel, .sentinel, .data, .widerDeep, .pinned, .pinned], laidTests := true, laidLooks := .later }
def TopGroupChainedUptoCardSaid : Prop := Claim7.holds Tryz.pinned (.plain (OpenSpec.upto topGroupChainedSpec)) topGroupChainedUptoCard

/-- THE SECOND FORM's CARD OF 'buchholztop.TopGroupParallel'. -/
def topGroupParallelUptoCard : Claim7 := { stood := { row := topGroupParallelUptoRow, standIns := [], harness := (true, "2562a4b41127b0ee987ee8bab34c9583f8218439cc7c30bd91ff25274b3ba6c9"), looks := true }, kinds := [], alts := [], laidByText := true, laidKinds := [.data, .data, .data, .data, .sentinel, .sentinel, .data, .widerDeep, .pinned, .pinned], laidTests := true, laidLooks := .later }
def TopGroupParallelUptoCardSaid : Prop := Claim7.holds Tryz.pinned (.plain (OpenSpec.upto topGroupParallelSpec)) topGroupParallelUptoCard
end Rows
end Go.Proofs.YtpdkbhjcpddnpaaGreatDoor
