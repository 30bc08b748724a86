/-
  DERIVED. GIVEN WITH THE SEED: THE CARDS: each row of YtnfbdkdjoekifaaGreatDoorRows.lean that lists a variable, with what it lists TIED to the program's text (the seventh form; the later family's looks); each row that meets fmt, with fmt's text TOLD by the authors' own Lean function (tested against real Go, not proved from fmt's source: count such statements apart). THE CARD IS WHAT COUNTS. Prove the row's statement (the work); the ties are given (YtnfbdkdjoekifaaGreatDoorTie.lean); close each card by the builder's one call (the guide's Derived/Test/ToyasCard.lean, 'card_holds'). Laid BY PROGRAM, IN A SANDBOX (cutbox-door.mjs). By AI agents, Wed Nov 11 2026. No macro, syntax, notation, axiom, sorry.
-/
import Derived.Test.YtnfbdkdjoekifaaGreatDoorRows
import GoSem.ClaimSeven
namespace Go.Proofs.YtnfbdkdjoekifaaGreatDoor
namespace Rows

/-- THE TIED CARD OF 'buchholzlaw02.DesignContradicted'. -/
def designContradictedCard : Claim7 := { stood := { row := designContradictedRow, standIns := [], harness := (true, "9fdadeb80dd8bdaadc0c71d905d5c6bb6b9949707e2bf4f80dc32edaf1b50186"), looks := false }, kinds := [], alts := [], laidByText := true, laidKinds := [.data, .data, .data, .data, .widerDeep, .widerDeep], laidTests := true, laidLooks := .later }
def DesignContradictedCardSaid : Prop := Claim7.holds Tryz.pinned (.plain (OpenSpec.ofChange designContradictedSpec)) designContradictedCard

/-- THE TIED CARD OF 'buchholzlaw02.DesignForAll'. -/
def designForAllCard : Claim7 := { stood := { row := designForAllRow, standIns := [], harness := (true, "9fdadeb80dd8bdaadc0c71d905d5c6bb6b9949707e2bf4f80dc32edaf1b50186"), looks := false }, kinds := [], alts := [], laidByText := true, laidKinds := [.data, .data, .data, .data, .widerDeep, .widerDeep], laidTests := true, laidLooks := .later }
def DesignForAllCardSaid : Prop := Claim7.holds Tryz.pinned (.plain (OpenSpec.ofChange designForAllSpec)) designForAllCard

/-- THE TIED CARD OF 'buchholzlaw02.DesignBounded'. -/
def designBoundedCard : Claim7 := { stood := { row := designBoundedRow, standIns := [], harness := (true, "9fdadeb80dd8bdaadc0c71d905d5c6bb6b9949707e2bf4f80dc32edaf1b50186"), looks := false }, kinds := [], alts := [], laidByText := true, laidKinds := [.data, .data, .data, .data, .widerDeep, .widerDeep], laidTests := true, laidLooks := .later }
def DesignBoundedCardSaid : Prop := Claim7.holds Tryz.pinned (.plain (OpenSpec.ofChange designBoundedSpec)) designBoundedCard

/-- THE SECOND FORM's CARD OF 'buchholzlaw02.DesignContradicted'. -/
def designContradictedUptoCard : Claim7 := { stood := { row := designContradictedUptoRow, standIns := [], harness := (true, "9fdadeb80dd8bdaadc0c71d905d5c6bb6b9949707e2bf4f80dc32edaf1b50186"), looks := false }, kinds := [], alts := [], laidByText := true, laidKinds := [.data, .data, .data, .data, .widerDeep, .widerDeep], laidTests := true, laidLooks := .later }
def DesignContradictedUptoCardSaid : Prop := Claim7.holds Tryz.pinned (.plain (OpenSpec.upto designContradictedSpec)) designContradictedUptoCard

/-- THE SECOND FORM's CARD OF 'buchholzlaw02.DesignForAll'. -/
def designForAllUptoCard : Claim7 := { stood := { row := designForAllUptoRow, standIns := [], harness := (true, "9fdadeb80dd8bdaadc0c71d905d5c6bb6b9949707e2bf4f80dc32edaf1b50186"), looks := false }, kinds := [], alts := [], laidByText := true, laidKinds := [.data, .data, .data, .data, .widerDeep, .widerDeep], laidTests := true, laidLooks := .later }
def DesignForAllUptoCardSaid : Prop := Claim7.holds Tryz.pinned (.plain (OpenSpec.upto designForAllSpec)) designForAllUptoCard

/-- THE SECOND FORM's CARD OF 'buchholzlaw02.DesignBounded'. -/
def designBoundedUptoCard : Claim7 := { stood := { row := designBoundedUptoRow, standIns := [], harness := (true, "9fdadeb80dd8bdaadc0c71d905d5c6bb6b9949707e2bf4f80dc32edaf1b50186"), looks := false }, kinds := [], alts := [], laidByText := true, laidKinds := [.data, .data, .data, .data, .widerDeep, .widerDeep], laidTests := true, laidLooks := .later }
def DesignBoundedUptoCardSaid : Prop := Claim7.holds Tryz.pinned (.plain (OpenSpec.upto designBoundedSpec)) designBoundedUptoCard
end Rows
end Go.Proofs.YtnfbdkdjoekifaaGreatDoor
