/-
  DERIVED. GIVEN WITH THE SEED: THE CARDS: each row of YtncbigkkmgnkmaaGreatDoorRows.lean that lists a variable, with what it lists TIED to the program's text (the seventh form; the later family's looks); each row that meets fmt, with fmt's text TOLD by the authors' own Lean function (tested against real Go, not proved from fmt's source: count such statements apart). THE CARD IS WHAT COUNTS. Prove the row's statement (the work); the ties are given (YtncbigkkmgnkmaaGreatDoorTie.lean); close each card by the builder's one call (the guide's Derived/Test/ToyasCard.lean, 'card_holds'). Laid BY PROGRAM, IN A SANDBOX (cutbox-door.mjs). By AI agents, Wed Nov 11 2026. No macro, syntax, notation, axiom, sorry.
-/
import Derived.Test.YtncbigkkmgnkmaaGreatDoorRows
import GoSem.ClaimSeven
namespace Go.Proofs.YtncbigkkmgnkmaaGreatDoor
namespace Rows

/-- THE TIED CARD OF 'buchholzlaw02.DesignCheapest'. -/
def designCheapestCard : Claim7 := { stood := { row := designCheapestRow, standIns := [], harness := (true, "79ba4dd6cfe82e0b7d9cf59e08764d28f95f21bb5a1297b074eb9f8a837ab9f8"), looks := false }, kinds := [], alts := [], laidByText := true, laidKinds := [.data, .data, .data, .data, .widerDeep, .widerDeep], laidTests := true, laidLooks := .later }
def DesignCheapestCardSaid : Prop := Claim7.holds Tryz.pinned (.plain (OpenSpec.ofChange designCheapestSpec)) designCheapestCard

/-- THE TIED CARD OF 'buchholzlaw02.DesignBounds'. -/
def designBoundsCard : Claim7 := { stood := { row := designBoundsRow, standIns := [], harness := (true, "79ba4dd6cfe82e0b7d9cf59e08764d28f95f21bb5a1297b074eb9f8a837ab9f8"), looks := false }, kinds := [], alts := [], laidByText := true, laidKinds := [.data, .data, .data, .data, .widerDeep, .widerDeep], laidTests := true, laidLooks := .later }
def DesignBoundsCardSaid : Prop := Claim7.holds Tryz.pinned (.plain (OpenSpec.ofChange designBoundsSpec)) designBoundsCard

/-- THE TIED CARD OF 'buchholzlaw02.DesignChoices'. -/
def designChoicesCard : Claim7 := { stood := { row := designChoicesRow, standIns := [], harness := (true, "79ba4dd6cfe82e0b7d9cf59e08764d28f95f21bb5a1297b074eb9f8a837ab9f8"), looks := false }, kinds := [], alts := [], laidByText := true, laidKinds := [.data, .data, .data, .data, .widerDeep, .widerDeep], laidTests := true, laidLooks := .later }
def DesignChoicesCardSaid : Prop := Claim7.holds Tryz.pinned (.plain (OpenSpec.ofChange designChoicesSpec)) designChoicesCard

/-- THE TIED CARD OF 'buchholzlaw02.DesignWindings'. -/
def designWindingsCard : Claim7 := { stood := { row := designWindingsRow, standIns := [], harness := (true, "79ba4dd6cfe82e0b7d9cf59e08764d28f95f21bb5a1297b074eb9f8a837ab9f8"), looks := false }, kinds := [], alts := [], laidByText := true, laidKinds := [.data, .data, .data, .data, .widerDeep, .widerDeep], laidTests := true, laidLooks := .later }
def DesignWindingsCardSaid : Prop := Claim7.holds Tryz.pinned (.plain (OpenSpec.ofChange designWindingsSpec)) designWindingsCard

/-- THE SECOND FORM's CARD OF 'buchholzlaw02.DesignCheapest'. -/
def designCheapestUptoCard : Claim7 := { stood := { row := designCheapestUptoRow, standIns := [], harness := (true, "79ba4dd6cfe82e0b7d9cf59e08764d28f95f21bb5a1297b074eb9f8a837ab9f8"), looks := false }, kinds := [], alts := [], laidByText := true, laidKinds := [.data, .data, .data, .data, .widerDeep, .widerDeep], laidTests := true, laidLooks := .later }
def DesignCheapestUptoCardSaid : Prop := Claim7.holds Tryz.pinned (.plain (OpenSpec.upto designCheapestSpec)) designCheapestUptoCard

/-- THE SECOND FORM's CARD OF 'buchholzlaw02.DesignBounds'. -/
def designBoundsUptoCard : Claim7 := { stood := { row := designBoundsUptoRow, standIns := [], harness := (true, "79ba4dd6cfe82e0b7d9cf59e08764d28f95f21bb5a1297b074eb9f8a837ab9f8"), looks := false }, kinds := [], alts := [], laidByText := true, laidKinds := [.data, .data, .data, .data, .widerDeep, .widerDeep], laidTests := true, laidLooks := .later }
def DesignBoundsUptoCardSaid : Prop := Claim7.holds Tryz.pinned (.plain (OpenSpec.upto designBoundsSpec)) designBoundsUptoCard

/-- THE SECOND FORM's CARD OF 'buchholzlaw02.DesignChoices'. -/
def designChoicesUptoCard : Claim7 := { stood := { row := designChoicesUptoRow, standIns := [], harness := (true, "79ba4dd6cfe82e0b7d9cf59e08764d28f95f21bb5a1297b074eb9f8a837ab9f8"), looks := false }, kinds := [], alts := [], laidByText := true, laidKinds := [.data, .data, .data, .data, .widerDeep, .widerDeep], laidTests := true, laidLooks := .later }
def DesignChoicesUptoCardSaid : Prop := Claim7.holds Tryz.pinned (.plain (OpenSpec.upto designChoicesSpec)) designChoicesUptoCard

/-- THE SECOND FORM's CARD OF 'buchholzlaw02.DesignWindings'. -/
def designWindingsUptoCard : Claim7 := { stood := { row := designWindingsUptoRow, standIns := [], harness := (true, "79ba4dd6cfe82e0b7d9cf59e08764d28f95f21bb5a1297b074eb9f8a837ab9f8"), looks := false }, kinds := [], alts := [], laidByText := true, laidKinds := [.data, .data, .data, .data, .widerDeep, .widerDeep], laidTests := true, laidLooks := .later }
def DesignWindingsUptoCardSaid : Prop := Claim7.holds Tryz.pinned (.plain (OpenSpec.upto designWindingsSpec)) designWindingsUptoCard
end Rows
end Go.Proofs.YtncbigkkmgnkmaaGreatDoor
