/-
  DERIVED. GIVEN WITH THE SEED: THE CARDS: each row of YtbojmcopagbheaaGreatDoorRows.lean that lists a variable, with what it lists TIED to the program's text (the seventh form; the later family's looks); each row that meets fmt, with fmt's text TOLD by the authors' own Lean function (tested against real Go, not proved from fmt's source: count such statements apart). THE CARD IS WHAT COUNTS. Prove the row's statement (the work); the ties are given (YtbojmcopagbheaaGreatDoorTie.lean); close each card by the builder's one call (the guide's Derived/Test/ToyasCard.lean, 'card_holds'). Laid BY PROGRAM, IN A SANDBOX (cutbox-door.mjs). By AI agents, Wed Nov 11 2026. No macro, syntax, notation, axiom, sorry.
-/
import Derived.Test.YtbojmcopagbheaaGreatDoorRows
import GoSem.ClaimSeven
namespace Go.Proofs.YtbojmcopagbheaaGreatDoor
namespace Rows

/-- THE TIED CARD OF 'buchholztop.TopWorksDried'. -/
def topWorksDriedCard : Claim7 := { stood := { row := topWorksDriedRow, standIns := [], harness := (true, "73fb7bea988e95c19d2d708188bf7bd470d6e16b49efb050d5e5e185fcb46d1a"), looks := true }, kinds := [], alts := [], laidByText := true, laidKinds := [.data, .data, .data, .data, .sentinel, .sentinel, .pinned], laidTests := true, laidLooks := .later }
def TopWorksDriedCardSaid : Prop := Claim7.holds Tryz.pinned (.plain (OpenSpec.ofChange topWorksDriedSpec)) topWorksDriedCard

/-- THE TIED CARD OF 'buchholztop.TopWorksLots'. -/
def topWorksLotsCard : Claim7 := { stood := { row := topWorksLotsRow, standIns := [], harness := (true, "73fb7bea988e95c19d2d708188bf7bd470d6e16b49efb050d5e5e185fcb46d1a"), looks := true }, kinds := [], alts := [], laidByText := true, laidKinds := [.data, .data, .data, .data, .sentinel, .sentinel, .pinned], laidTests := true, laidLooks := .later }
def TopWorksLotsCardSaid : Prop := Claim7.holds Tryz.pinned (.plain (OpenSpec.ofChange topWorksLotsSpec)) topWorksLotsCard

/-- THE TIED CARD OF 'buchholzlaw07.WorksLotStrings'. -/
def worksLotStringsCard : Claim7 := { stood := { row := worksLotStringsRow, standIns := [], harness := (true, "73fb7bea988e95c19d2d708188bf7bd470d6e16b49efb050d5e5e185fcb46d1a"), looks := true }, kinds := [], alts := [], laidByText := true, laidKinds := [.data, .data, .data, .data, .sentinel, .sentinel, .pinned], laidTests := true, laidLooks := .later }
def WorksLotStringsCardSaid : Prop := Claim7.holds Tryz.pinned (.plain (OpenSpec.ofChange worksLotStringsSpec)) worksLotStringsCard

/-- THE TIED CARD OF 'buchholzlaw07.WorksTaskStrings'. -/
def worksTaskStringsCard : Claim7 := { stood := { row := worksTaskStringsRow, standIns := [], harness := (true, "73fb7bea988e95c19d2d708188bf7bd470d6e16b49efb050d5e5e185fcb46d1a"), looks := true }, kinds := [], alts := [], laidByText := true, laidKinds := [.data, .data, .data, .data, .sentinel, .sentinel, .pinned], laidTests := true, laidLooks := .later }
def WorksTaskStringsCardSaid : Prop := Claim7.holds Tryz.pinned (.plain (OpenSpec.ofChange worksTaskStringsSpec)) worksTaskStringsCard

/-- THE SECOND FORM's CARD OF 'buchholztop.TopWorksDried'. -/
def topWorksDriedUptoCard : Claim7 := { stood := { row := topWorksDriedUptoRow, standIns := [], harness := (true, "73fb7bea988e95c19d2d708188bf7bd470d6e16b49efb050d5e5e185fcb46d1a"), looks := true }, kinds := [], alts := [], laidByText := true, laidKinds := [.data, .data, .data, .data, .sentinel, .sentinel, .pinned], laidTests := true, laidLooks := .later }
def TopWorksDriedUptoCardSaid : Prop := Claim7.holds Tryz.pinned (.plain (OpenSpec.upto topWorksDriedSpec)) topWorksDriedUptoCard

/-- THE SECOND FORM's CARD OF 'buchholztop.TopWorksLots'. -/
def topWorksLotsUptoCard : Claim7 := { stood := { row := topWorksLotsUptoRow, standIns := [], harness := (true, "73fb7bea988e95c19d2d708188bf7bd470d6e16b49efb050d5e5e185fcb46d1a"), looks := true }, kinds := [], alts := [], laidByText := true, laidKinds := [.data, .data, .data, .data, .sentinel, .sentinel, .pinned], laidTests := true, laidLooks := .later }
def TopWorksLotsUptoCardSaid : Prop := Claim7.holds Tryz.pinned (.plain (OpenSpec.upto topWorksLotsSpec)) topWorksLotsUptoCard

/-- THE SECOND FORM's CARD OF 'buchholzlaw07.WorksLotStrings'. -/
def worksLotStringsUptoCard : Claim7 := { stood := { row := worksLotStringsUptoRow, standIns := [], harness := (true, "73fb7bea988e95c19d2d708188bf7bd470d6e16b49efb050d5e5e185fcb46d1a"), looks := true }, kinds := [], alts := [], laidByText := true, laidKinds := [.data, .data, .data, .data, .sentinel, .sentinel, .pinned], laidTests := true, laidLooks := .later }
def WorksLotStringsUptoCardSaid : Prop := Claim7.holds Tryz.pinned (.plain (OpenSpec.upto worksLotStringsSpec)) worksLotStringsUptoCard

/-- THE SECOND FORM's CARD OF 'buchholzlaw07.WorksTaskStrings'. -/
def worksTaskStringsUptoCard : Claim7 := { stood := { row := worksTaskStringsUptoRow, standIns := [], harness := (true, "73fb7bea988e95c19d2d708188bf7bd470d6e16b49efb050d5e5e185fcb46d1a"), looks := true }, kinds := [], alts := [], laidByText := true, laidKinds := [.data, .data, .data, .data, .sentinel, .sentinel, .pinned], laidTests := true, laidLooks := .later }
def WorksTaskStringsUptoCardSaid : Prop := Claim7.holds Tryz.pinned (.plain (OpenSpec.upto worksTaskStringsSpec)) worksTaskStringsUptoCard
end Rows
end Go.Proofs.YtbojmcopagbheaaGreatDoor
