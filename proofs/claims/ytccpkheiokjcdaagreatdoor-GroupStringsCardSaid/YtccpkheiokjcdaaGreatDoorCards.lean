/-
  DERIVED. GIVEN WITH THE SEED: THE CARDS: each row of YtccpkheiokjcdaaGreatDoorRows.lean that lists a variable, with what it lists TIED to the program's text (the seventh form; the later family's looks); each row that meets fmt, with fmt's text TOLD by the authors' own Lean function (tested against real Go, not proved from fmt's source: count such statements apart). THE CARD IS WHAT COUNTS. Prove the row's statement (the work); the ties are given (YtccpkheiokjcdaaGreatDoorTie.lean); close each card by the builder's one call (the guide's Derived/Test/ToyasCard.lean, 'card_holds'). Laid BY PROGRAM, IN A SANDBOX (cutbox-door.mjs). By AI agents, Wed Nov 11 2026. No macro, syntax, notation, axiom, sorry.
-/
import Derived.Test.YtccpkheiokjcdaaGreatDoorRows
import GoSem.ClaimSeven
namespace Go.Proofs.YtccpkheiokjcdaaGreatDoor
namespace Rows

/-- THE TIED CARD OF 'buchholzlaw01.GroupStrings'. -/
def groupStringsCard : Claim7 := { stood := { row := groupStringsRow, standIns := [], harness := (true, "c29e30751bd6fae1a8b161e973f39326cf10cd8694a40495a8268f3924ca87a8"), looks := true }, kinds := [], alts := [], laidByText := true, laidKinds := [.data, .data, .data, .data, .sentinel, .sentinel, .data, .widerDeep, .pinned, .pinned], laidTests := true, laidLooks := .later }
def GroupStringsCardSaid : Prop := Claim7.holds Tryz.pinned (.plain (OpenSpec.ofChange groupStringsSpec)) groupStringsCard

/-- THE SECOND FORM's CARD OF 'buchholzlaw01.GroupStrings'. -/
def groupStringsUptoCard : Claim7 := { stood := { row := groupStringsUptoRow, standIns := [], harness := (true, "c29e30751bd6fae1a8b161e973f39326cf10cd8694a40495a8268f3924ca87a8"), looks := true }, kinds := [], alts := [], laidByText := true, laidKinds := [.data, .data, .data, .data, .sentinel, .sentinel, .data, .widerDeep, .pinned, .pinned], laidTests := true, laidLooks := .later }
def GroupStringsUptoCardSaid : Prop := Claim7.holds Tryz.pinned (.plain (OpenSpec.upto groupStringsSpec)) groupStringsUptoCard
end Rows
end Go.Proofs.YtccpkheiokjcdaaGreatDoor
