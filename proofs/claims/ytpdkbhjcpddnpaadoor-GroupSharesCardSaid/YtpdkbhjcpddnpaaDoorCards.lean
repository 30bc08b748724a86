/-
  DERIVED. GIVEN WITH THE SEED: THE CARDS: each row of YtpdkbhjcpddnpaaDoorRows.lean that lists a variable, with what it lists TIED to the program's text (the seventh form; the later family's looks); each row that meets fmt, with fmt's text TOLD by the authors' own Lean function (tested against real Go, not proved from fmt's source: count such statements apart). THE CARD IS WHAT COUNTS. Prove the row's statement (the work); the ties are given (YtpdkbhjcpddnpaaDoorTie.lean); close each card by the builder's one call (the guide's Derived/Test/ToyasCard.lean, 'card_holds'). Laid BY PROGRAM, IN A SANDBOX (cutbox-door.mjs). By AI agents, Wed Nov 11 2026. No macro, syntax, notation, axiom, sorry.
-/
import Derived.Test.YtpdkbhjcpddnpaaDoorRows
import GoSem.ClaimSeven
namespace Go.Proofs.YtpdkbhjcpddnpaaDoor
namespace Rows

/-- THE TIED CARD OF 'buchholzlaw01.GroupShares'. -/
def groupSharesCard : Claim7 := { stood := { row := groupSharesRow, standIns := [], harness := (true, "b2267c26b8bdced9544e939c5de0133804082363e1b255312603d18f7c2b4339"), looks := false }, kinds := [], alts := [], laidByText := true, laidKinds := [.data, .data, .data, .data, .data, .widerDeep, .pinned, .pinned], laidTests := true, laidLooks := .later }
def GroupSharesCardSaid : Prop := Claim7.holds Tryd.pinned (.plain (OpenSpec.ofChange groupSharesSpec)) groupSharesCard

/-- THE SECOND FORM's CARD OF 'buchholzlaw01.GroupShares'. -/
def groupSharesUptoCard : Claim7 := { stood := { row := groupSharesUptoRow, standIns := [], harness := (true, "b2267c26b8bdced9544e939c5de0133804082363e1b255312603d18f7c2b4339"), looks := false }, kinds := [], alts := [], laidByText := true, laidKinds := [.data, .data, .data, .data, .data, .widerDeep, .pinned, .pinned], laidTests := true, laidLooks := .later }
def GroupSharesUptoCardSaid : Prop := Claim7.holds Tryd.pinned (.plain (OpenSpec.upto groupSharesSpec)) groupSharesUptoCard
end Rows
end Go.Proofs.YtpdkbhjcpddnpaaDoor
