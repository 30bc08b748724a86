/-
  DERIVED. GIVEN WITH THE SEED: THE CARDS: each row of YtabbehmodmmgoaaDoorRows.lean that lists a variable, with what it lists TIED to the program's text (the seventh form; the later family's looks); each row that meets fmt, with fmt's text TOLD by the authors' own Lean function (tested against real Go, not proved from fmt's source: count such statements apart). THE CARD IS WHAT COUNTS. Prove the row's statement (the work); the ties are given (YtabbehmodmmgoaaDoorTie.lean); close each card by the builder's one call (the guide's Derived/Test/ToyasCard.lean, 'card_holds'). Laid BY PROGRAM, IN A SANDBOX (cutbox-door.mjs). By AI agents, Wed Nov 11 2026. No macro, syntax, notation, axiom, sorry.
-/
import Derived.Test.YtabbehmodmmgoaaDoorRows
import GoSem.ClaimSeven
namespace Go.Proofs.YtabbehmodmmgoaaDoor
namespace Rows

/-- THE TIED CARD OF 'buchholztop.TopDesignCore'. -/
def topDesignCoreCard : Claim7 := { stood := { row := topDesignCoreRow, standIns := [], harness := (true, "54c9ff23374f59b70ae0d61456e0ac4c08c2c966edcc688a551c8691c113c33e"), looks := false }, kinds := [], alts := [], laidByText := true, laidKinds := [.data], laidTests := true, laidLooks := .later }
def TopDesignCoreCardSaid : Prop := Claim7.holds Tryd.pinned (.plain (OpenSpec.ofChange topDesignCoreSpec)) topDesignCoreCard

/-- THE TIED CARD OF 'buchholzlaw02.DesignCores'. -/
def designCoresCard : Claim7 := { stood := { row := designCoresRow, standIns := [], harness := (true, "54c9ff23374f59b70ae0d61456e0ac4c08c2c966edcc688a551c8691c113c33e"), looks := false }, kinds := [], alts := [], laidByText := true, laidKinds := [.data, .data, .data, .data, .widerDeep, .widerDeep], laidTests := true, laidLooks := .later }
def DesignCoresCardSaid : Prop := Claim7.holds Tryd.pinned (.plain (OpenSpec.ofChange designCoresSpec)) designCoresCard

/-- THE TIED CARD OF 'buchholzlaw02.DesignSteps'. -/
def designStepsCard : Claim7 := { stood := { row := designStepsRow, standIns := [], harness := (true, "54c9ff23374f59b70ae0d61456e0ac4c08c2c966edcc688a551c8691c113c33e"), looks := false }, kinds := [], alts := [], laidByText := true, laidKinds := [.data, .data, .data, .data, .widerDeep, .widerDeep], laidTests := true, laidLooks := .later }
def DesignStepsCardSaid : Prop := Claim7.holds Tryd.pinned (.plain (OpenSpec.ofChange designStepsSpec)) designStepsCard

/-- THE TIED CARD OF 'buchholzlaw02.DesignStocks'. -/
def designStocksCard : Claim7 := { stood := { row := designStocksRow, standIns := [], harness := (true, "54c9ff23374f59b70ae0d61456e0ac4c08c2c966edcc688a551c8691c113c33e"), looks := false }, kinds := [], alts := [], laidByText := true, laidKinds := [.data, .data, .data, .data, .widerDeep, .widerDeep], laidTests := true, laidLooks := .later }
def DesignStocksCardSaid : Prop := Claim7.holds Tryd.pinned (.plain (OpenSpec.ofChange designStocksSpec)) designStocksCard

/-- THE SECOND FORM's CARD OF 'buchholztop.TopDesignCore'. -/
def topDesignCoreUptoCard : Claim7 := { stood := { row := topDesignCoreUptoRow, standIns := [], harness := (true, "54c9ff23374f59b70ae0d61456e0ac4c08c2c966edcc688a551c8691c113c33e"), looks := false }, kinds := [], alts := [], laidByText := true, laidKinds := [.data], laidTests := true, laidLooks := .later }
def TopDesignCoreUptoCardSaid : Prop := Claim7.holds Tryd.pinned (.plain (OpenSpec.upto topDesignCoreSpec)) topDesignCoreUptoCard

/-- THE SECOND FORM's CARD OF 'buchholzlaw02.DesignCores'. -/
def designCoresUptoCard : Claim7 := { stood := { row := designCoresUptoRow, standIns := [], harness := (true, "54c9ff23374f59b70ae0d61456e0ac4c08c2c966edcc688a551c8691c113c33e"), looks := false }, kinds := [], alts := [], laidByText := true, laidKinds := [.data, .data, .data, .data, .widerDeep, .widerDeep], laidTests := true, laidLooks := .later }
def DesignCoresUptoCardSaid : Prop := Claim7.holds Tryd.pinned (.plain (OpenSpec.upto designCoresSpec)) designCoresUptoCard

/-- THE SECOND FORM's CARD OF 'buchholzlaw02.DesignSteps'. -/
def designStepsUptoCard : Claim7 := { stood := { row := designStepsUptoRow, standIns := [], harness := (true, "54c9ff23374f59b70ae0d61456e0ac4c08c2c966edcc688a551c8691c113c33e"), looks := false }, kinds := [], alts := [], laidByText := true, laidKinds := [.data, .data, .data, .data, .widerDeep, .widerDeep], laidTests := true, laidLooks := .later }
def DesignStepsUptoCardSaid : Prop := Claim7.holds Tryd.pinned (.plain (OpenSpec.upto designStepsSpec)) designStepsUptoCard

/-- THE SECOND FORM's CARD OF 'buchholzlaw02.DesignStocks'. -/
def designStocksUptoCard : Claim7 := { stood := { row := designStocksUptoRow, standIns := [], harness := (true, "54c9ff23374f59b70ae0d61456e0ac4c08c2c966edcc688a551c8691c113c33e"), looks := false }, kinds := [], alts := [], laidByText := true, laidKinds := [.data, .data, .data, .data, .widerDeep, .widerDeep], laidTests := true, laidLooks := .later }
def DesignStocksUptoCardSaid : Prop := Claim7.holds Tryd.pinned (.plain (OpenSpec.upto designStocksSpec)) designStocksUptoCard
end Rows
end Go.Proofs.YtabbehmodmmgoaaDoor
