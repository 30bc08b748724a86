/-
  DERIVED. GIVEN WITH THE SEED: THE PROGRAM's TIES (one call each: nine closed facts by the kernel) AND EACH ROW's TIE, after the 31st guide's Derived/Test/Toyas{Tie, Card}.lean. No idea stands in it: it is a product of the set-up. Laid BY PROGRAM, IN A SANDBOX (cutbox-door.mjs). By AI agents, Wed Nov 11 2026. No macro, syntax, notation, axiom, sorry.
-/
import Derived.Test.YtabbehmodmmgoaaDoorRows
import Derived.LaidByTextLater
import Derived.SevenTiedAt
import Derived.LaidSub
import Derived.LaidOnce
namespace Go.Proofs.YtabbehmodmmgoaaDoor
open Go
set_option maxRecDepth 100000
theorem seatTie1 : Tryd.prog.laidByTextLater [("math/bits.deBruijn32tab", Rows.laid_math_bits_deBruijn32tab), ("math/bits.deBruijn64tab", Rows.laid_math_bits_deBruijn64tab), ("internal/strconv.uint64pow10", Rows.laid_internal_strconv_uint64pow10), ("buchholz/design.unitOf", Rows.laid_buchholz_design_unitOf), ("buchholz/design.quantityWords", Rows.laid_buchholz_design_quantityWords), ("buchholz/design.unitWords", Rows.laid_buchholz_design_unitWords)] [.data, .data, .data, .data, .widerDeep, .widerDeep] true :=
  Program.laidByTextLater_by_one 39 8 65 (by kernel_rfl) (by kernel_rfl) (by kernel_rfl) (by kernel_rfl) (by kernel_rfl) (by kernel_rfl) (fun _ _ => by kernel_rfl)
theorem noOwnUnsafe : Tryd.pinned.checked.prog.headLifts.contains "ownunsafe" = false := by kernel_rfl
theorem tie : Tryd.prog.laidByTextLater [("buchholz/design.unitOf", Rows.laid_buchholz_design_unitOf)] [.data] true :=
  Program.laidByTextLater.sub seatTie1 ["buchholz/design.unitOf"] (by kernel_rfl) (by kernel_rfl)
theorem topDesignCore_row_tie : Rows.topDesignCoreRow.laidByTextAt .later Tryd.pinned [.data] true :=
  OpenClaim.laidByTextAt_later rfl rfl tie noOwnUnsafe
theorem tie2 : Tryd.prog.laidByTextLater [("math/bits.deBruijn32tab", Rows.laid_math_bits_deBruijn32tab), ("math/bits.deBruijn64tab", Rows.laid_math_bits_deBruijn64tab), ("internal/strconv.uint64pow10", Rows.laid_internal_strconv_uint64pow10), ("buchholz/design.unitOf", Rows.laid_buchholz_design_unitOf), ("buchholz/design.quantityWords", Rows.laid_buchholz_design_quantityWords), ("buchholz/design.unitWords", Rows.laid_buchholz_design_unitWords)] [.data, .data, .data, .data, .widerDeep, .widerDeep] true :=
  Program.laidByTextLater.sub seatTie1 ["math/bits.deBruijn32tab", "math/bits.deBruijn64tab", "internal/strconv.uint64pow10", "buchholz/design.unitOf", "buchholz/design.quantityWords", "buchholz/design.unitWords"] (by kernel_rfl) (by kernel_rfl)
theorem designCores_row_tie : Rows.designCoresRow.laidByTextAt .later Tryd.pinned [.data, .data, .data, .data, .widerDeep, .widerDeep] true :=
  OpenClaim.laidByTextAt_later rfl rfl tie2 noOwnUnsafe
theorem designSteps_row_tie : Rows.designStepsRow.laidByTextAt .later Tryd.pinned [.data, .data, .data, .data, .widerDeep, .widerDeep] true :=
  OpenClaim.laidByTextAt_later rfl rfl tie2 noOwnUnsafe
theorem designStocks_row_tie : Rows.designStocksRow.laidByTextAt .later Tryd.pinned [.data, .data, .data, .data, .widerDeep, .widerDeep] true :=
  OpenClaim.laidByTextAt_later rfl rfl tie2 noOwnUnsafe
theorem topDesignCoreUpto_row_tie : Rows.topDesignCoreUptoRow.laidByTextAt .later Tryd.pinned [.data] true :=
  OpenClaim.laidByTextAt_later rfl rfl tie noOwnUnsafe
theorem designCoresUpto_row_tie : Rows.designCoresUptoRow.laidByTextAt .later Tryd.pinned [.data, .data, .data, .data, .widerDeep, .widerDeep] true :=
  OpenClaim.laidByTextAt_later rfl rfl tie2 noOwnUnsafe
theorem designStepsUpto_row_tie : Rows.designStepsUptoRow.laidByTextAt .later Tryd.pinned [.data, .data, .data, .data, .widerDeep, .widerDeep] true :=
  OpenClaim.laidByTextAt_later rfl rfl tie2 noOwnUnsafe
theorem designStocksUpto_row_tie : Rows.designStocksUptoRow.laidByTextAt .later Tryd.pinned [.data, .data, .data, .data, .widerDeep, .widerDeep] true :=
  OpenClaim.laidByTextAt_later rfl rfl tie2 noOwnUnsafe
end Go.Proofs.YtabbehmodmmgoaaDoor
