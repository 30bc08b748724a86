/-
  DERIVED. GIVEN WITH THE SEED: THE PROGRAM's TIES (one call each: nine closed facts by the kernel) AND EACH ROW's TIE, after the 31st guide's Derived/Test/Toyas{Tie, Card}.lean. No idea stands in it: it is a product of the set-up. Laid BY PROGRAM, IN A SANDBOX (cutbox-door.mjs). By AI agents, Wed Nov 11 2026. No macro, syntax, notation, axiom, sorry.
-/
import Derived.Test.YtncbigkkmgnkmaaGreatDoorRows
import Derived.LaidByTextLater
import Derived.SevenTiedAt
import Derived.LaidSub
import Derived.LaidOnce
namespace Go.Proofs.YtncbigkkmgnkmaaGreatDoor
open Go
set_option maxRecDepth 100000
theorem seatTie1 : Tryz.prog.laidByTextLater [("math/bits.deBruijn32tab", Rows.laid_math_bits_deBruijn32tab), ("math/bits.deBruijn64tab", Rows.laid_math_bits_deBruijn64tab), ("internal/strconv.uint64pow10", Rows.laid_internal_strconv_uint64pow10), ("buchholz/design.unitOf", Rows.laid_buchholz_design_unitOf), ("buchholz/design.quantityWords", Rows.laid_buchholz_design_quantityWords), ("buchholz/design.unitWords", Rows.laid_buchholz_design_unitWords)] [.data, .data, .data, .data, .widerDeep, .widerDeep] true :=
  Program.laidByTextLater_by_one 39 8 65 (by kernel_rfl) (by kernel_rfl) (by kernel_rfl) (by kernel_rfl) (by kernel_rfl) (by kernel_rfl) (fun _ _ => by kernel_rfl)
theorem noOwnUnsafe : Tryz.pinned.checked.prog.headLifts.contains "ownunsafe" = false := by kernel_rfl
theorem tie : Tryz.prog.laidByTextLater [("math/bits.deBruijn32tab", Rows.laid_math_bits_deBruijn32tab), ("math/bits.deBruijn64tab", Rows.laid_math_bits_deBruijn64tab), ("internal/strconv.uint64pow10", Rows.laid_internal_strconv_uint64pow10), ("buchholz/design.unitOf", Rows.laid_buchholz_design_unitOf), ("buchholz/design.quantityWords", Rows.laid_buchholz_design_quantityWords), ("buchholz/design.unitWords", Rows.laid_buchholz_design_unitWords)] [.data, .data, .data, .data, .widerDeep, .widerDeep] true :=
  Program.laidByTextLater.sub seatTie1 ["math/bits.deBruijn32tab", "math/bits.deBruijn64tab", "internal/strconv.uint64pow10", "buchholz/design.unitOf", "buchholz/design.quantityWords", "buchholz/design.unitWords"] (by kernel_rfl) (by kernel_rfl)
theorem designCheapest_row_tie : Rows.designCheapestRow.laidByTextAt .later Tryz.pinned [.data, .data, .data, .data, .widerDeep, .widerDeep] true :=
  OpenClaim.laidByTextAt_later rfl rfl tie noOwnUnsafe
theorem designBounds_row_tie : Rows.designBoundsRow.laidByTextAt .later Tryz.pinned [.data, .data, .data, .data, .widerDeep, .widerDeep] true :=
  OpenClaim.laidByTextAt_later rfl rfl tie noOwnUnsafe
theorem designChoices_row_tie : Rows.designChoicesRow.laidByTextAt .later Tryz.pinned [.data, .data, .data, .data, .widerDeep, .widerDeep] true :=
  OpenClaim.laidByTextAt_later rfl rfl tie noOwnUnsafe
theorem designWindings_row_tie : Rows.designWindingsRow.laidByTextAt .later Tryz.pinned [.data, .data, .data, .data, .widerDeep, .widerDeep] true :=
  OpenClaim.laidByTextAt_later rfl rfl tie noOwnUnsafe
theorem designCheapestUpto_row_tie : Rows.designCheapestUptoRow.laidByTextAt .later Tryz.pinned [.data, .data, .data, .data, .widerDeep, .widerDeep] true :=
  OpenClaim.laidByTextAt_later rfl rfl tie noOwnUnsafe
theorem designBoundsUpto_row_tie : Rows.designBoundsUptoRow.laidByTextAt .later Tryz.pinned [.data, .data, .data, .data, .widerDeep, .widerDeep] true :=
  OpenClaim.laidByTextAt_later rfl rfl tie noOwnUnsafe
theorem designChoicesUpto_row_tie : Rows.designChoicesUptoRow.laidByTextAt .later Tryz.pinned [.data, .data, .data, .data, .widerDeep, .widerDeep] true :=
  OpenClaim.laidByTextAt_later rfl rfl tie noOwnUnsafe
theorem designWindingsUpto_row_tie : Rows.designWindingsUptoRow.laidByTextAt .later Tryz.pinned [.data, .data, .data, .data, .widerDeep, .widerDeep] true :=
  OpenClaim.laidByTextAt_later rfl rfl tie noOwnUnsafe
end Go.Proofs.YtncbigkkmgnkmaaGreatDoor
