/-
  DERIVED. GIVEN WITH THE SEED: THE PROGRAM's TIES (one call each: nine closed facts by the kernel) AND EACH ROW's TIE, after the 31st guide's Derived/Test/Toyas{Tie, Card}.lean. No idea stands in it: it is a product of the set-up. Laid BY PROGRAM, IN A SANDBOX (cutbox-door.mjs). By AI agents, Wed Nov 11 2026. No macro, syntax, notation, axiom, sorry.
-/
import Derived.Test.YtdgaflcnigljlaaGreatDoorRows
import Derived.LaidByTextLater
import Derived.SevenTiedAt
import Derived.LaidSub
import Derived.LaidOnce
namespace Go.Proofs.YtdgaflcnigljlaaGreatDoor
open Go
set_option maxRecDepth 100000
theorem seatTie1 : Tryz.prog.laidByTextLater [("math/bits.deBruijn32tab", Rows.laid_math_bits_deBruijn32tab), ("math/bits.deBruijn64tab", Rows.laid_math_bits_deBruijn64tab), ("internal/strconv.uint64pow10", Rows.laid_internal_strconv_uint64pow10), ("computus/julian.lengths", Rows.laid_computus_julian_lengths), ("computus/weekday.names", Rows.laid_computus_weekday_names), ("computus/label.lengths", Rows.laid_computus_label_lengths), ("computus/label.spans", Rows.laid_computus_label_spans), ("computus/cattext.policies", Rows.laid_computus_cattext_policies), ("computus/ordotext.kinds", Rows.laid_computus_ordotext_kinds)] [.data, .data, .data, .data, .data, .widerDeep, .data, .widerDeep, .widerDeep] true :=
  Program.laidByTextLater_by_one 54 8 65 (by kernel_rfl) (by kernel_rfl) (by kernel_rfl) (by kernel_rfl) (by kernel_rfl) (by kernel_rfl) (fun _ _ => by kernel_rfl)
theorem noOwnUnsafe : Tryz.pinned.checked.prog.headLifts.contains "ownunsafe" = false := by kernel_rfl
theorem tie : Tryz.prog.laidByTextLater [("math/bits.deBruijn32tab", Rows.laid_math_bits_deBruijn32tab), ("math/bits.deBruijn64tab", Rows.laid_math_bits_deBruijn64tab), ("internal/strconv.uint64pow10", Rows.laid_internal_strconv_uint64pow10), ("computus/julian.lengths", Rows.laid_computus_julian_lengths), ("computus/weekday.names", Rows.laid_computus_weekday_names), ("computus/label.lengths", Rows.laid_computus_label_lengths), ("computus/label.spans", Rows.laid_computus_label_spans), ("computus/cattext.policies", Rows.laid_computus_cattext_policies), ("computus/ordotext.kinds", Rows.laid_computus_ordotext_kinds)] [.data, .data, .data, .data, .data, .widerDeep, .data, .widerDeep, .widerDeep] true :=
  Program.laidByTextLater.sub seatTie1 ["math/bits.deBruijn32tab", "math/bits.deBruijn64tab", "internal/strconv.uint64pow10", "computus/julian.lengths", "computus/weekday.names", "computus/label.lengths", "computus/label.spans", "computus/cattext.policies", "computus/ordotext.kinds"] (by kernel_rfl) (by kernel_rfl)
theorem wholeTransfers_row_tie : Rows.wholeTransfersRow.laidByTextAt .later Tryz.pinned [.data, .data, .data, .data, .data, .widerDeep, .data, .widerDeep, .widerDeep] true :=
  OpenClaim.laidByTextAt_later rfl rfl tie noOwnUnsafe
theorem wholeAlike_row_tie : Rows.wholeAlikeRow.laidByTextAt .later Tryz.pinned [.data, .data, .data, .data, .data, .widerDeep, .data, .widerDeep, .widerDeep] true :=
  OpenClaim.laidByTextAt_later rfl rfl tie noOwnUnsafe
theorem wholeOmitted_row_tie : Rows.wholeOmittedRow.laidByTextAt .later Tryz.pinned [.data, .data, .data, .data, .data, .widerDeep, .data, .widerDeep, .widerDeep] true :=
  OpenClaim.laidByTextAt_later rfl rfl tie noOwnUnsafe
theorem wholeSeasons_row_tie : Rows.wholeSeasonsRow.laidByTextAt .later Tryz.pinned [.data, .data, .data, .data, .data, .widerDeep, .data, .widerDeep, .widerDeep] true :=
  OpenClaim.laidByTextAt_later rfl rfl tie noOwnUnsafe
theorem wholeTransfersUpto_row_tie : Rows.wholeTransfersUptoRow.laidByTextAt .later Tryz.pinned [.data, .data, .data, .data, .data, .widerDeep, .data, .widerDeep, .widerDeep] true :=
  OpenClaim.laidByTextAt_later rfl rfl tie noOwnUnsafe
theorem wholeAlikeUpto_row_tie : Rows.wholeAlikeUptoRow.laidByTextAt .later Tryz.pinned [.data, .data, .data, .data, .data, .widerDeep, .data, .widerDeep, .widerDeep] true :=
  OpenClaim.laidByTextAt_later rfl rfl tie noOwnUnsafe
theorem wholeOmittedUpto_row_tie : Rows.wholeOmittedUptoRow.laidByTextAt .later Tryz.pinned [.data, .data, .data, .data, .data, .widerDeep, .data, .widerDeep, .widerDeep] true :=
  OpenClaim.laidByTextAt_later rfl rfl tie noOwnUnsafe
theorem wholeSeasonsUpto_row_tie : Rows.wholeSeasonsUptoRow.laidByTextAt .later Tryz.pinned [.data, .data, .data, .data, .data, .widerDeep, .data, .widerDeep, .widerDeep] true :=
  OpenClaim.laidByTextAt_later rfl rfl tie noOwnUnsafe
end Go.Proofs.YtdgaflcnigljlaaGreatDoor
