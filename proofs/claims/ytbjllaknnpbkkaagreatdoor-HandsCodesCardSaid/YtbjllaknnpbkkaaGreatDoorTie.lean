/-
  DERIVED. GIVEN WITH THE SEED: THE PROGRAM's TIES (one call each: nine closed facts by the kernel) AND EACH ROW's TIE, after the 31st guide's Derived/Test/Toyas{Tie, Card}.lean. No idea stands in it: it is a product of the set-up. Laid BY PROGRAM, IN A SANDBOX (cutbox-door.mjs). By AI agents, Wed Nov 11 2026. No macro, syntax, notation, axiom, sorry.
-/
import Derived.Test.YtbjllaknnpbkkaaGreatDoorRows
import Derived.LaidByTextLater
import Derived.SevenTiedAt
import Derived.LaidSub
import Derived.LaidOnce
namespace Go.Proofs.YtbjllaknnpbkkaaGreatDoor
open Go
set_option maxRecDepth 100000
theorem seatTie1 : Tryz.prog.laidByTextLater [("glazier/order.spans", Rows.laid_glazier_order_spans), ("glazier/gravity.halves", Rows.laid_glazier_gravity_halves), ("glazier/rights.rules", Rows.laid_glazier_rights_rules), ("unicode.White_Space", Rows.laid_unicode_White_Space), ("strings.asciiSpace", Rows.laid_strings_asciiSpace), ("glazier/format.sizes", Rows.laid_glazier_format_sizes)] [.data, .data, .data, .listed, .data, .data] true :=
  Program.laidByTextLater_by_one 68 8 257 (by kernel_rfl) (by kernel_rfl) (by kernel_rfl) (by kernel_rfl) (by kernel_rfl) (by kernel_rfl) (fun _ _ => by kernel_rfl)
theorem noOwnUnsafe : Tryz.pinned.checked.prog.headLifts.contains "ownunsafe" = false := by kernel_rfl
theorem tie : Tryz.prog.laidByTextLater [("glazier/order.spans", Rows.laid_glazier_order_spans), ("glazier/gravity.halves", Rows.laid_glazier_gravity_halves), ("glazier/rights.rules", Rows.laid_glazier_rights_rules), ("unicode.White_Space", Rows.laid_unicode_White_Space), ("strings.asciiSpace", Rows.laid_strings_asciiSpace), ("glazier/format.sizes", Rows.laid_glazier_format_sizes)] [.data, .data, .data, .listed, .data, .data] true :=
  Program.laidByTextLater.sub seatTie1 ["glazier/order.spans", "glazier/gravity.halves", "glazier/rights.rules", "unicode.White_Space", "strings.asciiSpace", "glazier/format.sizes"] (by kernel_rfl) (by kernel_rfl)
theorem handsCodes_row_tie : Rows.handsCodesRow.laidByTextAt .later Tryz.pinned [.data, .data, .data, .listed, .data, .data] true :=
  OpenClaim.laidByTextAt_later rfl rfl tie noOwnUnsafe
theorem handsCodesUpto_row_tie : Rows.handsCodesUptoRow.laidByTextAt .later Tryz.pinned [.data, .data, .data, .listed, .data, .data] true :=
  OpenClaim.laidByTextAt_later rfl rfl tie noOwnUnsafe
end Go.Proofs.YtbjllaknnpbkkaaGreatDoor
