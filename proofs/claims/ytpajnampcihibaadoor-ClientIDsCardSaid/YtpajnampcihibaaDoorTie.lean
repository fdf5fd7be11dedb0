/-
  DERIVED. GIVEN WITH THE SEED: THE PROGRAM's TIES (one call each: nine closed facts by the kernel) AND EACH ROW's TIE, after the 31st guide's Derived/Test/Toyas{Tie, Card}.lean. No idea stands in it: it is a product of the set-up. Laid BY PROGRAM, IN A SANDBOX (cutbox-door.mjs). By AI agents, Wed Nov 11 2026. No macro, syntax, notation, axiom, sorry.
-/
import Derived.Test.YtpajnampcihibaaDoorRows
import Derived.LaidByTextLater
import Derived.SevenTiedAt
import Derived.LaidSub
import Derived.LaidOnce
namespace Go.Proofs.YtpajnampcihibaaDoor
open Go
set_option maxRecDepth 100000
theorem seatTie1 : Tryd.prog.laidByTextLater [("jotter/octet.table", Rows.laid_jotter_octet_table), ("jotter/wire.size", Rows.laid_jotter_wire_size), ("jotter/wire.shapes", Rows.laid_jotter_wire_shapes)] [.data, .data, .widerDeep] true :=
  Program.laidByTextLater_by_one 30 8 17 (by kernel_rfl) (by kernel_rfl) (by kernel_rfl) (by kernel_rfl) (by kernel_rfl) (by kernel_rfl) (fun _ _ => by kernel_rfl)
theorem noOwnUnsafe : Tryd.pinned.checked.prog.headLifts.contains "ownunsafe" = false := by kernel_rfl
theorem tie : Tryd.prog.laidByTextLater [("jotter/octet.table", Rows.laid_jotter_octet_table), ("jotter/wire.size", Rows.laid_jotter_wire_size), ("jotter/wire.shapes", Rows.laid_jotter_wire_shapes)] [.data, .data, .widerDeep] true :=
  Program.laidByTextLater.sub seatTie1 ["jotter/octet.table", "jotter/wire.size", "jotter/wire.shapes"] (by kernel_rfl) (by kernel_rfl)
theorem clientIDs_row_tie : Rows.clientIDsRow.laidByTextAt .later Tryd.pinned [.data, .data, .widerDeep] true :=
  OpenClaim.laidByTextAt_later rfl rfl tie noOwnUnsafe
theorem clientIDsUpto_row_tie : Rows.clientIDsUptoRow.laidByTextAt .later Tryd.pinned [.data, .data, .widerDeep] true :=
  OpenClaim.laidByTextAt_later rfl rfl tie noOwnUnsafe
end Go.Proofs.YtpajnampcihibaaDoor
