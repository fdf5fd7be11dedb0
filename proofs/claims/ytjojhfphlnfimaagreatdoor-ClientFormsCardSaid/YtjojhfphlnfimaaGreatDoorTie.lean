/-
  DERIVED. GIVEN WITH THE SEED: THE PROGRAM's TIES (one call each: nine closed facts by the kernel) AND EACH ROW's TIE, after the 31st guide's Derived/Test/Toyas{Tie, Card}.lean. No idea stands in it: it is a product of the set-up. Laid BY PROGRAM, IN A SANDBOX (cutbox-door.mjs). By AI agents, Wed Nov 11 2026. No macro, syntax, notation, axiom, sorry.
-/
import Derived.Test.YtjojhfphlnfimaaGreatDoorRows
import Derived.LaidByTextLater
import Derived.SevenTiedAt
import Derived.LaidSub
import Derived.LaidOnce
namespace Go.Proofs.YtjojhfphlnfimaaGreatDoor
open Go
set_option maxRecDepth 100000
theorem seatTie1 : Tryz.prog.laidByTextLater [("errors.errorType", Rows.laid_errors_errorType), ("jotter/octet.table", Rows.laid_jotter_octet_table), ("jotter/ot.rules", Rows.laid_jotter_ot_rules), ("jotter/wire.size", Rows.laid_jotter_wire_size), ("jotter/wire.shapes", Rows.laid_jotter_wire_shapes)] [.handle, .data, .funcs, .data, .widerDeep] true :=
  Program.laidByTextLater_by_one 45 8 17 (by kernel_rfl) (by kernel_rfl) (by kernel_rfl) (by kernel_rfl) (by kernel_rfl) (by kernel_rfl) (fun _ _ => by kernel_rfl)
theorem noOwnUnsafe : Tryz.pinned.checked.prog.headLifts.contains "ownunsafe" = false := by kernel_rfl
theorem tie : Tryz.prog.laidByTextLater [("errors.errorType", Rows.laid_errors_errorType), ("jotter/octet.table", Rows.laid_jotter_octet_table), ("jotter/ot.rules", Rows.laid_jotter_ot_rules), ("jotter/wire.size", Rows.laid_jotter_wire_size), ("jotter/wire.shapes", Rows.laid_jotter_wire_shapes)] [.handle, .data, .funcs, .data, .widerDeep] true :=
  Program.laidByTextLater.sub seatTie1 ["errors.errorType", "jotter/octet.table", "jotter/ot.rules", "jotter/wire.size", "jotter/wire.shapes"] (by kernel_rfl) (by kernel_rfl)
theorem clientOnce_row_tie : Rows.clientOnceRow.laidByTextAt .later Tryz.pinned [.handle, .data, .funcs, .data, .widerDeep] true :=
  OpenClaim.laidByTextAt_later rfl rfl tie noOwnUnsafe
theorem clientText_row_tie : Rows.clientTextRow.laidByTextAt .later Tryz.pinned [.handle, .data, .funcs, .data, .widerDeep] true :=
  OpenClaim.laidByTextAt_later rfl rfl tie noOwnUnsafe
theorem clientForms_row_tie : Rows.clientFormsRow.laidByTextAt .later Tryz.pinned [.handle, .data, .funcs, .data, .widerDeep] true :=
  OpenClaim.laidByTextAt_later rfl rfl tie noOwnUnsafe
theorem clientSends_row_tie : Rows.clientSendsRow.laidByTextAt .later Tryz.pinned [.handle, .data, .funcs, .data, .widerDeep] true :=
  OpenClaim.laidByTextAt_later rfl rfl tie noOwnUnsafe
theorem clientOnceUpto_row_tie : Rows.clientOnceUptoRow.laidByTextAt .later Tryz.pinned [.handle, .data, .funcs, .data, .widerDeep] true :=
  OpenClaim.laidByTextAt_later rfl rfl tie noOwnUnsafe
theorem clientTextUpto_row_tie : Rows.clientTextUptoRow.laidByTextAt .later Tryz.pinned [.handle, .data, .funcs, .data, .widerDeep] true :=
  OpenClaim.laidByTextAt_later rfl rfl tie noOwnUnsafe
theorem clientFormsUpto_row_tie : Rows.clientFormsUptoRow.laidByTextAt .later Tryz.pinned [.handle, .data, .funcs, .data, .widerDeep] true :=
  OpenClaim.laidByTextAt_later rfl rfl tie noOwnUnsafe
theorem clientSendsUpto_row_tie : Rows.clientSendsUptoRow.laidByTextAt .later Tryz.pinned [.handle, .data, .funcs, .data, .widerDeep] true :=
  OpenClaim.laidByTextAt_later rfl rfl tie noOwnUnsafe
end Go.Proofs.YtjojhfphlnfimaaGreatDoor
