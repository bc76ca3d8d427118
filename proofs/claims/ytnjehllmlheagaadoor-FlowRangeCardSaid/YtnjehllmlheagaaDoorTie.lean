/-
  DERIVED. GIVEN WITH THE SEED: THE PROGRAM's TIES (one call each: nine closed facts by the kernel) AND EACH ROW's TIE, after the 31st guide's Derived/Test/Toyas{Tie, Card}.lean. No idea stands in it: it is a product of the set-up. Laid BY PROGRAM, IN A SANDBOX (cutbox-door.mjs). By AI agents, Wed Nov 11 2026. No macro, syntax, notation, axiom, sorry.
-/
import Derived.Test.YtnjehllmlheagaaDoorRows
import Derived.LaidByTextLater
import Derived.SevenTiedAt
import Derived.LaidSub
import Derived.LaidOnce
namespace Go.Proofs.YtnjehllmlheagaaDoor
open Go
set_option maxRecDepth 100000
theorem seatTie1 : Tryd.prog.laidByTextLater [("shuttlecock/ast.words", Rows.laid_shuttlecock_ast_words), ("shuttlecock/diag.kinds", Rows.laid_shuttlecock_diag_kinds), ("shuttlecock/flow.rules", Rows.laid_shuttlecock_flow_rules), ("shuttlecock/sem.ops", Rows.laid_shuttlecock_sem_ops)] [.mapped, .data, .data, .funcs] true :=
  Program.laidByTextLater_by_one 152 8 33 (by kernel_rfl) (by kernel_rfl) (by kernel_rfl) (by kernel_rfl) (by kernel_rfl) (by kernel_rfl) (fun _ _ => by kernel_rfl)
theorem noOwnUnsafe : Tryd.pinned.checked.prog.headLifts.contains "ownunsafe" = false := by kernel_rfl
theorem tie : Tryd.prog.laidByTextLater [("shuttlecock/ast.words", Rows.laid_shuttlecock_ast_words), ("shuttlecock/diag.kinds", Rows.laid_shuttlecock_diag_kinds), ("shuttlecock/flow.rules", Rows.laid_shuttlecock_flow_rules)] [.mapped, .data, .data] true :=
  Program.laidByTextLater.sub seatTie1 ["shuttlecock/ast.words", "shuttlecock/diag.kinds", "shuttlecock/flow.rules"] (by kernel_rfl) (by kernel_rfl)
theorem flowRange_row_tie : Rows.flowRangeRow.laidByTextAt .later Tryd.pinned [.mapped, .data, .data] true :=
  OpenClaim.laidByTextAt_later rfl rfl tie noOwnUnsafe
theorem flowChecks_row_tie : Rows.flowChecksRow.laidByTextAt .later Tryd.pinned [.mapped, .data, .data] true :=
  OpenClaim.laidByTextAt_later rfl rfl tie noOwnUnsafe
theorem tie2 : Tryd.prog.laidByTextLater [("shuttlecock/ast.words", Rows.laid_shuttlecock_ast_words), ("shuttlecock/diag.kinds", Rows.laid_shuttlecock_diag_kinds), ("shuttlecock/flow.rules", Rows.laid_shuttlecock_flow_rules), ("shuttlecock/sem.ops", Rows.laid_shuttlecock_sem_ops)] [.mapped, .data, .data, .funcs] true :=
  Program.laidByTextLater.sub seatTie1 ["shuttlecock/ast.words", "shuttlecock/diag.kinds", "shuttlecock/flow.rules", "shuttlecock/sem.ops"] (by kernel_rfl) (by kernel_rfl)
theorem runFront_row_tie : Rows.runFrontRow.laidByTextAt .later Tryd.pinned [.mapped, .data, .data, .funcs] true :=
  OpenClaim.laidByTextAt_later rfl rfl tie2 noOwnUnsafe
theorem flowRangeUpto_row_tie : Rows.flowRangeUptoRow.laidByTextAt .later Tryd.pinned [.mapped, .data, .data] true :=
  OpenClaim.laidByTextAt_later rfl rfl tie noOwnUnsafe
theorem flowChecksUpto_row_tie : Rows.flowChecksUptoRow.laidByTextAt .later Tryd.pinned [.mapped, .data, .data] true :=
  OpenClaim.laidByTextAt_later rfl rfl tie noOwnUnsafe
theorem runFrontUpto_row_tie : Rows.runFrontUptoRow.laidByTextAt .later Tryd.pinned [.mapped, .data, .data, .funcs] true :=
  OpenClaim.laidByTextAt_later rfl rfl tie2 noOwnUnsafe
end Go.Proofs.YtnjehllmlheagaaDoor
