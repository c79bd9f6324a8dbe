/-
  DERIVED. GIVEN WITH THE SEED: THE PROGRAM's TIES (one call each: nine closed facts by the kernel) AND EACH ROW's TIE, after the 31st guide's Derived/Test/Toyas{Tie, Card}.lean. No idea stands in it: it is a product of the set-up. Laid BY PROGRAM, IN A SANDBOX (cutbox-door.mjs). By AI agents, Wed Nov 11 2026. No macro, syntax, notation, axiom, sorry.
-/
import Derived.Test.YtimlalndjfmnbaaDoorRows
import Derived.LaidByTextLater
import Derived.SevenTiedAt
import Derived.LaidSub
import Derived.LaidOnce
namespace Go.Proofs.YtimlalndjfmnbaaDoor
open Go
set_option maxRecDepth 100000
theorem seatTie1 : Tryd.prog.laidByTextLater [("errors.errorType", Rows.laid_errors_errorType), ("boarder/msg.errForm", Rows.laid_boarder_msg_errForm)] [.handle, .data] true :=
  Program.laidByTextLater_by_one 21 8 2 (by kernel_rfl) (by kernel_rfl) (by kernel_rfl) (by kernel_rfl) (by kernel_rfl) (by kernel_rfl) (fun _ _ => by kernel_rfl)
theorem noOwnUnsafe : Tryd.pinned.checked.prog.headLifts.contains "ownunsafe" = false := by kernel_rfl
theorem tie : Tryd.prog.laidByTextLater [("errors.errorType", Rows.laid_errors_errorType), ("boarder/msg.errForm", Rows.laid_boarder_msg_errForm)] [.handle, .data] true :=
  Program.laidByTextLater.sub seatTie1 ["errors.errorType", "boarder/msg.errForm"] (by kernel_rfl) (by kernel_rfl)
theorem msgRights_row_tie : Rows.msgRightsRow.laidByTextAt .later Tryd.pinned [.handle, .data] true :=
  OpenClaim.laidByTextAt_later rfl rfl tie noOwnUnsafe
theorem msgWrites_row_tie : Rows.msgWritesRow.laidByTextAt .later Tryd.pinned [.handle, .data] true :=
  OpenClaim.laidByTextAt_later rfl rfl tie noOwnUnsafe
theorem msgReads_row_tie : Rows.msgReadsRow.laidByTextAt .later Tryd.pinned [.handle, .data] true :=
  OpenClaim.laidByTextAt_later rfl rfl tie noOwnUnsafe
theorem msgBack_row_tie : Rows.msgBackRow.laidByTextAt .later Tryd.pinned [.handle, .data] true :=
  OpenClaim.laidByTextAt_later rfl rfl tie noOwnUnsafe
theorem msgAny_row_tie : Rows.msgAnyRow.laidByTextAt .later Tryd.pinned [.handle, .data] true :=
  OpenClaim.laidByTextAt_later rfl rfl tie noOwnUnsafe
theorem msgAreas_row_tie : Rows.msgAreasRow.laidByTextAt .later Tryd.pinned [.handle, .data] true :=
  OpenClaim.laidByTextAt_later rfl rfl tie noOwnUnsafe
theorem replyWrites_row_tie : Rows.replyWritesRow.laidByTextAt .later Tryd.pinned [.handle, .data] true :=
  OpenClaim.laidByTextAt_later rfl rfl tie noOwnUnsafe
theorem msgRightsUpto_row_tie : Rows.msgRightsUptoRow.laidByTextAt .later Tryd.pinned [.handle, .data] true :=
  OpenClaim.laidByTextAt_later rfl rfl tie noOwnUnsafe
theorem msgWritesUpto_row_tie : Rows.msgWritesUptoRow.laidByTextAt .later Tryd.pinned [.handle, .data] true :=
  OpenClaim.laidByTextAt_later rfl rfl tie noOwnUnsafe
theorem msgReadsUpto_row_tie : Rows.msgReadsUptoRow.laidByTextAt .later Tryd.pinned [.handle, .data] true :=
  OpenClaim.laidByTextAt_later rfl rfl tie noOwnUnsafe
theorem msgBackUpto_row_tie : Rows.msgBackUptoRow.laidByTextAt .later Tryd.pinned [.handle, .data] true :=
  OpenClaim.laidByTextAt_later rfl rfl tie noOwnUnsafe
theorem msgAnyUpto_row_tie : Rows.msgAnyUptoRow.laidByTextAt .later Tryd.pinned [.handle, .data] true :=
  OpenClaim.laidByTextAt_later rfl rfl tie noOwnUnsafe
theorem msgAreasUpto_row_tie : Rows.msgAreasUptoRow.laidByTextAt .later Tryd.pinned [.handle, .data] true :=
  OpenClaim.laidByTextAt_later rfl rfl tie noOwnUnsafe
theorem replyWritesUpto_row_tie : Rows.replyWritesUptoRow.laidByTextAt .later Tryd.pinned [.handle, .data] true :=
  OpenClaim.laidByTextAt_later rfl rfl tie noOwnUnsafe
end Go.Proofs.YtimlalndjfmnbaaDoor
