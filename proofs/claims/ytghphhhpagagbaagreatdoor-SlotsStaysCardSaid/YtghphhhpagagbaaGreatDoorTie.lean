/-
  DERIVED. GIVEN WITH THE SEED: THE PROGRAM's TIES (one call each: nine closed facts by the kernel) AND EACH ROW's TIE, after the 31st guide's Derived/Test/Toyas{Tie, Card}.lean. No idea stands in it: it is a product of the set-up. Laid BY PROGRAM, IN A SANDBOX (cutbox-door.mjs). By AI agents, Wed Nov 11 2026. No macro, syntax, notation, axiom, sorry.
-/
import Derived.Test.YtghphhhpagagbaaGreatDoorRows
import Derived.LaidByTextLater
import Derived.SevenTiedAt
import Derived.LaidSub
import Derived.LaidOnce
namespace Go.Proofs.YtghphhhpagagbaaGreatDoor
open Go
set_option maxRecDepth 100000
theorem seatTie1 : Tryz.prog.laidByTextLater [("huddle/roll.asks", Rows.laid_huddle_roll_asks), ("huddle/op.kinds", Rows.laid_huddle_op_kinds)] [.funcs, .data] true :=
  Program.laidByTextLater_by_one 19 8 15 (by kernel_rfl) (by kernel_rfl) (by kernel_rfl) (by kernel_rfl) (by kernel_rfl) (by kernel_rfl) (fun _ _ => by kernel_rfl)
theorem noOwnUnsafe : Tryz.pinned.checked.prog.headLifts.contains "ownunsafe" = false := by kernel_rfl
theorem tie : Tryz.prog.laidByTextLater [("huddle/roll.asks", Rows.laid_huddle_roll_asks), ("huddle/op.kinds", Rows.laid_huddle_op_kinds)] [.funcs, .data] true :=
  Program.laidByTextLater.sub seatTie1 ["huddle/roll.asks", "huddle/op.kinds"] (by kernel_rfl) (by kernel_rfl)
theorem slotsCommits_row_tie : Rows.slotsCommitsRow.laidByTextAt .later Tryz.pinned [.funcs, .data] true :=
  OpenClaim.laidByTextAt_later rfl rfl tie noOwnUnsafe
theorem slotsKeys_row_tie : Rows.slotsKeysRow.laidByTextAt .later Tryz.pinned [.funcs, .data] true :=
  OpenClaim.laidByTextAt_later rfl rfl tie noOwnUnsafe
theorem slotsOwn_row_tie : Rows.slotsOwnRow.laidByTextAt .later Tryz.pinned [.funcs, .data] true :=
  OpenClaim.laidByTextAt_later rfl rfl tie noOwnUnsafe
theorem slotsStays_row_tie : Rows.slotsStaysRow.laidByTextAt .later Tryz.pinned [.funcs, .data] true :=
  OpenClaim.laidByTextAt_later rfl rfl tie noOwnUnsafe
theorem slotsLast_row_tie : Rows.slotsLastRow.laidByTextAt .later Tryz.pinned [.funcs, .data] true :=
  OpenClaim.laidByTextAt_later rfl rfl tie noOwnUnsafe
theorem slotsCovers_row_tie : Rows.slotsCoversRow.laidByTextAt .later Tryz.pinned [.funcs, .data] true :=
  OpenClaim.laidByTextAt_later rfl rfl tie noOwnUnsafe
theorem slotsMet_row_tie : Rows.slotsMetRow.laidByTextAt .later Tryz.pinned [.funcs, .data] true :=
  OpenClaim.laidByTextAt_later rfl rfl tie noOwnUnsafe
theorem slotsCommitsUpto_row_tie : Rows.slotsCommitsUptoRow.laidByTextAt .later Tryz.pinned [.funcs, .data] true :=
  OpenClaim.laidByTextAt_later rfl rfl tie noOwnUnsafe
theorem slotsKeysUpto_row_tie : Rows.slotsKeysUptoRow.laidByTextAt .later Tryz.pinned [.funcs, .data] true :=
  OpenClaim.laidByTextAt_later rfl rfl tie noOwnUnsafe
theorem slotsOwnUpto_row_tie : Rows.slotsOwnUptoRow.laidByTextAt .later Tryz.pinned [.funcs, .data] true :=
  OpenClaim.laidByTextAt_later rfl rfl tie noOwnUnsafe
theorem slotsStaysUpto_row_tie : Rows.slotsStaysUptoRow.laidByTextAt .later Tryz.pinned [.funcs, .data] true :=
  OpenClaim.laidByTextAt_later rfl rfl tie noOwnUnsafe
theorem slotsLastUpto_row_tie : Rows.slotsLastUptoRow.laidByTextAt .later Tryz.pinned [.funcs, .data] true :=
  OpenClaim.laidByTextAt_later rfl rfl tie noOwnUnsafe
theorem slotsCoversUpto_row_tie : Rows.slotsCoversUptoRow.laidByTextAt .later Tryz.pinned [.funcs, .data] true :=
  OpenClaim.laidByTextAt_later rfl rfl tie noOwnUnsafe
theorem slotsMetUpto_row_tie : Rows.slotsMetUptoRow.laidByTextAt .later Tryz.pinned [.funcs, .data] true :=
  OpenClaim.laidByTextAt_later rfl rfl tie noOwnUnsafe
end Go.Proofs.YtghphhhpagagbaaGreatDoor
