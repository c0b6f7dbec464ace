/-
  DERIVED. GIVEN WITH THE SEED: THE PROGRAM's TIES (one call each: nine closed facts by the kernel) AND EACH ROW's TIE, after the 31st guide's Derived/Test/Toyas{Tie, Card}.lean. No idea stands in it: it is a product of the set-up. Laid BY PROGRAM, IN A SANDBOX (cutbox-door.mjs). By AI agents, Wed Nov 11 2026. No macro, syntax, notation, axiom, sorry.
-/
import Derived.Test.YtjbfcillbjiajaaGreatDoorRows
import Derived.LaidByTextLater
import Derived.SevenTiedAt
import Derived.LaidSub
import Derived.LaidOnce
namespace Go.Proofs.YtjbfcillbjiajaaGreatDoor
open Go
set_option maxRecDepth 100000
theorem seatTie1 : Tryz.prog.laidByTextLater [("huddle/roll.asks", Rows.laid_huddle_roll_asks), ("huddle/op.kinds", Rows.laid_huddle_op_kinds)] [.funcs, .data] true :=
  Program.laidByTextLater_by_one 19 8 15 (by kernel_rfl) (by kernel_rfl) (by kernel_rfl) (by kernel_rfl) (by kernel_rfl) (by kernel_rfl) (fun _ _ => by kernel_rfl)
theorem noOwnUnsafe : Tryz.pinned.checked.prog.headLifts.contains "ownunsafe" = false := by kernel_rfl
theorem tie : Tryz.prog.laidByTextLater [("huddle/roll.asks", Rows.laid_huddle_roll_asks), ("huddle/op.kinds", Rows.laid_huddle_op_kinds)] [.funcs, .data] true :=
  Program.laidByTextLater.sub seatTie1 ["huddle/roll.asks", "huddle/op.kinds"] (by kernel_rfl) (by kernel_rfl)
theorem holdForward_row_tie : Rows.holdForwardRow.laidByTextAt .later Tryz.pinned [.funcs, .data] true :=
  OpenClaim.laidByTextAt_later rfl rfl tie noOwnUnsafe
theorem holdForwardUpto_row_tie : Rows.holdForwardUptoRow.laidByTextAt .later Tryz.pinned [.funcs, .data] true :=
  OpenClaim.laidByTextAt_later rfl rfl tie noOwnUnsafe
end Go.Proofs.YtjbfcillbjiajaaGreatDoor
