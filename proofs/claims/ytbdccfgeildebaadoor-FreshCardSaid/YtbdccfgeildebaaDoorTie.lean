/-
  DERIVED. GIVEN WITH THE SEED: THE PROGRAM's TIES (one call each: nine closed facts by the kernel) AND EACH ROW's TIE, after the 31st guide's Derived/Test/Toyas{Tie, Card}.lean. No idea stands in it: it is a product of the set-up. Laid BY PROGRAM, IN A SANDBOX (cutbox-door.mjs). By AI agents, Wed Nov 11 2026. No macro, syntax, notation, axiom, sorry.
-/
import Derived.Test.YtbdccfgeildebaaDoorRows
import Derived.LaidByTextLater
import Derived.SevenTiedAt
import Derived.LaidSub
import Derived.LaidOnce
namespace Go.Proofs.YtbdccfgeildebaaDoor
open Go
set_option maxRecDepth 100000
theorem seatTie1 : Tryd.prog.laidByTextLater [("ratemill/reg.ErrKind", Rows.laid_ratemill_reg_ErrKind), ("ratemill/reg.ErrWidth", Rows.laid_ratemill_reg_ErrWidth), ("ratemill/reg.ErrBusy", Rows.laid_ratemill_reg_ErrBusy), ("ratemill/reg.ErrIdle", Rows.laid_ratemill_reg_ErrIdle), ("ratemill/mill.ErrLong", Rows.laid_ratemill_mill_ErrLong), ("ratemill/mill.ErrToken", Rows.laid_ratemill_mill_ErrToken), ("ratemill/mill.ErrSyntax", Rows.laid_ratemill_mill_ErrSyntax), ("ratemill/mill.ErrMany", Rows.laid_ratemill_mill_ErrMany), ("ratemill/mill.ErrTwice", Rows.laid_ratemill_mill_ErrTwice), ("ratemill/mill.ErrName", Rows.laid_ratemill_mill_ErrName), ("ratemill/mill.ErrType", Rows.laid_ratemill_mill_ErrType), ("ratemill/mill.ErrPeriod", Rows.laid_ratemill_mill_ErrPeriod), ("ratemill/mill.ErrFree", Rows.laid_ratemill_mill_ErrFree), ("ratemill/mill.ErrCycle", Rows.laid_ratemill_mill_ErrCycle), ("ratemill/mill.ErrFlow", Rows.laid_ratemill_mill_ErrFlow), ("ratemill/mill.ErrInputs", Rows.laid_ratemill_mill_ErrInputs), ("ratemill/mill.ErrOverrun", Rows.laid_ratemill_mill_ErrOverrun)] [.sentinel, .sentinel, .sentinel, .sentinel, .wider, .wider, .wider, .wider, .wider, .wider, .wider, .wider, .wider, .wider, .sentinel, .sentinel, .sentinel] true :=
  Program.laidByTextLater_by_one 382 8 2 (by kernel_rfl) (by kernel_rfl) (by kernel_rfl) (by kernel_rfl) (by kernel_rfl) (by kernel_rfl) (fun _ _ => by kernel_rfl)
theorem noOwnUnsafe : Tryd.pinned.checked.prog.headLifts.contains "ownunsafe" = false := by kernel_rfl
theorem tie : Tryd.prog.laidByTextLater [("ratemill/reg.ErrKind", Rows.laid_ratemill_reg_ErrKind), ("ratemill/reg.ErrWidth", Rows.laid_ratemill_reg_ErrWidth), ("ratemill/reg.ErrBusy", Rows.laid_ratemill_reg_ErrBusy), ("ratemill/reg.ErrIdle", Rows.laid_ratemill_reg_ErrIdle), ("ratemill/mill.ErrLong", Rows.laid_ratemill_mill_ErrLong), ("ratemill/mill.ErrToken", Rows.laid_ratemill_mill_ErrToken), ("ratemill/mill.ErrSyntax", Rows.laid_ratemill_mill_ErrSyntax), ("ratemill/mill.ErrMany", Rows.laid_ratemill_mill_ErrMany), ("ratemill/mill.ErrTwice", Rows.laid_ratemill_mill_ErrTwice), ("ratemill/mill.ErrName", Rows.laid_ratemill_mill_ErrName), ("ratemill/mill.ErrType", Rows.laid_ratemill_mill_ErrType), ("ratemill/mill.ErrPeriod", Rows.laid_ratemill_mill_ErrPeriod), ("ratemill/mill.ErrFree", Rows.laid_ratemill_mill_ErrFree), ("ratemill/mill.ErrCycle", Rows.laid_ratemill_mill_ErrCycle), ("ratemill/mill.ErrFlow", Rows.laid_ratemill_mill_ErrFlow), ("ratemill/mill.ErrInputs", Rows.laid_ratemill_mill_ErrInputs), ("ratemill/mill.ErrOverrun", Rows.laid_ratemill_mill_ErrOverrun)] [.sentinel, .sentinel, .sentinel, .sentinel, .wider, .wider, .wider, .wider, .wider, .wider, .wider, .wider, .wider, .wider, .sentinel, .sentinel, .sentinel] true :=
  Program.laidByTextLater.sub seatTie1 ["ratemill/reg.ErrKind", "ratemill/reg.ErrWidth", "ratemill/reg.ErrBusy", "ratemill/reg.ErrIdle", "ratemill/mill.ErrLong", "ratemill/mill.ErrToken", "ratemill/mill.ErrSyntax", "ratemill/mill.ErrMany", "ratemill/mill.ErrTwice", "ratemill/mill.ErrName", "ratemill/mill.ErrType", "ratemill/mill.ErrPeriod", "ratemill/mill.ErrFree", "ratemill/mill.ErrCycle", "ratemill/mill.ErrFlow", "ratemill/mill.ErrInputs", "ratemill/mill.ErrOverrun"] (by kernel_rfl) (by kernel_rfl)
theorem names_row_tie : Rows.namesRow.laidByTextAt .later Tryd.pinned [.sentinel, .sentinel, .sentinel, .sentinel, .wider, .wider, .wider, .wider, .wider, .wider, .wider, .wider, .wider, .wider, .sentinel, .sentinel, .sentinel] true :=
  OpenClaim.laidByTextAt_later rfl rfl tie noOwnUnsafe
theorem tie2 : Tryd.prog.laidByTextLater [("ratemill/reg.ErrKind", Rows.laid_ratemill_reg_ErrKind), ("ratemill/reg.ErrWidth", Rows.laid_ratemill_reg_ErrWidth), ("ratemill/reg.ErrBusy", Rows.laid_ratemill_reg_ErrBusy), ("ratemill/reg.ErrIdle", Rows.laid_ratemill_reg_ErrIdle)] [.sentinel, .sentinel, .sentinel, .sentinel] true :=
  Program.laidByTextLater.sub seatTie1 ["ratemill/reg.ErrKind", "ratemill/reg.ErrWidth", "ratemill/reg.ErrBusy", "ratemill/reg.ErrIdle"] (by kernel_rfl) (by kernel_rfl)
theorem untorn_row_tie : Rows.untornRow.laidByTextAt .later Tryd.pinned [.sentinel, .sentinel, .sentinel, .sentinel] true :=
  OpenClaim.laidByTextAt_later rfl rfl tie2 noOwnUnsafe
theorem fresh_row_tie : Rows.freshRow.laidByTextAt .later Tryd.pinned [.sentinel, .sentinel, .sentinel, .sentinel] true :=
  OpenClaim.laidByTextAt_later rfl rfl tie2 noOwnUnsafe
theorem namesUpto_row_tie : Rows.namesUptoRow.laidByTextAt .later Tryd.pinned [.sentinel, .sentinel, .sentinel, .sentinel, .wider, .wider, .wider, .wider, .wider, .wider, .wider, .wider, .wider, .wider, .sentinel, .sentinel, .sentinel] true :=
  OpenClaim.laidByTextAt_later rfl rfl tie noOwnUnsafe
theorem untornUpto_row_tie : Rows.untornUptoRow.laidByTextAt .later Tryd.pinned [.sentinel, .sentinel, .sentinel, .sentinel] true :=
  OpenClaim.laidByTextAt_later rfl rfl tie2 noOwnUnsafe
theorem freshUpto_row_tie : Rows.freshUptoRow.laidByTextAt .later Tryd.pinned [.sentinel, .sentinel, .sentinel, .sentinel] true :=
  OpenClaim.laidByTextAt_later rfl rfl tie2 noOwnUnsafe
end Go.Proofs.YtbdccfgeildebaaDoor
