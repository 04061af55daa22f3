/-
  HandsPointer: the tie: its small facts; the names; the run that lays the tables.
-/
import Derived.Test.YtmghbbicjkmigaaGreatDoorRows
import Derived.LaidByTextLater
import Derived.SevenTiedAt
namespace Go.Proofs.YtmghbbicjkmigaaGreatDoor
open Go
theorem hp_noOwnUnsafe : Tryz.pinned.checked.prog.headLifts.contains "ownunsafe" = false := by kernel_rfl
theorem hp_t_w : Tryz.prog.worded (varsWordLater true) = true := by kernel_rfl
theorem hp_t_w2 : Tryz.prog.worded (varsWordLater !true) = false := by kernel_rfl
theorem hp_t_root : Tryz.prog.worded rootWordLater = true := by kernel_rfl
theorem hp_t_g : (Tryz.prog.funcNamed "gosem.cut.vars").isSome = true := by kernel_rfl
theorem hp_t_p : (Rows.handsPointerRow.laid.all fun x => x.2.handleName?.isNone) = true := by kernel_rfl
theorem hp_t_k : Rows.handsPointerRow.laid.map (fun x => Tryz.prog.kindOfLater x.1) = ([.data, .data, .data, .listed, .data, .data] : List LaidKind).map some := by kernel_rfl
theorem hp_t_n : varsNamedLaterB Tryz.prog (varsId Tryz.prog) Rows.handsPointerRow.laid = true := by kernel_rfl
theorem hp_t_d (os : Os) (tape : Tape) : varsDone Tryz.prog 400 (varsId Tryz.prog) os tape = true := by kernel_rfl
end Go.Proofs.YtmghbbicjkmigaaGreatDoor
