/-
  NamesRound: the tie: its small facts; the names; the run that lays the tables.
-/
import Derived.Test.YtnjpdipombnigaaGreatDoorRows
import Derived.LaidByTextLater
import Derived.SevenTiedAt
namespace Go.Proofs.YtnjpdipombnigaaGreatDoor
open Go
theorem ns_noOwnUnsafe : Tryz.pinned.checked.prog.headLifts.contains "ownunsafe" = false := by kernel_rfl
theorem ns_t_w : Tryz.prog.worded (varsWordLater true) = true := by kernel_rfl
theorem ns_t_w2 : Tryz.prog.worded (varsWordLater !true) = false := by kernel_rfl
theorem ns_t_root : Tryz.prog.worded rootWordLater = true := by kernel_rfl
theorem ns_t_g : (Tryz.prog.funcNamed "gosem.cut.vars").isSome = true := by kernel_rfl
theorem ns_t_p : (Rows.namesRoundRow.laid.all fun x => x.2.handleName?.isNone) = true := by kernel_rfl
theorem ns_t_k : Rows.namesRoundRow.laid.map (fun x => Tryz.prog.kindOfLater x.1) = ([.data, .data, .data, .listed, .data, .data] : List LaidKind).map some := by kernel_rfl
theorem ns_t_n : varsNamedLaterB Tryz.prog (varsId Tryz.prog) Rows.namesRoundRow.laid = true := by kernel_rfl
theorem ns_t_d (os : Os) (tape : Tape) : varsDone Tryz.prog 400 (varsId Tryz.prog) os tape = true := by kernel_rfl
end Go.Proofs.YtnjpdipombnigaaGreatDoor
