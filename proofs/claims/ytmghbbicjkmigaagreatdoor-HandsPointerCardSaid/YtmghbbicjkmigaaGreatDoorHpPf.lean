/-
  HandsPointer: the row's facts of the program: what the call reaches.
-/
import Derived.Test.YtmghbbicjkmigaaGreatDoorRows
import Derived.ProofKit
import Derived.LaidMore
import Derived.OpenShut
import Derived.Stop.Joined
import Derived.Stop.LaidErr
import Derived.SevenTiedAt
import Derived.ChangeOld
import Derived.Carry
namespace Go.Proofs.YtmghbbicjkmigaaGreatDoor
open Go.ChangeShapes Go.WideShapes Go.ChangeAt Go.WideMaps Go.WideElems Go.RowKit

theorem hp_k9 : (Rows.handsPointerRow.inPlace == Tryz.prog.inPlace 3) = true := by kernel_rfl
theorem hp_k10 : (Rows.handsPointerRow.unfollowed == Tryz.prog.unfollowed 3) = true := by kernel_rfl
theorem hp_k11 : (Rows.handsPointerRow.recurses == Tryz.prog.recurses 3) = true := by kernel_rfl
theorem hp_k12 : (Rows.handsPointerRow.named == Tryz.prog.varsNamed 3) = true := by kernel_rfl
end Go.Proofs.YtmghbbicjkmigaaGreatDoor
