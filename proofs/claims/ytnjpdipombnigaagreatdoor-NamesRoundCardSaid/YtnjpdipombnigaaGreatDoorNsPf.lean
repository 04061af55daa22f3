/-
  NamesRound: the row's facts of the program: what the call reaches.
-/
import Derived.Test.YtnjpdipombnigaaGreatDoorRows
import Derived.ProofKit
import Derived.LaidMore
import Derived.OpenShut
import Derived.Stop.Joined
import Derived.Stop.LaidErr
import Derived.SevenTiedAt
import Derived.ChangeOld
import Derived.Carry
namespace Go.Proofs.YtnjpdipombnigaaGreatDoor
open Go.ChangeShapes Go.WideShapes Go.ChangeAt Go.WideMaps Go.WideElems Go.RowKit

theorem ns_k9 : (Rows.namesRoundRow.inPlace == Tryz.prog.inPlace 3) = true := by kernel_rfl
theorem ns_k10 : (Rows.namesRoundRow.unfollowed == Tryz.prog.unfollowed 3) = true := by kernel_rfl
theorem ns_k11 : (Rows.namesRoundRow.recurses == Tryz.prog.recurses 3) = true := by kernel_rfl
theorem ns_k12 : (Rows.namesRoundRow.named == Tryz.prog.varsNamed 3) = true := by kernel_rfl
end Go.Proofs.YtnjpdipombnigaaGreatDoor
