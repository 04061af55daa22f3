/-
  HandsGranted: the row's facts of the program: what the call reaches.
-/
import Derived.Test.YtanapnlfdoebdaaGreatDoorHgTa
import Derived.ProofKit
import Derived.LaidMore
import Derived.OpenShut
import Derived.Stop.Joined
import Derived.Stop.LaidErr
import Derived.SevenTiedAt
import Derived.ChangeOld
import Derived.Carry
namespace Go.Proofs.YtanapnlfdoebdaaGreatDoor
open Go.ChangeShapes Go.WideShapes Go.ChangeAt Go.WideMaps Go.WideElems Go.RowKit

theorem hg_k9 : (Rows.handsGrantedRow.inPlace == Tryz.prog.inPlace 3) = true := by kernel_rfl
theorem hg_k10 : (Rows.handsGrantedRow.unfollowed == Tryz.prog.unfollowed 3) = true := by kernel_rfl
theorem hg_k11 : (Rows.handsGrantedRow.recurses == Tryz.prog.recurses 3) = true := by kernel_rfl
theorem hg_k12 : (Rows.handsGrantedRow.named == Tryz.prog.varsNamed 3) = true := by kernel_rfl
end Go.Proofs.YtanapnlfdoebdaaGreatDoor
