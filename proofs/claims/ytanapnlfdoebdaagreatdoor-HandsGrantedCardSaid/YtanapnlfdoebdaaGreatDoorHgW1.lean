/-
  HandsGranted: the texts: part 1.
-/
import Derived.Test.YtanapnlfdoebdaaGreatDoorHf
import Derived.KernelRfl
namespace Go.Proofs.YtanapnlfdoebdaaGreatDoor
namespace Ev
open Go.RowKit
theorem hgX2_chk : tChk hgX2 = true := by kernel_rfl
theorem hgY0_2_chk : tChk hgY0_2 = true := by kernel_rfl
theorem hgY1_2_chk : tChk hgY1_2 = true := by kernel_rfl
theorem hgX3_chk : tChk hgX3 = true := by kernel_rfl
theorem hgY0_3_chk : tChk hgY0_3 = true := by kernel_rfl
theorem hgY1_3_chk : tChk hgY1_3 = true := by kernel_rfl
end Ev
end Go.Proofs.YtanapnlfdoebdaaGreatDoor
