/-
  HandsGranted: the texts: part 0.
-/
import Derived.Test.YtanapnlfdoebdaaGreatDoorHf
import Derived.KernelRfl
namespace Go.Proofs.YtanapnlfdoebdaaGreatDoor
namespace Ev
open Go.RowKit
theorem hgX0_chk : tChk hgX0 = true := by kernel_rfl
theorem hgY0_0_chk : tChk hgY0_0 = true := by kernel_rfl
theorem hgY1_0_chk : tChk hgY1_0 = true := by kernel_rfl
theorem hgX1_chk : tChk hgX1 = true := by kernel_rfl
theorem hgY0_1_chk : tChk hgY0_1 = true := by kernel_rfl
theorem hgY1_1_chk : tChk hgY1_1 = true := by kernel_rfl
end Ev
end Go.Proofs.YtanapnlfdoebdaaGreatDoor
