/-
  HandsGranted: the texts: part 2.
-/
import Derived.Test.YtanapnlfdoebdaaGreatDoorHf
import Derived.KernelRfl
namespace Go.Proofs.YtanapnlfdoebdaaGreatDoor
namespace Ev
open Go.RowKit
theorem hgX4_chk : tChk hgX4 = true := by kernel_rfl
theorem hgY0_4_chk : tChk hgY0_4 = true := by kernel_rfl
theorem hgY1_4_chk : tChk hgY1_4 = true := by kernel_rfl
theorem hgX5_chk : tChk hgX5 = true := by kernel_rfl
theorem hgY0_5_chk : tChk hgY0_5 = true := by kernel_rfl
theorem hgY1_5_chk : tChk hgY1_5 = true := by kernel_rfl
end Ev
end Go.Proofs.YtanapnlfdoebdaaGreatDoor
