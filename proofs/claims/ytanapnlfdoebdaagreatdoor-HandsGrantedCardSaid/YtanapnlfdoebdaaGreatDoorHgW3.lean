/-
  HandsGranted: the texts: part 3.
-/
import Derived.Test.YtanapnlfdoebdaaGreatDoorHf
import Derived.KernelRfl
namespace Go.Proofs.YtanapnlfdoebdaaGreatDoor
namespace Ev
open Go.RowKit
theorem hgX6_chk : tChk hgX6 = true := by kernel_rfl
theorem hgY0_6_chk : tChk hgY0_6 = true := by kernel_rfl
theorem hgY1_6_chk : tChk hgY1_6 = true := by kernel_rfl
end Ev
end Go.Proofs.YtanapnlfdoebdaaGreatDoor
