/-
  HandsGranted: where the window lies: part 0.
-/
import Derived.Test.YtanapnlfdoebdaaGreatDoorHf
import Derived.KernelRfl
namespace Go.Proofs.YtanapnlfdoebdaaGreatDoor
namespace Ev
open Go.RowKit
theorem hgP0_chk : pChk hgP0 = true := by kernel_rfl
theorem hgP1_chk : pChk hgP1 = true := by kernel_rfl
theorem hgP2_chk : pChk hgP2 = true := by kernel_rfl
end Ev
end Go.Proofs.YtanapnlfdoebdaaGreatDoor
