/-
  HandsGranted: where the window lies: part 2.
-/
import Derived.Test.YtanapnlfdoebdaaGreatDoorHf
import Derived.KernelRfl
namespace Go.Proofs.YtanapnlfdoebdaaGreatDoor
namespace Ev
open Go.RowKit
theorem hgP6_chk : pChk hgP6 = true := by kernel_rfl
theorem hgP7_chk : pChk hgP7 = true := by kernel_rfl
theorem hgP8_chk : pChk hgP8 = true := by kernel_rfl
end Ev
end Go.Proofs.YtanapnlfdoebdaaGreatDoor
