/-
  HandsGranted: where the window lies: part 3.
-/
import Derived.Test.YtanapnlfdoebdaaGreatDoorHf
import Derived.KernelRfl
namespace Go.Proofs.YtanapnlfdoebdaaGreatDoor
namespace Ev
open Go.RowKit
theorem hgP9_chk : pChk hgP9 = true := by kernel_rfl
theorem hgP10_chk : pChk hgP10 = true := by kernel_rfl
theorem hgP11_chk : pChk hgP11 = true := by kernel_rfl
end Ev
end Go.Proofs.YtanapnlfdoebdaaGreatDoor
