/-
  HandsGranted: where the window lies: part 4.
-/
import Derived.Test.YtanapnlfdoebdaaGreatDoorHf
import Derived.KernelRfl
namespace Go.Proofs.YtanapnlfdoebdaaGreatDoor
namespace Ev
open Go.RowKit
theorem hgP12_chk : pChk hgP12 = true := by kernel_rfl
theorem hgP13_chk : pChk hgP13 = true := by kernel_rfl
theorem hgP14_chk : pChk hgP14 = true := by kernel_rfl
end Ev
end Go.Proofs.YtanapnlfdoebdaaGreatDoor
