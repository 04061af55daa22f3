/-
  HandsGranted: where the window lies: part 1.
-/
import Derived.Test.YtanapnlfdoebdaaGreatDoorHf
import Derived.KernelRfl
namespace Go.Proofs.YtanapnlfdoebdaaGreatDoor
namespace Ev
open Go.RowKit
theorem hgP3_chk : pChk hgP3 = true := by kernel_rfl
theorem hgP4_chk : pChk hgP4 = true := by kernel_rfl
theorem hgP5_chk : pChk hgP5 = true := by kernel_rfl
end Ev
end Go.Proofs.YtanapnlfdoebdaaGreatDoor
