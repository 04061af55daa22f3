/-
  HandsGranted: where the window lies: part 5.
-/
import Derived.Test.YtanapnlfdoebdaaGreatDoorHf
import Derived.KernelRfl
namespace Go.Proofs.YtanapnlfdoebdaaGreatDoor
namespace Ev
open Go.RowKit
theorem hgP15_chk : pChk hgP15 = true := by kernel_rfl
theorem hgP16_chk : pChk hgP16 = true := by kernel_rfl
theorem hgP17_chk : pChk hgP17 = true := by kernel_rfl
end Ev
end Go.Proofs.YtanapnlfdoebdaaGreatDoor
