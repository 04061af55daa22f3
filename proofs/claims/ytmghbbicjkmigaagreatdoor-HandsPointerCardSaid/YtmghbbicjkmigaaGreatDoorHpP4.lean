/-
  HandsPointer: where the window lies: part 4.
-/
import Derived.Test.YtmghbbicjkmigaaGreatDoorHpV
import Derived.KernelRfl
namespace Go.Proofs.YtmghbbicjkmigaaGreatDoor
namespace Ev
open Go.RowKit
theorem hpP31_chk : pChk hpP31 = true := by kernel_rfl
theorem hpP32_chk : pChk hpP32 = true := by kernel_rfl
theorem hpP33_chk : pChk hpP33 = true := by kernel_rfl
end Ev
end Go.Proofs.YtmghbbicjkmigaaGreatDoor
