/-
  HandsPointer: where the window lies: part 0.
-/
import Derived.Test.YtmghbbicjkmigaaGreatDoorHpV
import Derived.KernelRfl
namespace Go.Proofs.YtmghbbicjkmigaaGreatDoor
namespace Ev
open Go.RowKit
theorem hpP0_chk : pChk hpP0 = true := by kernel_rfl
theorem hpP3_chk : pChk hpP3 = true := by kernel_rfl
theorem hpP6_chk : pChk hpP6 = true := by kernel_rfl
end Ev
end Go.Proofs.YtmghbbicjkmigaaGreatDoor
