/-
  HandsPointer: where the window lies: part 2.
-/
import Derived.Test.YtmghbbicjkmigaaGreatDoorHpV
import Derived.KernelRfl
namespace Go.Proofs.YtmghbbicjkmigaaGreatDoor
namespace Ev
open Go.RowKit
theorem hpP18_chk : pChk hpP18 = true := by kernel_rfl
theorem hpP22_chk : pChk hpP22 = true := by kernel_rfl
theorem hpP23_chk : pChk hpP23 = true := by kernel_rfl
end Ev
end Go.Proofs.YtmghbbicjkmigaaGreatDoor
