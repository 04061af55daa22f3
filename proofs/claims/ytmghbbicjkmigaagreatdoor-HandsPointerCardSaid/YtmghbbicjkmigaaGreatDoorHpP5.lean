/-
  HandsPointer: where the window lies: part 5.
-/
import Derived.Test.YtmghbbicjkmigaaGreatDoorHpV
import Derived.KernelRfl
namespace Go.Proofs.YtmghbbicjkmigaaGreatDoor
namespace Ev
open Go.RowKit
theorem hpP45_chk : pChk hpP45 = true := by kernel_rfl
theorem hpP46_chk : pChk hpP46 = true := by kernel_rfl
theorem hpP47_chk : pChk hpP47 = true := by kernel_rfl
end Ev
end Go.Proofs.YtmghbbicjkmigaaGreatDoor
