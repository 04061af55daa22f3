/-
  HandsPointer: where the window lies: part 6.
-/
import Derived.Test.YtmghbbicjkmigaaGreatDoorHpV
import Derived.KernelRfl
namespace Go.Proofs.YtmghbbicjkmigaaGreatDoor
namespace Ev
open Go.RowKit
theorem hpP50_chk : pChk hpP50 = true := by kernel_rfl
theorem hpP51_chk : pChk hpP51 = true := by kernel_rfl
theorem hpP52_chk : pChk hpP52 = true := by kernel_rfl
end Ev
end Go.Proofs.YtmghbbicjkmigaaGreatDoor
