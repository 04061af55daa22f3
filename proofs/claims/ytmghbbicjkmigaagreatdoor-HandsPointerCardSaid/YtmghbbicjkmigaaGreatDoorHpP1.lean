/-
  HandsPointer: where the window lies: part 1.
-/
import Derived.Test.YtmghbbicjkmigaaGreatDoorHpV
import Derived.KernelRfl
namespace Go.Proofs.YtmghbbicjkmigaaGreatDoor
namespace Ev
open Go.RowKit
theorem hpP13_chk : pChk hpP13 = true := by kernel_rfl
theorem hpP15_chk : pChk hpP15 = true := by kernel_rfl
theorem hpP16_chk : pChk hpP16 = true := by kernel_rfl
end Ev
end Go.Proofs.YtmghbbicjkmigaaGreatDoor
