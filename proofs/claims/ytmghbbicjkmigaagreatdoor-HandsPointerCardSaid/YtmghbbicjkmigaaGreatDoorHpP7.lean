/-
  HandsPointer: where the window lies: part 7.
-/
import Derived.Test.YtmghbbicjkmigaaGreatDoorHpV
import Derived.KernelRfl
namespace Go.Proofs.YtmghbbicjkmigaaGreatDoor
namespace Ev
open Go.RowKit
theorem hpP54_chk : pChk hpP54 = true := by kernel_rfl
end Ev
end Go.Proofs.YtmghbbicjkmigaaGreatDoor
