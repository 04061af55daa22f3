/-
  HandsPointer: where the window lies: part 3.
-/
import Derived.Test.YtmghbbicjkmigaaGreatDoorHpV
import Derived.KernelRfl
namespace Go.Proofs.YtmghbbicjkmigaaGreatDoor
namespace Ev
open Go.RowKit
theorem hpP25_chk : pChk hpP25 = true := by kernel_rfl
theorem hpP29_chk : pChk hpP29 = true := by kernel_rfl
theorem hpP30_chk : pChk hpP30 = true := by kernel_rfl
end Ev
end Go.Proofs.YtmghbbicjkmigaaGreatDoor
