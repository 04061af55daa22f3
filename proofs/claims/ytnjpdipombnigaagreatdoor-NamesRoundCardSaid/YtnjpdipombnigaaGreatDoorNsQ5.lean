/-
  NamesRound: the request that changes the property may be, by how many numbers it has.
-/
import Derived.Test.YtnjpdipombnigaaGreatDoorNsC
namespace Go.Proofs.YtnjpdipombnigaaGreatDoor
namespace Ev
open Go.RowKit
set_option maxRecDepth 100000 in
theorem chg_5 : allNs chgB 28 3 = true := by kernel_rfl
end Ev
end Go.Proofs.YtnjpdipombnigaaGreatDoor
