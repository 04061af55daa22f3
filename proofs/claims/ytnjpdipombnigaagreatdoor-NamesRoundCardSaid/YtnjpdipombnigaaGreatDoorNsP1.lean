/-
  NamesRound: the request for a name's atom may be, by its length.
-/
import Derived.Test.YtnjpdipombnigaaGreatDoorNsA
namespace Go.Proofs.YtnjpdipombnigaaGreatDoor
namespace Ev
open Go.RowKit
set_option maxRecDepth 100000 in
theorem pack_1 : allNs packB 20 20 = true := by kernel_rfl
end Ev
end Go.Proofs.YtnjpdipombnigaaGreatDoor
