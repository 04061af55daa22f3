/-
  NamesRound: the world that is made.
-/
import Derived.Test.YtnjpdipombnigaaGreatDoorNsS
namespace Go.Proofs.YtnjpdipombnigaaGreatDoor
namespace Ev
open Go.RowKit
set_option maxRecDepth 100000 in
theorem s_4 : autoChk (runK (evL nrL) nrFn.ntmps 1 (dropK 4 nrBody) sT2.fr (stF sT2 fsS [])) ⟨[], nsStr, []⟩ nsTabs nsT5 = true := by kernel_rfl
end Ev
end Go.Proofs.YtnjpdipombnigaaGreatDoor
