/-
  HandsCodes: the example, its fourth round.
-/
import Derived.Test.YtmghbbicjkmigaaGreatDoorHcM
namespace Go.Proofs.YtmghbbicjkmigaaGreatDoor
namespace Ev
open Go.RowKit
noncomputable def evM4 : Rec := ev Tryz.prog (ctrU 314 (fun a s => memAny icT a s [ic2, ic3, ic4]) fun _ => none) 100000
theorem aw_6 : wayChk (evM4.code Tryz.f7.ntmps none awX aw6r3.fr (aw6r3.st hcTabs)) isNorm aw6r4I hcTabs aw6r4 = true := by kernel_rfl

end Ev
end Go.Proofs.YtmghbbicjkmigaaGreatDoor
