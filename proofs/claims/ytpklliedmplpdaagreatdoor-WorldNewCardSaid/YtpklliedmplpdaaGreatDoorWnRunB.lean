/-
  WorldNew: the part behind the loop, in the kernel.
-/
import Derived.Test.YtpklliedmplpdaaGreatDoorWnRun
namespace Go.Proofs.YtpklliedmplpdaaGreatDoor
namespace Ev
theorem post_ok : chkR (evW.code 201 none postC frP sP) postK = true := by kernel_rfl
end Ev
end Go.Proofs.YtpklliedmplpdaaGreatDoor
