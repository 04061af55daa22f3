/-
  WorldNew: the part ahead of the loop, in the kernel.
-/
import Derived.Test.YtpklliedmplpdaaGreatDoorWnRun
namespace Go.Proofs.YtpklliedmplpdaaGreatDoor
namespace Ev
theorem pre_ok : chk2 (evW.code 201 none preC fr0 (startT wnTabs (orcI wnF))) (evW.code 201 none r8C) preK = true := by kernel_rfl
end Ev
end Go.Proofs.YtpklliedmplpdaaGreatDoor
