/-
  law45's example is true, as a contract.
-/
import Derived.Test.YtpklliedmplpdaaGreatDoorWnRun
namespace Go.Proofs.YtpklliedmplpdaaGreatDoor
namespace Ev
open Go.RowKit Go.Sort
theorem awake_run : okT ((ev Tryz.prog (fun _ => none) 100000).call 5 [] (startT wnTabs noOrc)) = true := by kernel_rfl
theorem awake_ok : ∀ {args : List AV} {s : St} {v : AV} {s' : St}, knownTrue wnTabs args s = some (v, s') → Step s s' ∧ ∀ {G : Nat → Prop} {B : Nat} {E : Env} {w : World} {args' : Array Value}, (∀ j, In s'.l j → G j) → Sat G B E s w → RelL E args args'.toList →
    CallRes Tryz.prog 5 args' w (RetOk G B s' v E w) := known_ok noCtr_ok mixed_ok names_ok awake_run
theorem recW (n : Nat) : RecOk Tryz.prog n (ev Tryz.prog (ctrU 5 (knownTrue wnTabs) ctrW) n) := ev_ok mixed_ok (ctrU_ok ctrW_ok awake_ok) names_ne n
theorem recV : RecOk Tryz.prog 100000 evW := recW 100000
end Ev
end Go.Proofs.YtpklliedmplpdaaGreatDoor
