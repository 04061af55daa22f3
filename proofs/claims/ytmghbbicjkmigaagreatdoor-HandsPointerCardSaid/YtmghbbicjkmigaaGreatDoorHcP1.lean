/-
  HandsCodes: the example, parts but one.
-/
import Derived.Test.YtmghbbicjkmigaaGreatDoorHcP
import Derived.Test.YtmghbbicjkmigaaGreatDoorZc
import Derived.KernelRfl
namespace Go.Proofs.YtmghbbicjkmigaaGreatDoor
namespace Ev
open Go.RowKit

theorem aw_1 : endChk (runK evN Tryz.f7.ntmps 5 awC aw0.fr (aw0.st hcTabs)) aw5I hcTabs aw5.c aw5.objs aw5.fs aw5.frl = true := by kernel_rfl
theorem aw_2 : wayChk (evN.code Tryz.f7.ntmps none awA aw5.fr (aw5.st hcTabs)) isNorm aw6aI hcTabs aw6a = true := by kernel_rfl
theorem aw_3 : wayChk (evN.code Tryz.f7.ntmps none awX aw6a.fr (aw6a.st hcTabs)) isNorm aw6r1I hcTabs aw6r1 = true := by kernel_rfl
theorem aw_4 : wayChk (evN.code Tryz.f7.ntmps none awX aw6r1.fr (aw6r1.st hcTabs)) isNorm aw6r2I hcTabs aw6r2 = true := by kernel_rfl
theorem aw_5 : wayChk (evN.code Tryz.f7.ntmps none awX aw6r2.fr (aw6r2.st hcTabs)) isNorm aw6r3I hcTabs aw6r3 = true := by kernel_rfl
theorem aw_7 : wayChk (evN.code Tryz.f7.ntmps none awX aw6r4.fr (aw6r4.st hcTabs)) (isExit 0) aw6xI hcTabs aw6x = true := by kernel_rfl
theorem aw_8 : okT (topS Tryz.prog evN Tryz.f7 (aw6x.st hcTabs) 100000 awY [(.normal, aw6x.fr, aw6x.st hcTabs)]) = true := by kernel_rfl

end Ev
end Go.Proofs.YtmghbbicjkmigaaGreatDoor
