/-
  HandsPointer: pack.Check, once for each request.
-/
import Derived.Test.YtmghbbicjkmigaaGreatDoorHpV
import Derived.KernelRfl
namespace Go.Proofs.YtmghbbicjkmigaaGreatDoor
namespace Ev
open Go.RowKit
theorem hpK0_chk : kChk hpK0 = true := by kernel_rfl
theorem hpK1_chk : kChk hpK1 = true := by kernel_rfl
theorem hpK2_chk : kChk hpK2 = true := by kernel_rfl
theorem hpK3_chk : kChk hpK3 = true := by kernel_rfl
theorem hpK4_chk : kChk hpK4 = true := by kernel_rfl
theorem hpK5_chk : kChk hpK5 = true := by kernel_rfl
theorem hpK6_chk : kChk hpK6 = true := by kernel_rfl
theorem hpK7_chk : kChk hpK7 = true := by kernel_rfl
theorem hpK8_chk : kChk hpK8 = true := by kernel_rfl
theorem hpK9_chk : kChk hpK9 = true := by kernel_rfl
theorem hpK10_chk : kChk hpK10 = true := by kernel_rfl
theorem hpK11_chk : kChk hpK11 = true := by kernel_rfl
theorem hpK12_chk : kChk hpK12 = true := by kernel_rfl
theorem hpK13_chk : kChk hpK13 = true := by kernel_rfl
theorem hpK14_chk : kChk hpK14 = true := by kernel_rfl
theorem hpK15_chk : kChk hpK15 = true := by kernel_rfl
theorem hpK16_chk : kChk hpK16 = true := by kernel_rfl
theorem hpK17_chk : kChk hpK17 = true := by kernel_rfl
theorem hpK18_chk : kChk hpK18 = true := by kernel_rfl
theorem hpK19_chk : kChk hpK19 = true := by kernel_rfl
theorem hpK20_chk : kChk hpK20 = true := by kernel_rfl
theorem hpK21_chk : kChk hpK21 = true := by kernel_rfl
theorem hpK22_chk : kChk hpK22 = true := by kernel_rfl
theorem hpK23_chk : kChk hpK23 = true := by kernel_rfl
theorem hpK24_chk : kChk hpK24 = true := by kernel_rfl
theorem hpK25_chk : kChk hpK25 = true := by kernel_rfl
theorem hpK26_chk : kChk hpK26 = true := by kernel_rfl
theorem hpK27_chk : kChk hpK27 = true := by kernel_rfl
theorem hpK28_chk : kChk hpK28 = true := by kernel_rfl
theorem hpK29_chk : kChk hpK29 = true := by kernel_rfl
theorem hpK30_chk : kChk hpK30 = true := by kernel_rfl
theorem hpK31_chk : kChk hpK31 = true := by kernel_rfl
theorem hpK32_chk : kChk hpK32 = true := by kernel_rfl
theorem hpK33_chk : kChk hpK33 = true := by kernel_rfl
theorem hpK34_chk : kChk hpK34 = true := by kernel_rfl
theorem hpK35_chk : kChk hpK35 = true := by kernel_rfl
theorem hpK36_chk : kChk hpK36 = true := by kernel_rfl
theorem hpK37_chk : kChk hpK37 = true := by kernel_rfl
theorem hpK38_chk : kChk hpK38 = true := by kernel_rfl
theorem hpKs_ok : ∀ M ∈ hpKs, kChk M = true := (kCons hpK0_chk (kCons hpK1_chk (kCons hpK2_chk (kCons hpK3_chk (kCons hpK4_chk (kCons hpK5_chk (kCons hpK6_chk (kCons hpK7_chk (kCons hpK8_chk (kCons hpK9_chk (kCons hpK10_chk (kCons hpK11_chk (kCons hpK12_chk (kCons hpK13_chk (kCons hpK14_chk (kCons hpK15_chk (kCons hpK16_chk (kCons hpK17_chk (kCons hpK18_chk (kCons hpK19_chk (kCons hpK20_chk (kCons hpK21_chk (kCons hpK22_chk (kCons hpK23_chk (kCons hpK24_chk (kCons hpK25_chk (kCons hpK26_chk (kCons hpK27_chk (kCons hpK28_chk (kCons hpK29_chk (kCons hpK30_chk (kCons hpK31_chk (kCons hpK32_chk (kCons hpK33_chk (kCons hpK34_chk (kCons hpK35_chk (kCons hpK36_chk (kCons hpK37_chk (kCons hpK38_chk kNil)))))))))))))))))))))))))))))))))))))))
end Ev
end Go.Proofs.YtmghbbicjkmigaaGreatDoor
