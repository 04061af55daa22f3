/-
  HandsCodes: leaves, part 7.
-/
import Derived.Test.YtbjllaknnpbkkaaGreatDoorHb
import Derived.KernelRfl
namespace Go.Proofs.YtbjllaknnpbkkaaGreatDoor
namespace Ev
open Go.RowKit
theorem hc49_w : okT (evH.call 3 [.int .i64 49, .oslice (.var 1)] (startC 65 hcTabs (orcI [⟨true, .var 1, .lit 0, false⟩, ⟨false, .var 1, .lit 3, false⟩, ⟨true, .lit 20, .var 1, false⟩]))) = true := by kernel_rfl
theorem hc49_l0 : hcC 3 49 3 (⟨true, (.var 2), (.lit (0)), true⟩ :: bnds 2 3) = true := by kernel_rfl
theorem hc49_l1 : hcC 3 49 3 (⟨true, (.lit (4294967295)), (.var 2), true⟩ :: ⟨true, (.var 2), (.lit (0)), false⟩ :: bnds 2 3) = true := by kernel_rfl
theorem hc49_l2 : hcC 3 49 3 (⟨true, (.var 3), (.lit (-32768)), true⟩ :: ⟨true, (.lit (4294967295)), (.var 2), false⟩ :: ⟨true, (.var 2), (.lit (0)), false⟩ :: bnds 2 3) = true := by kernel_rfl
theorem hc49_l3 : hcC 3 49 3 (⟨true, (.lit (32767)), (.var 3), true⟩ :: ⟨true, (.var 3), (.lit (-32768)), false⟩ :: ⟨true, (.lit (4294967295)), (.var 2), false⟩ :: ⟨true, (.var 2), (.lit (0)), false⟩ :: bnds 2 3) = true := by kernel_rfl
theorem hc49_l4 : hcC 3 49 3 (⟨true, (.var 4), (.lit (-32768)), true⟩ :: ⟨true, (.lit (32767)), (.var 3), false⟩ :: ⟨true, (.var 3), (.lit (-32768)), false⟩ :: ⟨true, (.lit (4294967295)), (.var 2), false⟩ :: ⟨true, (.var 2), (.lit (0)), false⟩ :: bnds 2 3) = true := by kernel_rfl
theorem hc49_l5 : hcC 3 49 3 (⟨true, (.lit (32767)), (.var 4), true⟩ :: ⟨true, (.var 4), (.lit (-32768)), false⟩ :: ⟨true, (.lit (32767)), (.var 3), false⟩ :: ⟨true, (.var 3), (.lit (-32768)), false⟩ :: ⟨true, (.lit (4294967295)), (.var 2), false⟩ :: ⟨true, (.var 2), (.lit (0)), false⟩ :: bnds 2 3) = true := by kernel_rfl
theorem hc49_l6 : hcC 3 49 3 (⟨false, (.var 2), (.lit (1)), true⟩ :: ⟨true, (.lit (32767)), (.var 4), false⟩ :: ⟨true, (.var 4), (.lit (-32768)), false⟩ :: ⟨true, (.lit (32767)), (.var 3), false⟩ :: ⟨true, (.var 3), (.lit (-32768)), false⟩ :: ⟨true, (.lit (4294967295)), (.var 2), false⟩ :: ⟨true, (.var 2), (.lit (0)), false⟩ :: bnds 2 3) = true := by kernel_rfl
theorem hc49_l7 : hcC 3 49 3 (⟨true, (.lit (2147483647)), (.var 2), true⟩ :: ⟨false, (.var 2), (.lit (1)), false⟩ :: ⟨true, (.lit (32767)), (.var 4), false⟩ :: ⟨true, (.var 4), (.lit (-32768)), false⟩ :: ⟨true, (.lit (32767)), (.var 3), false⟩ :: ⟨true, (.var 3), (.lit (-32768)), false⟩ :: ⟨true, (.lit (4294967295)), (.var 2), false⟩ :: ⟨true, (.var 2), (.lit (0)), false⟩ :: bnds 2 3) = true := by kernel_rfl
theorem hc49_l8 : hcC 3 49 3 (⟨true, (.lit (2147483647)), (.var 2), false⟩ :: ⟨false, (.var 2), (.lit (1)), false⟩ :: ⟨true, (.lit (32767)), (.var 4), false⟩ :: ⟨true, (.var 4), (.lit (-32768)), false⟩ :: ⟨true, (.lit (32767)), (.var 3), false⟩ :: ⟨true, (.var 3), (.lit (-32768)), false⟩ :: ⟨true, (.lit (4294967295)), (.var 2), false⟩ :: ⟨true, (.var 2), (.lit (0)), false⟩ :: bnds 2 3) = true := by kernel_rfl
theorem hc49_r : hcAll 3 49 3 (.lt (.var 2) (.lit (0)) .leaf (.lt (.lit (4294967295)) (.var 2) .leaf (.lt (.var 3) (.lit (-32768)) .leaf (.lt (.lit (32767)) (.var 3) .leaf (.lt (.var 4) (.lit (-32768)) .leaf (.lt (.lit (32767)) (.var 4) .leaf (.eq (.var 2) (.lit (1)) .leaf (.lt (.lit (2147483647)) (.var 2) .leaf .leaf)))))))) = true := (all_lt (all_leaf hc49_l0) (all_lt (all_leaf hc49_l1) (all_lt (all_leaf hc49_l2) (all_lt (all_leaf hc49_l3) (all_lt (all_leaf hc49_l4) (all_lt (all_leaf hc49_l5) (all_eq (all_leaf hc49_l6) (all_lt (all_leaf hc49_l7) (all_leaf hc49_l8)))))))))
end Ev
end Go.Proofs.YtbjllaknnpbkkaaGreatDoor
