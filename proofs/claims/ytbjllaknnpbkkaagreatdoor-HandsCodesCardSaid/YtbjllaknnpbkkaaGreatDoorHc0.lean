/-
  HandsCodes: leaves, part 0.
-/
import Derived.Test.YtbjllaknnpbkkaaGreatDoorHb
import Derived.KernelRfl
namespace Go.Proofs.YtbjllaknnpbkkaaGreatDoor
namespace Ev
open Go.RowKit
theorem hc37_w : okT (evH.call 3 [.int .i64 37, .oslice (.var 1)] (startC 65 hcTabs (orcI [⟨true, .var 1, .lit 0, false⟩, ⟨false, .var 1, .lit 3, false⟩, ⟨true, .lit 20, .var 1, false⟩]))) = true := by kernel_rfl
theorem hc37_l0 : hcC 3 37 3 (⟨true, (.var 2), (.lit (0)), true⟩ :: bnds 2 3) = true := by kernel_rfl
theorem hc37_l1 : hcC 3 37 3 (⟨true, (.lit (4294967295)), (.var 2), true⟩ :: ⟨true, (.var 2), (.lit (0)), false⟩ :: bnds 2 3) = true := by kernel_rfl
theorem hc37_l2 : hcC 3 37 3 (⟨true, (.var 3), (.lit (0)), true⟩ :: ⟨true, (.lit (4294967295)), (.var 2), false⟩ :: ⟨true, (.var 2), (.lit (0)), false⟩ :: bnds 2 3) = true := by kernel_rfl
theorem hc37_l3 : hcC 3 37 3 (⟨true, (.lit (255)), (.var 3), true⟩ :: ⟨true, (.var 3), (.lit (0)), false⟩ :: ⟨true, (.lit (4294967295)), (.var 2), false⟩ :: ⟨true, (.var 2), (.lit (0)), false⟩ :: bnds 2 3) = true := by kernel_rfl
theorem hc37_l4 : hcC 3 37 3 (⟨true, (.var 4), (.lit (0)), true⟩ :: ⟨true, (.lit (255)), (.var 3), false⟩ :: ⟨true, (.var 3), (.lit (0)), false⟩ :: ⟨true, (.lit (4294967295)), (.var 2), false⟩ :: ⟨true, (.var 2), (.lit (0)), false⟩ :: bnds 2 3) = true := by kernel_rfl
theorem hc37_l5 : hcC 3 37 3 (⟨true, (.lit (4294967295)), (.var 4), true⟩ :: ⟨true, (.var 4), (.lit (0)), false⟩ :: ⟨true, (.lit (255)), (.var 3), false⟩ :: ⟨true, (.var 3), (.lit (0)), false⟩ :: ⟨true, (.lit (4294967295)), (.var 2), false⟩ :: ⟨true, (.var 2), (.lit (0)), false⟩ :: bnds 2 3) = true := by kernel_rfl
theorem hc37_l6 : hcC 3 37 3 (⟨false, (.var 2), (.lit (0)), true⟩ :: ⟨true, (.lit (4294967295)), (.var 4), false⟩ :: ⟨true, (.var 4), (.lit (0)), false⟩ :: ⟨true, (.lit (255)), (.var 3), false⟩ :: ⟨true, (.var 3), (.lit (0)), false⟩ :: ⟨true, (.lit (4294967295)), (.var 2), false⟩ :: ⟨true, (.var 2), (.lit (0)), false⟩ :: bnds 2 3) = true := by kernel_rfl
theorem hc37_l7 : hcC 3 37 3 (⟨false, (.var 2), (.lit (1)), true⟩ :: ⟨false, (.var 2), (.lit (0)), false⟩ :: ⟨true, (.lit (4294967295)), (.var 4), false⟩ :: ⟨true, (.var 4), (.lit (0)), false⟩ :: ⟨true, (.lit (255)), (.var 3), false⟩ :: ⟨true, (.var 3), (.lit (0)), false⟩ :: ⟨true, (.lit (4294967295)), (.var 2), false⟩ :: ⟨true, (.var 2), (.lit (0)), false⟩ :: bnds 2 3) = true := by kernel_rfl
theorem hc37_l8 : hcC 3 37 3 (⟨true, (.lit (2147483647)), (.var 2), true⟩ :: ⟨false, (.var 2), (.lit (1)), false⟩ :: ⟨false, (.var 2), (.lit (0)), false⟩ :: ⟨true, (.lit (4294967295)), (.var 4), false⟩ :: ⟨true, (.var 4), (.lit (0)), false⟩ :: ⟨true, (.lit (255)), (.var 3), false⟩ :: ⟨true, (.var 3), (.lit (0)), false⟩ :: ⟨true, (.lit (4294967295)), (.var 2), false⟩ :: ⟨true, (.var 2), (.lit (0)), false⟩ :: bnds 2 3) = true := by kernel_rfl
theorem hc37_l9 : hcC 3 37 3 (⟨true, (.lit (2147483647)), (.var 2), false⟩ :: ⟨false, (.var 2), (.lit (1)), false⟩ :: ⟨false, (.var 2), (.lit (0)), false⟩ :: ⟨true, (.lit (4294967295)), (.var 4), false⟩ :: ⟨true, (.var 4), (.lit (0)), false⟩ :: ⟨true, (.lit (255)), (.var 3), false⟩ :: ⟨true, (.var 3), (.lit (0)), false⟩ :: ⟨true, (.lit (4294967295)), (.var 2), false⟩ :: ⟨true, (.var 2), (.lit (0)), false⟩ :: bnds 2 3) = true := by kernel_rfl
theorem hc37_r : hcAll 3 37 3 (.lt (.var 2) (.lit (0)) .leaf (.lt (.lit (4294967295)) (.var 2) .leaf (.lt (.var 3) (.lit (0)) .leaf (.lt (.lit (255)) (.var 3) .leaf (.lt (.var 4) (.lit (0)) .leaf (.lt (.lit (4294967295)) (.var 4) .leaf (.eq (.var 2) (.lit (0)) .leaf (.eq (.var 2) (.lit (1)) .leaf (.lt (.lit (2147483647)) (.var 2) .leaf .leaf))))))))) = true := (all_lt (all_leaf hc37_l0) (all_lt (all_leaf hc37_l1) (all_lt (all_leaf hc37_l2) (all_lt (all_leaf hc37_l3) (all_lt (all_leaf hc37_l4) (all_lt (all_leaf hc37_l5) (all_eq (all_leaf hc37_l6) (all_eq (all_leaf hc37_l7) (all_lt (all_leaf hc37_l8) (all_leaf hc37_l9))))))))))
theorem hc38_w : okT (evH.call 3 [.int .i64 38, .oslice (.var 1)] (startC 65 hcTabs (orcI [⟨true, .var 1, .lit 0, false⟩, ⟨false, .var 1, .lit 0, false⟩, ⟨true, .lit 20, .var 1, false⟩]))) = true := by kernel_rfl
theorem hc38_r : okT (evH.call 3 [.int .i64 38, .oslice (.var 1)] (startC 65 hcTabs (orcI [⟨true, .var 1, .lit 0, false⟩, ⟨false, .var 1, .lit 0, true⟩]))) = true := by kernel_rfl
theorem hc40_w : okT (evH.call 3 [.int .i64 40, .oslice (.var 1)] (startC 65 hcTabs (orcI [⟨true, .var 1, .lit 0, false⟩, ⟨false, .var 1, .lit 1, false⟩, ⟨true, .lit 20, .var 1, false⟩]))) = true := by kernel_rfl
theorem hc40_l0 : hcC 3 40 1 (⟨true, (.var 2), (.lit (0)), true⟩ :: bnds 2 1) = true := by kernel_rfl
theorem hc40_l1 : hcC 3 40 1 (⟨true, (.lit (4294967295)), (.var 2), true⟩ :: ⟨true, (.var 2), (.lit (0)), false⟩ :: bnds 2 1) = true := by kernel_rfl
theorem hc40_l2 : hcC 3 40 1 (⟨true, (.lit (2147483647)), (.var 2), true⟩ :: ⟨true, (.lit (4294967295)), (.var 2), false⟩ :: ⟨true, (.var 2), (.lit (0)), false⟩ :: bnds 2 1) = true := by kernel_rfl
theorem hc40_l3 : hcC 3 40 1 (⟨true, (.lit (2147483647)), (.var 2), false⟩ :: ⟨true, (.lit (4294967295)), (.var 2), false⟩ :: ⟨true, (.var 2), (.lit (0)), false⟩ :: bnds 2 1) = true := by kernel_rfl
theorem hc40_r : hcAll 3 40 1 (.lt (.var 2) (.lit (0)) .leaf (.lt (.lit (4294967295)) (.var 2) .leaf (.lt (.lit (2147483647)) (.var 2) .leaf .leaf))) = true := (all_lt (all_leaf hc40_l0) (all_lt (all_leaf hc40_l1) (all_lt (all_leaf hc40_l2) (all_leaf hc40_l3))))
theorem hc44_w : okT (evH.call 3 [.int .i64 44, .oslice (.var 1)] (startC 65 hcTabs (orcI [⟨true, .var 1, .lit 0, false⟩, ⟨false, .var 1, .lit 1, false⟩, ⟨true, .lit 20, .var 1, false⟩]))) = true := by kernel_rfl
theorem hc44_l0 : hcC 3 44 1 (⟨true, (.var 2), (.lit (0)), true⟩ :: bnds 2 1) = true := by kernel_rfl
theorem hc44_l1 : hcC 3 44 1 (⟨true, (.lit (4294967295)), (.var 2), true⟩ :: ⟨true, (.var 2), (.lit (0)), false⟩ :: bnds 2 1) = true := by kernel_rfl
theorem hc44_l2 : hcC 3 44 1 (⟨true, (.lit (2147483647)), (.var 2), true⟩ :: ⟨true, (.lit (4294967295)), (.var 2), false⟩ :: ⟨true, (.var 2), (.lit (0)), false⟩ :: bnds 2 1) = true := by kernel_rfl
theorem hc44_l3 : hcC 3 44 1 (⟨true, (.lit (2147483647)), (.var 2), false⟩ :: ⟨true, (.lit (4294967295)), (.var 2), false⟩ :: ⟨true, (.var 2), (.lit (0)), false⟩ :: bnds 2 1) = true := by kernel_rfl
theorem hc44_r : hcAll 3 44 1 (.lt (.var 2) (.lit (0)) .leaf (.lt (.lit (4294967295)) (.var 2) .leaf (.lt (.lit (2147483647)) (.var 2) .leaf .leaf))) = true := (all_lt (all_leaf hc44_l0) (all_lt (all_leaf hc44_l1) (all_lt (all_leaf hc44_l2) (all_leaf hc44_l3))))
theorem hcLong : okT (evH.call 3 [.sint .i64 (.var 0), .oslice (.var 1)] (startC 65 hcTabs (orcI [⟨true, .var 1, .lit 0, false⟩, ⟨true, .lit 20, .var 1, true⟩]))) = true := by kernel_rfl
theorem hcBelow : okT (evH.call 3 [.sint .i64 (.var 0), .oslice (.var 1)] (startC 65 hcTabs (orcI [⟨true, .var 1, .lit 0, false⟩, ⟨true, .lit 20, .var 1, false⟩, ⟨true, .var 0, .lit 37, true⟩]))) = true := by kernel_rfl
theorem hcAbove : okT (evH.call 3 [.sint .i64 (.var 0), .oslice (.var 1)] (startC 65 hcTabs (orcI [⟨true, .var 1, .lit 0, false⟩, ⟨true, .lit 20, .var 1, false⟩, ⟨true, .lit 49, .var 0, true⟩]))) = true := by kernel_rfl
end Ev
end Go.Proofs.YtbjllaknnpbkkaaGreatDoor
