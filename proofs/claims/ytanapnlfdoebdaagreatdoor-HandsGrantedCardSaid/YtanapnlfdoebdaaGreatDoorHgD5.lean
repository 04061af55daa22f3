/-
  HandsGranted: hands.Do, code 5 (printed by a program).
-/
import Derived.Test.YtanapnlfdoebdaaGreatDoorHf
import Derived.KernelRfl
namespace Go.Proofs.YtanapnlfdoebdaaGreatDoor
namespace Ev
open Go.RowKit
noncomputable def hgK5_0_0 : Memo := ⟨4617, [.agg [.int .i64 (49), .slice 4616 0 1 (some 1) 0, .str [], .nilslice]], [], bnds 5 0, 4643, .int .i64 (14), []⟩
theorem hgK5_0_0_chk : kChk hgK5_0_0 = true := by kernel_rfl
noncomputable def hgK5_1_0 : Memo := ⟨4618, [.agg [.int .i64 (49), .slice 4617 0 2 none 0, .str [], .nilslice]], [], bnds 5 1, 4644, .int .i64 (14), []⟩
theorem hgK5_1_0_chk : kChk hgK5_1_0 = true := by kernel_rfl
noncomputable def hgK5_2_0 : Memo := ⟨4618, [.agg [.int .i64 (49), .slice 4617 0 3 none 0, .str [], .nilslice]], [(4617, .cells (.int .i64 (1048577) :: varsFrom .i64 5 2) 2 (0, 0) (some 1))], ⟨true, (.var 5), (.lit (-32768)), true⟩ :: bnds 5 2, 4668, .int .i64 (1), []⟩
theorem hgK5_2_0_chk : kChk hgK5_2_0 = true := by kernel_rfl
noncomputable def hgK5_2_1 : Memo := ⟨4618, [.agg [.int .i64 (49), .slice 4617 0 3 none 0, .str [], .nilslice]], [(4617, .cells (.int .i64 (1048577) :: varsFrom .i64 5 2) 2 (0, 0) (some 1))], ⟨true, (.lit (32767)), (.var 5), true⟩ :: ⟨true, (.var 5), (.lit (-32768)), false⟩ :: bnds 5 2, 4668, .int .i64 (1), []⟩
theorem hgK5_2_1_chk : kChk hgK5_2_1 = true := by kernel_rfl
noncomputable def hgK5_2_2 : Memo := ⟨4618, [.agg [.int .i64 (49), .slice 4617 0 3 none 0, .str [], .nilslice]], [(4617, .cells (.int .i64 (1048577) :: varsFrom .i64 5 2) 2 (0, 0) (some 1))], ⟨true, (.var 6), (.lit (-32768)), true⟩ :: ⟨true, (.lit (32767)), (.var 5), false⟩ :: ⟨true, (.var 5), (.lit (-32768)), false⟩ :: bnds 5 2, 4682, .int .i64 (1), []⟩
theorem hgK5_2_2_chk : kChk hgK5_2_2 = true := by kernel_rfl
noncomputable def hgK5_2_3 : Memo := ⟨4618, [.agg [.int .i64 (49), .slice 4617 0 3 none 0, .str [], .nilslice]], [(4617, .cells (.int .i64 (1048577) :: varsFrom .i64 5 2) 2 (0, 0) (some 1))], ⟨true, (.lit (32767)), (.var 6), true⟩ :: ⟨true, (.var 6), (.lit (-32768)), false⟩ :: ⟨true, (.lit (32767)), (.var 5), false⟩ :: ⟨true, (.var 5), (.lit (-32768)), false⟩ :: bnds 5 2, 4682, .int .i64 (1), []⟩
theorem hgK5_2_3_chk : kChk hgK5_2_3 = true := by kernel_rfl
noncomputable def hgK5_2_4 : Memo := ⟨4618, [.agg [.int .i64 (49), .slice 4617 0 3 none 0, .str [], .nilslice]], [(4617, .cells (.int .i64 (1048577) :: varsFrom .i64 5 2) 2 (0, 0) (some 1))], ⟨true, (.lit (32767)), (.var 6), false⟩ :: ⟨true, (.var 6), (.lit (-32768)), false⟩ :: ⟨true, (.lit (32767)), (.var 5), false⟩ :: ⟨true, (.var 5), (.lit (-32768)), false⟩ :: bnds 5 2, 4762, .int .i64 (0), []⟩
theorem hgK5_2_4_chk : kChk hgK5_2_4 = true := by kernel_rfl
noncomputable def hgK5_3_0 : Memo := ⟨4618, [.agg [.int .i64 (49), .slice 4617 0 4 none 0, .str [], .nilslice]], [], bnds 5 3, 4644, .int .i64 (14), []⟩
theorem hgK5_3_0_chk : kChk hgK5_3_0 = true := by kernel_rfl
noncomputable def hgK5_4_0 : Memo := ⟨4618, [.agg [.int .i64 (49), .slice 4617 0 5 none 0, .str [], .nilslice]], [], bnds 5 4, 4644, .int .i64 (14), []⟩
theorem hgK5_4_0_chk : kChk hgK5_4_0 = true := by kernel_rfl
noncomputable def hgK5_5_0 : Memo := ⟨4618, [.agg [.int .i64 (49), .slice 4617 0 6 none 0, .str [], .nilslice]], [], bnds 5 5, 4644, .int .i64 (14), []⟩
theorem hgK5_5_0_chk : kChk hgK5_5_0 = true := by kernel_rfl
noncomputable def hgK5_6_0 : Memo := ⟨4618, [.agg [.int .i64 (49), .slice 4617 0 7 none 0, .str [], .nilslice]], [], bnds 5 6, 4644, .int .i64 (14), []⟩
theorem hgK5_6_0_chk : kChk hgK5_6_0 = true := by kernel_rfl
noncomputable def hgK5_7_0 : Memo := ⟨4618, [.agg [.int .i64 (49), .slice 4617 0 8 none 0, .str [], .nilslice]], [], bnds 5 7, 4644, .int .i64 (14), []⟩
theorem hgK5_7_0_chk : kChk hgK5_7_0 = true := by kernel_rfl
noncomputable def hgK5_8_0 : Memo := ⟨4618, [.agg [.int .i64 (49), .slice 4617 0 9 none 0, .str [], .nilslice]], [], bnds 5 8, 4644, .int .i64 (14), []⟩
theorem hgK5_8_0_chk : kChk hgK5_8_0 = true := by kernel_rfl
noncomputable def hgK5_9_0 : Memo := ⟨4618, [.agg [.int .i64 (49), .slice 4617 0 10 none 0, .str [], .nilslice]], [], bnds 5 9, 4644, .int .i64 (14), []⟩
theorem hgK5_9_0_chk : kChk hgK5_9_0 = true := by kernel_rfl
noncomputable def hgK5_10_0 : Memo := ⟨4618, [.agg [.int .i64 (49), .slice 4617 0 11 none 0, .str [], .nilslice]], [], bnds 5 10, 4644, .int .i64 (14), []⟩
theorem hgK5_10_0_chk : kChk hgK5_10_0 = true := by kernel_rfl
noncomputable def hgK5_11_0 : Memo := ⟨4618, [.agg [.int .i64 (49), .slice 4617 0 12 none 0, .str [], .nilslice]], [], bnds 5 11, 4644, .int .i64 (14), []⟩
theorem hgK5_11_0_chk : kChk hgK5_11_0 = true := by kernel_rfl
noncomputable def hgK5_12_0 : Memo := ⟨4618, [.agg [.int .i64 (49), .slice 4617 0 13 none 0, .str [], .nilslice]], [], bnds 5 12, 4644, .int .i64 (14), []⟩
theorem hgK5_12_0_chk : kChk hgK5_12_0 = true := by kernel_rfl
noncomputable def hgK5_13_0 : Memo := ⟨4618, [.agg [.int .i64 (49), .slice 4617 0 14 none 0, .str [], .nilslice]], [], bnds 5 13, 4644, .int .i64 (14), []⟩
theorem hgK5_13_0_chk : kChk hgK5_13_0 = true := by kernel_rfl
noncomputable def hgK5_14_0 : Memo := ⟨4618, [.agg [.int .i64 (49), .slice 4617 0 15 none 0, .str [], .nilslice]], [], bnds 5 14, 4644, .int .i64 (14), []⟩
theorem hgK5_14_0_chk : kChk hgK5_14_0 = true := by kernel_rfl
noncomputable def hgK5_15_0 : Memo := ⟨4618, [.agg [.int .i64 (49), .slice 4617 0 16 none 0, .str [], .nilslice]], [], bnds 5 15, 4644, .int .i64 (14), []⟩
theorem hgK5_15_0_chk : kChk hgK5_15_0 = true := by kernel_rfl
noncomputable def hgK5_16_0 : Memo := ⟨4618, [.agg [.int .i64 (49), .slice 4617 0 17 none 0, .str [], .nilslice]], [], bnds 5 16, 4644, .int .i64 (14), []⟩
theorem hgK5_16_0_chk : kChk hgK5_16_0 = true := by kernel_rfl
noncomputable def hgK5_17_0 : Memo := ⟨4618, [.agg [.int .i64 (49), .slice 4617 0 18 none 0, .str [], .nilslice]], [], bnds 5 17, 4644, .int .i64 (14), []⟩
theorem hgK5_17_0_chk : kChk hgK5_17_0 = true := by kernel_rfl
noncomputable def hgK5_18_0 : Memo := ⟨4618, [.agg [.int .i64 (49), .slice 4617 0 19 none 0, .str [], .nilslice]], [], bnds 5 18, 4644, .int .i64 (14), []⟩
theorem hgK5_18_0_chk : kChk hgK5_18_0 = true := by kernel_rfl
noncomputable def hgK5_19_0 : Memo := ⟨4618, [.agg [.int .i64 (49), .slice 4617 0 20 none 0, .str [], .nilslice]], [], bnds 5 19, 4644, .int .i64 (14), []⟩
theorem hgK5_19_0_chk : kChk hgK5_19_0 = true := by kernel_rfl
noncomputable def hgK5_20_0 : Memo := ⟨4618, [.agg [.int .i64 (49), .slice 4617 0 21 none 0, .str [], .nilslice]], [], bnds 5 20, 4644, .int .i64 (14), []⟩
theorem hgK5_20_0_chk : kChk hgK5_20_0 = true := by kernel_rfl
noncomputable def hgM5_0_0_0_0 : Memo := ⟨4618, [hgV0, .int .i64 (2), .agg [.int .i64 (49), .slice 4616 0 1 (some 1) 0, .str [], .nilslice]], hgD0, bnds 5 0, 4659, .tuple [hgR0, .slice 4658 0 1 (some 1) 0, .bool true], hgO0 [(4658, some (.cells [.int .i64 (2), .int .i64 (0), .int .i64 (16), .int .i64 (0), .slice 4657 0 2 (some 2) 0, .str [], .nilslice] 93 (0, 0) none)), (4657, some (.cells [.int .i64 (0), .int .i64 (49)] 2 (0, 0) none))]⟩
theorem hgM5_0_0_0_0_chk : dChk hgM5_0_0_0_0 = true := by kernel_rfl
noncomputable def hgM5_0_0_1_0 : Memo := ⟨4618, [hgV1, .int .i64 (2), .agg [.int .i64 (49), .slice 4616 0 1 (some 1) 0, .str [], .nilslice]], hgD0, bnds 5 0, 4659, .tuple [hgR2, .slice 4658 0 1 (some 1) 0, .bool true], hgO0 [(4658, some (.cells [.int .i64 (2), .int .i64 (0), .int .i64 (16), .int .i64 (0), .slice 4657 0 2 (some 2) 0, .str [], .nilslice] 93 (0, 0) none)), (4657, some (.cells [.int .i64 (0), .int .i64 (49)] 2 (0, 0) none))]⟩
theorem hgM5_0_0_1_0_chk : dChk hgM5_0_0_1_0 = true := by kernel_rfl
noncomputable def hgM5_1_0_0_0 : Memo := ⟨4619, [hgV0, .int .i64 (2), .agg [.int .i64 (49), .slice 4617 0 2 none 0, .str [], .nilslice]], hgD0, bnds 5 1, 4660, .tuple [hgR1, .slice 4659 0 1 (some 1) 0, .bool true], hgO1 [(4659, some (.cells [.int .i64 (2), .int .i64 (0), .int .i64 (16), .int .i64 (0), .slice 4658 0 2 (some 2) 0, .str [], .nilslice] 93 (0, 0) none)), (4658, some (.cells [.int .i64 (0), .int .i64 (49)] 2 (0, 0) none))]⟩
theorem hgM5_1_0_0_0_chk : dChk hgM5_1_0_0_0 = true := by kernel_rfl
noncomputable def hgM5_1_0_1_0 : Memo := ⟨4619, [hgV1, .int .i64 (2), .agg [.int .i64 (49), .slice 4617 0 2 none 0, .str [], .nilslice]], hgD0, bnds 5 1, 4660, .tuple [hgR3, .slice 4659 0 1 (some 1) 0, .bool true], hgO1 [(4659, some (.cells [.int .i64 (2), .int .i64 (0), .int .i64 (16), .int .i64 (0), .slice 4658 0 2 (some 2) 0, .str [], .nilslice] 93 (0, 0) none)), (4658, some (.cells [.int .i64 (0), .int .i64 (49)] 2 (0, 0) none))]⟩
theorem hgM5_1_0_1_0_chk : dChk hgM5_1_0_1_0 = true := by kernel_rfl
noncomputable def hgM5_2_0_0_0 : Memo := ⟨4619, [hgV0, .int .i64 (2), .agg [.int .i64 (49), .slice 4617 0 3 none 0, .str [], .nilslice]], (4617, .cells (.int .i64 (1048577) :: varsFrom .i64 5 2) 2 (0, 0) (some 1)) :: hgD0, ⟨true, (.var 5), (.lit (-32768)), true⟩ :: bnds 5 2, 4684, .tuple [hgR1, .slice 4683 0 1 (some 1) 0, .bool true], hgO1 [(4683, some (.cells [.int .i64 (2), .int .i64 (0), .int .i64 (16), .int .i64 (0), .slice 4682 0 2 (some 2) 0, .str [], .nilslice] 93 (0, 0) none)), (4682, some (.cells [.int .i64 (0), .int .i64 (49)] 2 (0, 0) none))]⟩
theorem hgM5_2_0_0_0_chk : dChk hgM5_2_0_0_0 = true := by kernel_rfl
noncomputable def hgM5_2_1_0_0 : Memo := ⟨4619, [hgV0, .int .i64 (2), .agg [.int .i64 (49), .slice 4617 0 3 none 0, .str [], .nilslice]], (4617, .cells (.int .i64 (1048577) :: varsFrom .i64 5 2) 2 (0, 0) (some 1)) :: hgD0, ⟨true, (.lit (32767)), (.var 5), true⟩ :: ⟨true, (.var 5), (.lit (-32768)), false⟩ :: bnds 5 2, 4684, .tuple [hgR1, .slice 4683 0 1 (some 1) 0, .bool true], hgO1 [(4683, some (.cells [.int .i64 (2), .int .i64 (0), .int .i64 (16), .int .i64 (0), .slice 4682 0 2 (some 2) 0, .str [], .nilslice] 93 (0, 0) none)), (4682, some (.cells [.int .i64 (0), .int .i64 (49)] 2 (0, 0) none))]⟩
theorem hgM5_2_1_0_0_chk : dChk hgM5_2_1_0_0 = true := by kernel_rfl
noncomputable def hgM5_2_2_0_0 : Memo := ⟨4619, [hgV0, .int .i64 (2), .agg [.int .i64 (49), .slice 4617 0 3 none 0, .str [], .nilslice]], (4617, .cells (.int .i64 (1048577) :: varsFrom .i64 5 2) 2 (0, 0) (some 1)) :: hgD0, ⟨true, (.var 6), (.lit (-32768)), true⟩ :: ⟨true, (.lit (32767)), (.var 5), false⟩ :: ⟨true, (.var 5), (.lit (-32768)), false⟩ :: bnds 5 2, 4698, .tuple [hgR1, .slice 4697 0 1 (some 1) 0, .bool true], hgO1 [(4697, some (.cells [.int .i64 (2), .int .i64 (0), .int .i64 (16), .int .i64 (0), .slice 4696 0 2 (some 2) 0, .str [], .nilslice] 93 (0, 0) none)), (4696, some (.cells [.int .i64 (0), .int .i64 (49)] 2 (0, 0) none))]⟩
theorem hgM5_2_2_0_0_chk : dChk hgM5_2_2_0_0 = true := by kernel_rfl
noncomputable def hgM5_2_3_0_0 : Memo := ⟨4619, [hgV0, .int .i64 (2), .agg [.int .i64 (49), .slice 4617 0 3 none 0, .str [], .nilslice]], (4617, .cells (.int .i64 (1048577) :: varsFrom .i64 5 2) 2 (0, 0) (some 1)) :: hgD0, ⟨true, (.lit (32767)), (.var 6), true⟩ :: ⟨true, (.var 6), (.lit (-32768)), false⟩ :: ⟨true, (.lit (32767)), (.var 5), false⟩ :: ⟨true, (.var 5), (.lit (-32768)), false⟩ :: bnds 5 2, 4698, .tuple [hgR1, .slice 4697 0 1 (some 1) 0, .bool true], hgO1 [(4697, some (.cells [.int .i64 (2), .int .i64 (0), .int .i64 (16), .int .i64 (0), .slice 4696 0 2 (some 2) 0, .str [], .nilslice] 93 (0, 0) none)), (4696, some (.cells [.int .i64 (0), .int .i64 (49)] 2 (0, 0) none))]⟩
theorem hgM5_2_3_0_0_chk : dChk hgM5_2_3_0_0 = true := by kernel_rfl
noncomputable def hgM5_2_4_0_1 : Memo := ⟨4619, [hgV0, .int .i64 (2), .agg [.int .i64 (49), .slice 4617 0 3 none 0, .str [], .nilslice]], (4617, .cells (.int .i64 (1048577) :: varsFrom .i64 5 2) 2 (0, 0) (some 1)) :: hgD1, ⟨true, (.lit (32767)), (.var 6), false⟩ :: ⟨true, (.var 6), (.lit (-32768)), false⟩ :: ⟨true, (.lit (32767)), (.var 5), false⟩ :: ⟨true, (.var 5), (.lit (-32768)), false⟩ :: bnds 5 2, 4804, .tuple [hgR1, .slice 4803 0 1 (some 1) 0, .bool true], hgO1 [(4803, some (.cells [.int .i64 (2), .int .i64 (0), .int .i64 (10), .int .i64 (0), .slice 4802 0 2 (some 2) 0, .str [], .nilslice] 93 (0, 0) none)), (4802, some (.cells [.int .i64 (1048577), .int .i64 (49)] 2 (0, 0) none))]⟩
theorem hgM5_2_4_0_1_chk : dChk hgM5_2_4_0_1 = true := by kernel_rfl
noncomputable def hgM5_2_0_1_0 : Memo := ⟨4619, [hgV1, .int .i64 (2), .agg [.int .i64 (49), .slice 4617 0 3 none 0, .str [], .nilslice]], (4617, .cells (.int .i64 (1048577) :: varsFrom .i64 5 2) 2 (0, 0) (some 1)) :: hgD0, ⟨true, (.var 5), (.lit (-32768)), true⟩ :: bnds 5 2, 4684, .tuple [hgR3, .slice 4683 0 1 (some 1) 0, .bool true], hgO1 [(4683, some (.cells [.int .i64 (2), .int .i64 (0), .int .i64 (16), .int .i64 (0), .slice 4682 0 2 (some 2) 0, .str [], .nilslice] 93 (0, 0) none)), (4682, some (.cells [.int .i64 (0), .int .i64 (49)] 2 (0, 0) none))]⟩
theorem hgM5_2_0_1_0_chk : dChk hgM5_2_0_1_0 = true := by kernel_rfl
noncomputable def hgM5_2_1_1_0 : Memo := ⟨4619, [hgV1, .int .i64 (2), .agg [.int .i64 (49), .slice 4617 0 3 none 0, .str [], .nilslice]], (4617, .cells (.int .i64 (1048577) :: varsFrom .i64 5 2) 2 (0, 0) (some 1)) :: hgD0, ⟨true, (.lit (32767)), (.var 5), true⟩ :: ⟨true, (.var 5), (.lit (-32768)), false⟩ :: bnds 5 2, 4684, .tuple [hgR3, .slice 4683 0 1 (some 1) 0, .bool true], hgO1 [(4683, some (.cells [.int .i64 (2), .int .i64 (0), .int .i64 (16), .int .i64 (0), .slice 4682 0 2 (some 2) 0, .str [], .nilslice] 93 (0, 0) none)), (4682, some (.cells [.int .i64 (0), .int .i64 (49)] 2 (0, 0) none))]⟩
theorem hgM5_2_1_1_0_chk : dChk hgM5_2_1_1_0 = true := by kernel_rfl
noncomputable def hgM5_2_2_1_0 : Memo := ⟨4619, [hgV1, .int .i64 (2), .agg [.int .i64 (49), .slice 4617 0 3 none 0, .str [], .nilslice]], (4617, .cells (.int .i64 (1048577) :: varsFrom .i64 5 2) 2 (0, 0) (some 1)) :: hgD0, ⟨true, (.var 6), (.lit (-32768)), true⟩ :: ⟨true, (.lit (32767)), (.var 5), false⟩ :: ⟨true, (.var 5), (.lit (-32768)), false⟩ :: bnds 5 2, 4698, .tuple [hgR3, .slice 4697 0 1 (some 1) 0, .bool true], hgO1 [(4697, some (.cells [.int .i64 (2), .int .i64 (0), .int .i64 (16), .int .i64 (0), .slice 4696 0 2 (some 2) 0, .str [], .nilslice] 93 (0, 0) none)), (4696, some (.cells [.int .i64 (0), .int .i64 (49)] 2 (0, 0) none))]⟩
theorem hgM5_2_2_1_0_chk : dChk hgM5_2_2_1_0 = true := by kernel_rfl
noncomputable def hgM5_2_3_1_0 : Memo := ⟨4619, [hgV1, .int .i64 (2), .agg [.int .i64 (49), .slice 4617 0 3 none 0, .str [], .nilslice]], (4617, .cells (.int .i64 (1048577) :: varsFrom .i64 5 2) 2 (0, 0) (some 1)) :: hgD0, ⟨true, (.lit (32767)), (.var 6), true⟩ :: ⟨true, (.var 6), (.lit (-32768)), false⟩ :: ⟨true, (.lit (32767)), (.var 5), false⟩ :: ⟨true, (.var 5), (.lit (-32768)), false⟩ :: bnds 5 2, 4698, .tuple [hgR3, .slice 4697 0 1 (some 1) 0, .bool true], hgO1 [(4697, some (.cells [.int .i64 (2), .int .i64 (0), .int .i64 (16), .int .i64 (0), .slice 4696 0 2 (some 2) 0, .str [], .nilslice] 93 (0, 0) none)), (4696, some (.cells [.int .i64 (0), .int .i64 (49)] 2 (0, 0) none))]⟩
theorem hgM5_2_3_1_0_chk : dChk hgM5_2_3_1_0 = true := by kernel_rfl
noncomputable def hgM5_2_4_1_1 : Memo := ⟨4619, [hgV1, .int .i64 (2), .agg [.int .i64 (49), .slice 4617 0 3 none 0, .str [], .nilslice]], (4617, .cells (.int .i64 (1048577) :: varsFrom .i64 5 2) 2 (0, 0) (some 1)) :: hgD1, ⟨true, (.lit (32767)), (.var 6), false⟩ :: ⟨true, (.var 6), (.lit (-32768)), false⟩ :: ⟨true, (.lit (32767)), (.var 5), false⟩ :: ⟨true, (.var 5), (.lit (-32768)), false⟩ :: bnds 5 2, 4804, .tuple [hgR3, .slice 4803 0 1 (some 1) 0, .bool true], hgO1 [(4803, some (.cells [.int .i64 (2), .int .i64 (0), .int .i64 (10), .int .i64 (0), .slice 4802 0 2 (some 2) 0, .str [], .nilslice] 93 (0, 0) none)), (4802, some (.cells [.int .i64 (1048577), .int .i64 (49)] 2 (0, 0) none))]⟩
theorem hgM5_2_4_1_1_chk : dChk hgM5_2_4_1_1 = true := by kernel_rfl
noncomputable def hgM5_3_0_0_0 : Memo := ⟨4619, [hgV0, .int .i64 (2), .agg [.int .i64 (49), .slice 4617 0 4 none 0, .str [], .nilslice]], hgD0, bnds 5 3, 4660, .tuple [hgR1, .slice 4659 0 1 (some 1) 0, .bool true], hgO1 [(4659, some (.cells [.int .i64 (2), .int .i64 (0), .int .i64 (16), .int .i64 (0), .slice 4658 0 2 (some 2) 0, .str [], .nilslice] 93 (0, 0) none)), (4658, some (.cells [.int .i64 (0), .int .i64 (49)] 2 (0, 0) none))]⟩
theorem hgM5_3_0_0_0_chk : dChk hgM5_3_0_0_0 = true := by kernel_rfl
noncomputable def hgM5_3_0_1_0 : Memo := ⟨4619, [hgV1, .int .i64 (2), .agg [.int .i64 (49), .slice 4617 0 4 none 0, .str [], .nilslice]], hgD0, bnds 5 3, 4660, .tuple [hgR3, .slice 4659 0 1 (some 1) 0, .bool true], hgO1 [(4659, some (.cells [.int .i64 (2), .int .i64 (0), .int .i64 (16), .int .i64 (0), .slice 4658 0 2 (some 2) 0, .str [], .nilslice] 93 (0, 0) none)), (4658, some (.cells [.int .i64 (0), .int .i64 (49)] 2 (0, 0) none))]⟩
theorem hgM5_3_0_1_0_chk : dChk hgM5_3_0_1_0 = true := by kernel_rfl
noncomputable def hgM5_4_0_0_0 : Memo := ⟨4619, [hgV0, .int .i64 (2), .agg [.int .i64 (49), .slice 4617 0 5 none 0, .str [], .nilslice]], hgD0, bnds 5 4, 4660, .tuple [hgR1, .slice 4659 0 1 (some 1) 0, .bool true], hgO1 [(4659, some (.cells [.int .i64 (2), .int .i64 (0), .int .i64 (16), .int .i64 (0), .slice 4658 0 2 (some 2) 0, .str [], .nilslice] 93 (0, 0) none)), (4658, some (.cells [.int .i64 (0), .int .i64 (49)] 2 (0, 0) none))]⟩
theorem hgM5_4_0_0_0_chk : dChk hgM5_4_0_0_0 = true := by kernel_rfl
noncomputable def hgM5_4_0_1_0 : Memo := ⟨4619, [hgV1, .int .i64 (2), .agg [.int .i64 (49), .slice 4617 0 5 none 0, .str [], .nilslice]], hgD0, bnds 5 4, 4660, .tuple [hgR3, .slice 4659 0 1 (some 1) 0, .bool true], hgO1 [(4659, some (.cells [.int .i64 (2), .int .i64 (0), .int .i64 (16), .int .i64 (0), .slice 4658 0 2 (some 2) 0, .str [], .nilslice] 93 (0, 0) none)), (4658, some (.cells [.int .i64 (0), .int .i64 (49)] 2 (0, 0) none))]⟩
theorem hgM5_4_0_1_0_chk : dChk hgM5_4_0_1_0 = true := by kernel_rfl
noncomputable def hgM5_5_0_0_0 : Memo := ⟨4619, [hgV0, .int .i64 (2), .agg [.int .i64 (49), .slice 4617 0 6 none 0, .str [], .nilslice]], hgD0, bnds 5 5, 4660, .tuple [hgR1, .slice 4659 0 1 (some 1) 0, .bool true], hgO1 [(4659, some (.cells [.int .i64 (2), .int .i64 (0), .int .i64 (16), .int .i64 (0), .slice 4658 0 2 (some 2) 0, .str [], .nilslice] 93 (0, 0) none)), (4658, some (.cells [.int .i64 (0), .int .i64 (49)] 2 (0, 0) none))]⟩
theorem hgM5_5_0_0_0_chk : dChk hgM5_5_0_0_0 = true := by kernel_rfl
noncomputable def hgM5_5_0_1_0 : Memo := ⟨4619, [hgV1, .int .i64 (2), .agg [.int .i64 (49), .slice 4617 0 6 none 0, .str [], .nilslice]], hgD0, bnds 5 5, 4660, .tuple [hgR3, .slice 4659 0 1 (some 1) 0, .bool true], hgO1 [(4659, some (.cells [.int .i64 (2), .int .i64 (0), .int .i64 (16), .int .i64 (0), .slice 4658 0 2 (some 2) 0, .str [], .nilslice] 93 (0, 0) none)), (4658, some (.cells [.int .i64 (0), .int .i64 (49)] 2 (0, 0) none))]⟩
theorem hgM5_5_0_1_0_chk : dChk hgM5_5_0_1_0 = true := by kernel_rfl
noncomputable def hgM5_6_0_0_0 : Memo := ⟨4619, [hgV0, .int .i64 (2), .agg [.int .i64 (49), .slice 4617 0 7 none 0, .str [], .nilslice]], hgD0, bnds 5 6, 4660, .tuple [hgR1, .slice 4659 0 1 (some 1) 0, .bool true], hgO1 [(4659, some (.cells [.int .i64 (2), .int .i64 (0), .int .i64 (16), .int .i64 (0), .slice 4658 0 2 (some 2) 0, .str [], .nilslice] 93 (0, 0) none)), (4658, some (.cells [.int .i64 (0), .int .i64 (49)] 2 (0, 0) none))]⟩
theorem hgM5_6_0_0_0_chk : dChk hgM5_6_0_0_0 = true := by kernel_rfl
noncomputable def hgM5_6_0_1_0 : Memo := ⟨4619, [hgV1, .int .i64 (2), .agg [.int .i64 (49), .slice 4617 0 7 none 0, .str [], .nilslice]], hgD0, bnds 5 6, 4660, .tuple [hgR3, .slice 4659 0 1 (some 1) 0, .bool true], hgO1 [(4659, some (.cells [.int .i64 (2), .int .i64 (0), .int .i64 (16), .int .i64 (0), .slice 4658 0 2 (some 2) 0, .str [], .nilslice] 93 (0, 0) none)), (4658, some (.cells [.int .i64 (0), .int .i64 (49)] 2 (0, 0) none))]⟩
theorem hgM5_6_0_1_0_chk : dChk hgM5_6_0_1_0 = true := by kernel_rfl
noncomputable def hgM5_7_0_0_0 : Memo := ⟨4619, [hgV0, .int .i64 (2), .agg [.int .i64 (49), .slice 4617 0 8 none 0, .str [], .nilslice]], hgD0, bnds 5 7, 4660, .tuple [hgR1, .slice 4659 0 1 (some 1) 0, .bool true], hgO1 [(4659, some (.cells [.int .i64 (2), .int .i64 (0), .int .i64 (16), .int .i64 (0), .slice 4658 0 2 (some 2) 0, .str [], .nilslice] 93 (0, 0) none)), (4658, some (.cells [.int .i64 (0), .int .i64 (49)] 2 (0, 0) none))]⟩
theorem hgM5_7_0_0_0_chk : dChk hgM5_7_0_0_0 = true := by kernel_rfl
noncomputable def hgM5_7_0_1_0 : Memo := ⟨4619, [hgV1, .int .i64 (2), .agg [.int .i64 (49), .slice 4617 0 8 none 0, .str [], .nilslice]], hgD0, bnds 5 7, 4660, .tuple [hgR3, .slice 4659 0 1 (some 1) 0, .bool true], hgO1 [(4659, some (.cells [.int .i64 (2), .int .i64 (0), .int .i64 (16), .int .i64 (0), .slice 4658 0 2 (some 2) 0, .str [], .nilslice] 93 (0, 0) none)), (4658, some (.cells [.int .i64 (0), .int .i64 (49)] 2 (0, 0) none))]⟩
theorem hgM5_7_0_1_0_chk : dChk hgM5_7_0_1_0 = true := by kernel_rfl
noncomputable def hgM5_8_0_0_0 : Memo := ⟨4619, [hgV0, .int .i64 (2), .agg [.int .i64 (49), .slice 4617 0 9 none 0, .str [], .nilslice]], hgD0, bnds 5 8, 4660, .tuple [hgR1, .slice 4659 0 1 (some 1) 0, .bool true], hgO1 [(4659, some (.cells [.int .i64 (2), .int .i64 (0), .int .i64 (16), .int .i64 (0), .slice 4658 0 2 (some 2) 0, .str [], .nilslice] 93 (0, 0) none)), (4658, some (.cells [.int .i64 (0), .int .i64 (49)] 2 (0, 0) none))]⟩
theorem hgM5_8_0_0_0_chk : dChk hgM5_8_0_0_0 = true := by kernel_rfl
noncomputable def hgM5_8_0_1_0 : Memo := ⟨4619, [hgV1, .int .i64 (2), .agg [.int .i64 (49), .slice 4617 0 9 none 0, .str [], .nilslice]], hgD0, bnds 5 8, 4660, .tuple [hgR3, .slice 4659 0 1 (some 1) 0, .bool true], hgO1 [(4659, some (.cells [.int .i64 (2), .int .i64 (0), .int .i64 (16), .int .i64 (0), .slice 4658 0 2 (some 2) 0, .str [], .nilslice] 93 (0, 0) none)), (4658, some (.cells [.int .i64 (0), .int .i64 (49)] 2 (0, 0) none))]⟩
theorem hgM5_8_0_1_0_chk : dChk hgM5_8_0_1_0 = true := by kernel_rfl
noncomputable def hgM5_9_0_0_0 : Memo := ⟨4619, [hgV0, .int .i64 (2), .agg [.int .i64 (49), .slice 4617 0 10 none 0, .str [], .nilslice]], hgD0, bnds 5 9, 4660, .tuple [hgR1, .slice 4659 0 1 (some 1) 0, .bool true], hgO1 [(4659, some (.cells [.int .i64 (2), .int .i64 (0), .int .i64 (16), .int .i64 (0), .slice 4658 0 2 (some 2) 0, .str [], .nilslice] 93 (0, 0) none)), (4658, some (.cells [.int .i64 (0), .int .i64 (49)] 2 (0, 0) none))]⟩
theorem hgM5_9_0_0_0_chk : dChk hgM5_9_0_0_0 = true := by kernel_rfl
noncomputable def hgM5_9_0_1_0 : Memo := ⟨4619, [hgV1, .int .i64 (2), .agg [.int .i64 (49), .slice 4617 0 10 none 0, .str [], .nilslice]], hgD0, bnds 5 9, 4660, .tuple [hgR3, .slice 4659 0 1 (some 1) 0, .bool true], hgO1 [(4659, some (.cells [.int .i64 (2), .int .i64 (0), .int .i64 (16), .int .i64 (0), .slice 4658 0 2 (some 2) 0, .str [], .nilslice] 93 (0, 0) none)), (4658, some (.cells [.int .i64 (0), .int .i64 (49)] 2 (0, 0) none))]⟩
theorem hgM5_9_0_1_0_chk : dChk hgM5_9_0_1_0 = true := by kernel_rfl
noncomputable def hgM5_10_0_0_0 : Memo := ⟨4619, [hgV0, .int .i64 (2), .agg [.int .i64 (49), .slice 4617 0 11 none 0, .str [], .nilslice]], hgD0, bnds 5 10, 4660, .tuple [hgR1, .slice 4659 0 1 (some 1) 0, .bool true], hgO1 [(4659, some (.cells [.int .i64 (2), .int .i64 (0), .int .i64 (16), .int .i64 (0), .slice 4658 0 2 (some 2) 0, .str [], .nilslice] 93 (0, 0) none)), (4658, some (.cells [.int .i64 (0), .int .i64 (49)] 2 (0, 0) none))]⟩
theorem hgM5_10_0_0_0_chk : dChk hgM5_10_0_0_0 = true := by kernel_rfl
noncomputable def hgM5_10_0_1_0 : Memo := ⟨4619, [hgV1, .int .i64 (2), .agg [.int .i64 (49), .slice 4617 0 11 none 0, .str [], .nilslice]], hgD0, bnds 5 10, 4660, .tuple [hgR3, .slice 4659 0 1 (some 1) 0, .bool true], hgO1 [(4659, some (.cells [.int .i64 (2), .int .i64 (0), .int .i64 (16), .int .i64 (0), .slice 4658 0 2 (some 2) 0, .str [], .nilslice] 93 (0, 0) none)), (4658, some (.cells [.int .i64 (0), .int .i64 (49)] 2 (0, 0) none))]⟩
theorem hgM5_10_0_1_0_chk : dChk hgM5_10_0_1_0 = true := by kernel_rfl
noncomputable def hgM5_11_0_0_0 : Memo := ⟨4619, [hgV0, .int .i64 (2), .agg [.int .i64 (49), .slice 4617 0 12 none 0, .str [], .nilslice]], hgD0, bnds 5 11, 4660, .tuple [hgR1, .slice 4659 0 1 (some 1) 0, .bool true], hgO1 [(4659, some (.cells [.int .i64 (2), .int .i64 (0), .int .i64 (16), .int .i64 (0), .slice 4658 0 2 (some 2) 0, .str [], .nilslice] 93 (0, 0) none)), (4658, some (.cells [.int .i64 (0), .int .i64 (49)] 2 (0, 0) none))]⟩
theorem hgM5_11_0_0_0_chk : dChk hgM5_11_0_0_0 = true := by kernel_rfl
noncomputable def hgM5_11_0_1_0 : Memo := ⟨4619, [hgV1, .int .i64 (2), .agg [.int .i64 (49), .slice 4617 0 12 none 0, .str [], .nilslice]], hgD0, bnds 5 11, 4660, .tuple [hgR3, .slice 4659 0 1 (some 1) 0, .bool true], hgO1 [(4659, some (.cells [.int .i64 (2), .int .i64 (0), .int .i64 (16), .int .i64 (0), .slice 4658 0 2 (some 2) 0, .str [], .nilslice] 93 (0, 0) none)), (4658, some (.cells [.int .i64 (0), .int .i64 (49)] 2 (0, 0) none))]⟩
theorem hgM5_11_0_1_0_chk : dChk hgM5_11_0_1_0 = true := by kernel_rfl
noncomputable def hgM5_12_0_0_0 : Memo := ⟨4619, [hgV0, .int .i64 (2), .agg [.int .i64 (49), .slice 4617 0 13 none 0, .str [], .nilslice]], hgD0, bnds 5 12, 4660, .tuple [hgR1, .slice 4659 0 1 (some 1) 0, .bool true], hgO1 [(4659, some (.cells [.int .i64 (2), .int .i64 (0), .int .i64 (16), .int .i64 (0), .slice 4658 0 2 (some 2) 0, .str [], .nilslice] 93 (0, 0) none)), (4658, some (.cells [.int .i64 (0), .int .i64 (49)] 2 (0, 0) none))]⟩
theorem hgM5_12_0_0_0_chk : dChk hgM5_12_0_0_0 = true := by kernel_rfl
noncomputable def hgM5_12_0_1_0 : Memo := ⟨4619, [hgV1, .int .i64 (2), .agg [.int .i64 (49), .slice 4617 0 13 none 0, .str [], .nilslice]], hgD0, bnds 5 12, 4660, .tuple [hgR3, .slice 4659 0 1 (some 1) 0, .bool true], hgO1 [(4659, some (.cells [.int .i64 (2), .int .i64 (0), .int .i64 (16), .int .i64 (0), .slice 4658 0 2 (some 2) 0, .str [], .nilslice] 93 (0, 0) none)), (4658, some (.cells [.int .i64 (0), .int .i64 (49)] 2 (0, 0) none))]⟩
theorem hgM5_12_0_1_0_chk : dChk hgM5_12_0_1_0 = true := by kernel_rfl
noncomputable def hgM5_13_0_0_0 : Memo := ⟨4619, [hgV0, .int .i64 (2), .agg [.int .i64 (49), .slice 4617 0 14 none 0, .str [], .nilslice]], hgD0, bnds 5 13, 4660, .tuple [hgR1, .slice 4659 0 1 (some 1) 0, .bool true], hgO1 [(4659, some (.cells [.int .i64 (2), .int .i64 (0), .int .i64 (16), .int .i64 (0), .slice 4658 0 2 (some 2) 0, .str [], .nilslice] 93 (0, 0) none)), (4658, some (.cells [.int .i64 (0), .int .i64 (49)] 2 (0, 0) none))]⟩
theorem hgM5_13_0_0_0_chk : dChk hgM5_13_0_0_0 = true := by kernel_rfl
noncomputable def hgM5_13_0_1_0 : Memo := ⟨4619, [hgV1, .int .i64 (2), .agg [.int .i64 (49), .slice 4617 0 14 none 0, .str [], .nilslice]], hgD0, bnds 5 13, 4660, .tuple [hgR3, .slice 4659 0 1 (some 1) 0, .bool true], hgO1 [(4659, some (.cells [.int .i64 (2), .int .i64 (0), .int .i64 (16), .int .i64 (0), .slice 4658 0 2 (some 2) 0, .str [], .nilslice] 93 (0, 0) none)), (4658, some (.cells [.int .i64 (0), .int .i64 (49)] 2 (0, 0) none))]⟩
theorem hgM5_13_0_1_0_chk : dChk hgM5_13_0_1_0 = true := by kernel_rfl
noncomputable def hgM5_14_0_0_0 : Memo := ⟨4619, [hgV0, .int .i64 (2), .agg [.int .i64 (49), .slice 4617 0 15 none 0, .str [], .nilslice]], hgD0, bnds 5 14, 4660, .tuple [hgR1, .slice 4659 0 1 (some 1) 0, .bool true], hgO1 [(4659, some (.cells [.int .i64 (2), .int .i64 (0), .int .i64 (16), .int .i64 (0), .slice 4658 0 2 (some 2) 0, .str [], .nilslice] 93 (0, 0) none)), (4658, some (.cells [.int .i64 (0), .int .i64 (49)] 2 (0, 0) none))]⟩
theorem hgM5_14_0_0_0_chk : dChk hgM5_14_0_0_0 = true := by kernel_rfl
noncomputable def hgM5_14_0_1_0 : Memo := ⟨4619, [hgV1, .int .i64 (2), .agg [.int .i64 (49), .slice 4617 0 15 none 0, .str [], .nilslice]], hgD0, bnds 5 14, 4660, .tuple [hgR3, .slice 4659 0 1 (some 1) 0, .bool true], hgO1 [(4659, some (.cells [.int .i64 (2), .int .i64 (0), .int .i64 (16), .int .i64 (0), .slice 4658 0 2 (some 2) 0, .str [], .nilslice] 93 (0, 0) none)), (4658, some (.cells [.int .i64 (0), .int .i64 (49)] 2 (0, 0) none))]⟩
theorem hgM5_14_0_1_0_chk : dChk hgM5_14_0_1_0 = true := by kernel_rfl
noncomputable def hgM5_15_0_0_0 : Memo := ⟨4619, [hgV0, .int .i64 (2), .agg [.int .i64 (49), .slice 4617 0 16 none 0, .str [], .nilslice]], hgD0, bnds 5 15, 4660, .tuple [hgR1, .slice 4659 0 1 (some 1) 0, .bool true], hgO1 [(4659, some (.cells [.int .i64 (2), .int .i64 (0), .int .i64 (16), .int .i64 (0), .slice 4658 0 2 (some 2) 0, .str [], .nilslice] 93 (0, 0) none)), (4658, some (.cells [.int .i64 (0), .int .i64 (49)] 2 (0, 0) none))]⟩
theorem hgM5_15_0_0_0_chk : dChk hgM5_15_0_0_0 = true := by kernel_rfl
noncomputable def hgM5_15_0_1_0 : Memo := ⟨4619, [hgV1, .int .i64 (2), .agg [.int .i64 (49), .slice 4617 0 16 none 0, .str [], .nilslice]], hgD0, bnds 5 15, 4660, .tuple [hgR3, .slice 4659 0 1 (some 1) 0, .bool true], hgO1 [(4659, some (.cells [.int .i64 (2), .int .i64 (0), .int .i64 (16), .int .i64 (0), .slice 4658 0 2 (some 2) 0, .str [], .nilslice] 93 (0, 0) none)), (4658, some (.cells [.int .i64 (0), .int .i64 (49)] 2 (0, 0) none))]⟩
theorem hgM5_15_0_1_0_chk : dChk hgM5_15_0_1_0 = true := by kernel_rfl
noncomputable def hgM5_16_0_0_0 : Memo := ⟨4619, [hgV0, .int .i64 (2), .agg [.int .i64 (49), .slice 4617 0 17 none 0, .str [], .nilslice]], hgD0, bnds 5 16, 4660, .tuple [hgR1, .slice 4659 0 1 (some 1) 0, .bool true], hgO1 [(4659, some (.cells [.int .i64 (2), .int .i64 (0), .int .i64 (16), .int .i64 (0), .slice 4658 0 2 (some 2) 0, .str [], .nilslice] 93 (0, 0) none)), (4658, some (.cells [.int .i64 (0), .int .i64 (49)] 2 (0, 0) none))]⟩
theorem hgM5_16_0_0_0_chk : dChk hgM5_16_0_0_0 = true := by kernel_rfl
noncomputable def hgM5_16_0_1_0 : Memo := ⟨4619, [hgV1, .int .i64 (2), .agg [.int .i64 (49), .slice 4617 0 17 none 0, .str [], .nilslice]], hgD0, bnds 5 16, 4660, .tuple [hgR3, .slice 4659 0 1 (some 1) 0, .bool true], hgO1 [(4659, some (.cells [.int .i64 (2), .int .i64 (0), .int .i64 (16), .int .i64 (0), .slice 4658 0 2 (some 2) 0, .str [], .nilslice] 93 (0, 0) none)), (4658, some (.cells [.int .i64 (0), .int .i64 (49)] 2 (0, 0) none))]⟩
theorem hgM5_16_0_1_0_chk : dChk hgM5_16_0_1_0 = true := by kernel_rfl
noncomputable def hgM5_17_0_0_0 : Memo := ⟨4619, [hgV0, .int .i64 (2), .agg [.int .i64 (49), .slice 4617 0 18 none 0, .str [], .nilslice]], hgD0, bnds 5 17, 4660, .tuple [hgR1, .slice 4659 0 1 (some 1) 0, .bool true], hgO1 [(4659, some (.cells [.int .i64 (2), .int .i64 (0), .int .i64 (16), .int .i64 (0), .slice 4658 0 2 (some 2) 0, .str [], .nilslice] 93 (0, 0) none)), (4658, some (.cells [.int .i64 (0), .int .i64 (49)] 2 (0, 0) none))]⟩
theorem hgM5_17_0_0_0_chk : dChk hgM5_17_0_0_0 = true := by kernel_rfl
noncomputable def hgM5_17_0_1_0 : Memo := ⟨4619, [hgV1, .int .i64 (2), .agg [.int .i64 (49), .slice 4617 0 18 none 0, .str [], .nilslice]], hgD0, bnds 5 17, 4660, .tuple [hgR3, .slice 4659 0 1 (some 1) 0, .bool true], hgO1 [(4659, some (.cells [.int .i64 (2), .int .i64 (0), .int .i64 (16), .int .i64 (0), .slice 4658 0 2 (some 2) 0, .str [], .nilslice] 93 (0, 0) none)), (4658, some (.cells [.int .i64 (0), .int .i64 (49)] 2 (0, 0) none))]⟩
theorem hgM5_17_0_1_0_chk : dChk hgM5_17_0_1_0 = true := by kernel_rfl
noncomputable def hgM5_18_0_0_0 : Memo := ⟨4619, [hgV0, .int .i64 (2), .agg [.int .i64 (49), .slice 4617 0 19 none 0, .str [], .nilslice]], hgD0, bnds 5 18, 4660, .tuple [hgR1, .slice 4659 0 1 (some 1) 0, .bool true], hgO1 [(4659, some (.cells [.int .i64 (2), .int .i64 (0), .int .i64 (16), .int .i64 (0), .slice 4658 0 2 (some 2) 0, .str [], .nilslice] 93 (0, 0) none)), (4658, some (.cells [.int .i64 (0), .int .i64 (49)] 2 (0, 0) none))]⟩
theorem hgM5_18_0_0_0_chk : dChk hgM5_18_0_0_0 = true := by kernel_rfl
noncomputable def hgM5_18_0_1_0 : Memo := ⟨4619, [hgV1, .int .i64 (2), .agg [.int .i64 (49), .slice 4617 0 19 none 0, .str [], .nilslice]], hgD0, bnds 5 18, 4660, .tuple [hgR3, .slice 4659 0 1 (some 1) 0, .bool true], hgO1 [(4659, some (.cells [.int .i64 (2), .int .i64 (0), .int .i64 (16), .int .i64 (0), .slice 4658 0 2 (some 2) 0, .str [], .nilslice] 93 (0, 0) none)), (4658, some (.cells [.int .i64 (0), .int .i64 (49)] 2 (0, 0) none))]⟩
theorem hgM5_18_0_1_0_chk : dChk hgM5_18_0_1_0 = true := by kernel_rfl
noncomputable def hgM5_19_0_0_0 : Memo := ⟨4619, [hgV0, .int .i64 (2), .agg [.int .i64 (49), .slice 4617 0 20 none 0, .str [], .nilslice]], hgD0, bnds 5 19, 4660, .tuple [hgR1, .slice 4659 0 1 (some 1) 0, .bool true], hgO1 [(4659, some (.cells [.int .i64 (2), .int .i64 (0), .int .i64 (16), .int .i64 (0), .slice 4658 0 2 (some 2) 0, .str [], .nilslice] 93 (0, 0) none)), (4658, some (.cells [.int .i64 (0), .int .i64 (49)] 2 (0, 0) none))]⟩
theorem hgM5_19_0_0_0_chk : dChk hgM5_19_0_0_0 = true := by kernel_rfl
noncomputable def hgM5_19_0_1_0 : Memo := ⟨4619, [hgV1, .int .i64 (2), .agg [.int .i64 (49), .slice 4617 0 20 none 0, .str [], .nilslice]], hgD0, bnds 5 19, 4660, .tuple [hgR3, .slice 4659 0 1 (some 1) 0, .bool true], hgO1 [(4659, some (.cells [.int .i64 (2), .int .i64 (0), .int .i64 (16), .int .i64 (0), .slice 4658 0 2 (some 2) 0, .str [], .nilslice] 93 (0, 0) none)), (4658, some (.cells [.int .i64 (0), .int .i64 (49)] 2 (0, 0) none))]⟩
theorem hgM5_19_0_1_0_chk : dChk hgM5_19_0_1_0 = true := by kernel_rfl
noncomputable def hgM5_20_0_0_0 : Memo := ⟨4619, [hgV0, .int .i64 (2), .agg [.int .i64 (49), .slice 4617 0 21 none 0, .str [], .nilslice]], hgD0, bnds 5 20, 4660, .tuple [hgR1, .slice 4659 0 1 (some 1) 0, .bool true], hgO1 [(4659, some (.cells [.int .i64 (2), .int .i64 (0), .int .i64 (16), .int .i64 (0), .slice 4658 0 2 (some 2) 0, .str [], .nilslice] 93 (0, 0) none)), (4658, some (.cells [.int .i64 (0), .int .i64 (49)] 2 (0, 0) none))]⟩
theorem hgM5_20_0_0_0_chk : dChk hgM5_20_0_0_0 = true := by kernel_rfl
noncomputable def hgM5_20_0_1_0 : Memo := ⟨4619, [hgV1, .int .i64 (2), .agg [.int .i64 (49), .slice 4617 0 21 none 0, .str [], .nilslice]], hgD0, bnds 5 20, 4660, .tuple [hgR3, .slice 4659 0 1 (some 1) 0, .bool true], hgO1 [(4659, some (.cells [.int .i64 (2), .int .i64 (0), .int .i64 (16), .int .i64 (0), .slice 4658 0 2 (some 2) 0, .str [], .nilslice] 93 (0, 0) none)), (4658, some (.cells [.int .i64 (0), .int .i64 (49)] 2 (0, 0) none))]⟩
theorem hgM5_20_0_1_0_chk : dChk hgM5_20_0_1_0 = true := by kernel_rfl
noncomputable def hgL5_0 : List HgK := [⟨1, .leaf, [hgM5_1_0_0_0], [hgK5_1_0]⟩,
  ⟨2, (.lt (.var 5) (.lit (-32768)) .leaf (.lt (.lit (32767)) (.var 5) .leaf (.lt (.var 6) (.lit (-32768)) .leaf (.lt (.lit (32767)) (.var 6) .leaf .leaf)))), [hgM5_2_0_0_0, hgM5_2_1_0_0, hgM5_2_2_0_0, hgM5_2_3_0_0, hgM5_2_4_0_1], [hgK5_2_0, hgK5_2_1, hgK5_2_2, hgK5_2_3, hgK5_2_4]⟩,
  ⟨3, .leaf, [hgM5_3_0_0_0], [hgK5_3_0]⟩,
  ⟨4, .leaf, [hgM5_4_0_0_0], [hgK5_4_0]⟩,
  ⟨5, .leaf, [hgM5_5_0_0_0], [hgK5_5_0]⟩,
  ⟨6, .leaf, [hgM5_6_0_0_0], [hgK5_6_0]⟩,
  ⟨7, .leaf, [hgM5_7_0_0_0], [hgK5_7_0]⟩,
  ⟨8, .leaf, [hgM5_8_0_0_0], [hgK5_8_0]⟩,
  ⟨9, .leaf, [hgM5_9_0_0_0], [hgK5_9_0]⟩,
  ⟨10, .leaf, [hgM5_10_0_0_0], [hgK5_10_0]⟩,
  ⟨11, .leaf, [hgM5_11_0_0_0], [hgK5_11_0]⟩,
  ⟨12, .leaf, [hgM5_12_0_0_0], [hgK5_12_0]⟩,
  ⟨13, .leaf, [hgM5_13_0_0_0], [hgK5_13_0]⟩,
  ⟨14, .leaf, [hgM5_14_0_0_0], [hgK5_14_0]⟩,
  ⟨15, .leaf, [hgM5_15_0_0_0], [hgK5_15_0]⟩,
  ⟨16, .leaf, [hgM5_16_0_0_0], [hgK5_16_0]⟩,
  ⟨17, .leaf, [hgM5_17_0_0_0], [hgK5_17_0]⟩,
  ⟨18, .leaf, [hgM5_18_0_0_0], [hgK5_18_0]⟩,
  ⟨19, .leaf, [hgM5_19_0_0_0], [hgK5_19_0]⟩,
  ⟨20, .leaf, [hgM5_20_0_0_0], [hgK5_20_0]⟩]
theorem hgL5_0_ok : ∀ x ∈ hgL5_0, ∀ M ∈ x.dm, dChk M = true := (lCons (dCons hgM5_1_0_0_0_chk dNil) (lCons (dCons hgM5_2_0_0_0_chk (dCons hgM5_2_1_0_0_chk (dCons hgM5_2_2_0_0_chk (dCons hgM5_2_3_0_0_chk (dCons hgM5_2_4_0_1_chk dNil))))) (lCons (dCons hgM5_3_0_0_0_chk dNil) (lCons (dCons hgM5_4_0_0_0_chk dNil) (lCons (dCons hgM5_5_0_0_0_chk dNil) (lCons (dCons hgM5_6_0_0_0_chk dNil) (lCons (dCons hgM5_7_0_0_0_chk dNil) (lCons (dCons hgM5_8_0_0_0_chk dNil) (lCons (dCons hgM5_9_0_0_0_chk dNil) (lCons (dCons hgM5_10_0_0_0_chk dNil) (lCons (dCons hgM5_11_0_0_0_chk dNil) (lCons (dCons hgM5_12_0_0_0_chk dNil) (lCons (dCons hgM5_13_0_0_0_chk dNil) (lCons (dCons hgM5_14_0_0_0_chk dNil) (lCons (dCons hgM5_15_0_0_0_chk dNil) (lCons (dCons hgM5_16_0_0_0_chk dNil) (lCons (dCons hgM5_17_0_0_0_chk dNil) (lCons (dCons hgM5_18_0_0_0_chk dNil) (lCons (dCons hgM5_19_0_0_0_chk dNil) (lCons (dCons hgM5_20_0_0_0_chk dNil) lNil))))))))))))))))))))
theorem hgL5_0_ko : ∀ x ∈ hgL5_0, ∀ M ∈ x.km, kChk M = true := (lCons (dCons hgK5_1_0_chk dNil) (lCons (dCons hgK5_2_0_chk (dCons hgK5_2_1_chk (dCons hgK5_2_2_chk (dCons hgK5_2_3_chk (dCons hgK5_2_4_chk dNil))))) (lCons (dCons hgK5_3_0_chk dNil) (lCons (dCons hgK5_4_0_chk dNil) (lCons (dCons hgK5_5_0_chk dNil) (lCons (dCons hgK5_6_0_chk dNil) (lCons (dCons hgK5_7_0_chk dNil) (lCons (dCons hgK5_8_0_chk dNil) (lCons (dCons hgK5_9_0_chk dNil) (lCons (dCons hgK5_10_0_chk dNil) (lCons (dCons hgK5_11_0_chk dNil) (lCons (dCons hgK5_12_0_chk dNil) (lCons (dCons hgK5_13_0_chk dNil) (lCons (dCons hgK5_14_0_chk dNil) (lCons (dCons hgK5_15_0_chk dNil) (lCons (dCons hgK5_16_0_chk dNil) (lCons (dCons hgK5_17_0_chk dNil) (lCons (dCons hgK5_18_0_chk dNil) (lCons (dCons hgK5_19_0_chk dNil) (lCons (dCons hgK5_20_0_chk dNil) lNil))))))))))))))))))))
noncomputable def hgL5_1 : List HgK := [⟨1, .leaf, [hgM5_1_0_1_0], [hgK5_1_0]⟩,
  ⟨2, (.lt (.var 5) (.lit (-32768)) .leaf (.lt (.lit (32767)) (.var 5) .leaf (.lt (.var 6) (.lit (-32768)) .leaf (.lt (.lit (32767)) (.var 6) .leaf .leaf)))), [hgM5_2_0_1_0, hgM5_2_1_1_0, hgM5_2_2_1_0, hgM5_2_3_1_0, hgM5_2_4_1_1], [hgK5_2_0, hgK5_2_1, hgK5_2_2, hgK5_2_3, hgK5_2_4]⟩,
  ⟨3, .leaf, [hgM5_3_0_1_0], [hgK5_3_0]⟩,
  ⟨4, .leaf, [hgM5_4_0_1_0], [hgK5_4_0]⟩,
  ⟨5, .leaf, [hgM5_5_0_1_0], [hgK5_5_0]⟩,
  ⟨6, .leaf, [hgM5_6_0_1_0], [hgK5_6_0]⟩,
  ⟨7, .leaf, [hgM5_7_0_1_0], [hgK5_7_0]⟩,
  ⟨8, .leaf, [hgM5_8_0_1_0], [hgK5_8_0]⟩,
  ⟨9, .leaf, [hgM5_9_0_1_0], [hgK5_9_0]⟩,
  ⟨10, .leaf, [hgM5_10_0_1_0], [hgK5_10_0]⟩,
  ⟨11, .leaf, [hgM5_11_0_1_0], [hgK5_11_0]⟩,
  ⟨12, .leaf, [hgM5_12_0_1_0], [hgK5_12_0]⟩,
  ⟨13, .leaf, [hgM5_13_0_1_0], [hgK5_13_0]⟩,
  ⟨14, .leaf, [hgM5_14_0_1_0], [hgK5_14_0]⟩,
  ⟨15, .leaf, [hgM5_15_0_1_0], [hgK5_15_0]⟩,
  ⟨16, .leaf, [hgM5_16_0_1_0], [hgK5_16_0]⟩,
  ⟨17, .leaf, [hgM5_17_0_1_0], [hgK5_17_0]⟩,
  ⟨18, .leaf, [hgM5_18_0_1_0], [hgK5_18_0]⟩,
  ⟨19, .leaf, [hgM5_19_0_1_0], [hgK5_19_0]⟩,
  ⟨20, .leaf, [hgM5_20_0_1_0], [hgK5_20_0]⟩]
theorem hgL5_1_ok : ∀ x ∈ hgL5_1, ∀ M ∈ x.dm, dChk M = true := (lCons (dCons hgM5_1_0_1_0_chk dNil) (lCons (dCons hgM5_2_0_1_0_chk (dCons hgM5_2_1_1_0_chk (dCons hgM5_2_2_1_0_chk (dCons hgM5_2_3_1_0_chk (dCons hgM5_2_4_1_1_chk dNil))))) (lCons (dCons hgM5_3_0_1_0_chk dNil) (lCons (dCons hgM5_4_0_1_0_chk dNil) (lCons (dCons hgM5_5_0_1_0_chk dNil) (lCons (dCons hgM5_6_0_1_0_chk dNil) (lCons (dCons hgM5_7_0_1_0_chk dNil) (lCons (dCons hgM5_8_0_1_0_chk dNil) (lCons (dCons hgM5_9_0_1_0_chk dNil) (lCons (dCons hgM5_10_0_1_0_chk dNil) (lCons (dCons hgM5_11_0_1_0_chk dNil) (lCons (dCons hgM5_12_0_1_0_chk dNil) (lCons (dCons hgM5_13_0_1_0_chk dNil) (lCons (dCons hgM5_14_0_1_0_chk dNil) (lCons (dCons hgM5_15_0_1_0_chk dNil) (lCons (dCons hgM5_16_0_1_0_chk dNil) (lCons (dCons hgM5_17_0_1_0_chk dNil) (lCons (dCons hgM5_18_0_1_0_chk dNil) (lCons (dCons hgM5_19_0_1_0_chk dNil) (lCons (dCons hgM5_20_0_1_0_chk dNil) lNil))))))))))))))))))))
theorem hgL5_1_ko : ∀ x ∈ hgL5_1, ∀ M ∈ x.km, kChk M = true := (lCons (dCons hgK5_1_0_chk dNil) (lCons (dCons hgK5_2_0_chk (dCons hgK5_2_1_chk (dCons hgK5_2_2_chk (dCons hgK5_2_3_chk (dCons hgK5_2_4_chk dNil))))) (lCons (dCons hgK5_3_0_chk dNil) (lCons (dCons hgK5_4_0_chk dNil) (lCons (dCons hgK5_5_0_chk dNil) (lCons (dCons hgK5_6_0_chk dNil) (lCons (dCons hgK5_7_0_chk dNil) (lCons (dCons hgK5_8_0_chk dNil) (lCons (dCons hgK5_9_0_chk dNil) (lCons (dCons hgK5_10_0_chk dNil) (lCons (dCons hgK5_11_0_chk dNil) (lCons (dCons hgK5_12_0_chk dNil) (lCons (dCons hgK5_13_0_chk dNil) (lCons (dCons hgK5_14_0_chk dNil) (lCons (dCons hgK5_15_0_chk dNil) (lCons (dCons hgK5_16_0_chk dNil) (lCons (dCons hgK5_17_0_chk dNil) (lCons (dCons hgK5_18_0_chk dNil) (lCons (dCons hgK5_19_0_chk dNil) (lCons (dCons hgK5_20_0_chk dNil) lNil))))))))))))))))))))
end Ev
end Go.Proofs.YtanapnlfdoebdaaGreatDoor
