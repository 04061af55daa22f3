/-
  HandsGranted: hands.Do, code 0 (printed by a program).
-/
import Derived.Test.YtanapnlfdoebdaaGreatDoorHf
import Derived.KernelRfl
namespace Go.Proofs.YtanapnlfdoebdaaGreatDoor
namespace Ev
open Go.RowKit
noncomputable def hgK0_0_0 : Memo := ⟨4617, [.agg [.int .i64 (37), .slice 4616 0 1 (some 1) 0, .str [], .nilslice]], [], bnds 5 0, 4643, .int .i64 (14), []⟩
theorem hgK0_0_0_chk : kChk hgK0_0_0 = true := by kernel_rfl
noncomputable def hgK0_1_0 : Memo := ⟨4618, [.agg [.int .i64 (37), .slice 4617 0 2 none 0, .str [], .nilslice]], [], bnds 5 1, 4644, .int .i64 (14), []⟩
theorem hgK0_1_0_chk : kChk hgK0_1_0 = true := by kernel_rfl
noncomputable def hgK0_2_0 : Memo := ⟨4618, [.agg [.int .i64 (37), .slice 4617 0 3 none 0, .str [], .nilslice]], [(4617, .cells (.int .i64 (1048577) :: varsFrom .i64 5 2) 2 (0, 0) (some 1))], ⟨true, (.var 5), (.lit (0)), true⟩ :: bnds 5 2, 4664, .int .i64 (1), []⟩
theorem hgK0_2_0_chk : kChk hgK0_2_0 = true := by kernel_rfl
noncomputable def hgK0_2_1 : Memo := ⟨4618, [.agg [.int .i64 (37), .slice 4617 0 3 none 0, .str [], .nilslice]], [(4617, .cells (.int .i64 (1048577) :: varsFrom .i64 5 2) 2 (0, 0) (some 1))], ⟨true, (.lit (255)), (.var 5), true⟩ :: ⟨true, (.var 5), (.lit (0)), false⟩ :: bnds 5 2, 4664, .int .i64 (1), []⟩
theorem hgK0_2_1_chk : kChk hgK0_2_1 = true := by kernel_rfl
noncomputable def hgK0_2_2 : Memo := ⟨4618, [.agg [.int .i64 (37), .slice 4617 0 3 none 0, .str [], .nilslice]], [(4617, .cells (.int .i64 (1048577) :: varsFrom .i64 5 2) 2 (0, 0) (some 1))], ⟨true, (.var 6), (.lit (0)), true⟩ :: ⟨true, (.lit (255)), (.var 5), false⟩ :: ⟨true, (.var 5), (.lit (0)), false⟩ :: bnds 5 2, 4674, .int .i64 (1), []⟩
theorem hgK0_2_2_chk : kChk hgK0_2_2 = true := by kernel_rfl
noncomputable def hgK0_2_3 : Memo := ⟨4618, [.agg [.int .i64 (37), .slice 4617 0 3 none 0, .str [], .nilslice]], [(4617, .cells (.int .i64 (1048577) :: varsFrom .i64 5 2) 2 (0, 0) (some 1))], ⟨true, (.lit (4294967295)), (.var 6), true⟩ :: ⟨true, (.var 6), (.lit (0)), false⟩ :: ⟨true, (.lit (255)), (.var 5), false⟩ :: ⟨true, (.var 5), (.lit (0)), false⟩ :: bnds 5 2, 4674, .int .i64 (1), []⟩
theorem hgK0_2_3_chk : kChk hgK0_2_3 = true := by kernel_rfl
noncomputable def hgK0_2_4 : Memo := ⟨4618, [.agg [.int .i64 (37), .slice 4617 0 3 none 0, .str [], .nilslice]], [(4617, .cells (.int .i64 (1048577) :: varsFrom .i64 5 2) 2 (0, 0) (some 1))], ⟨true, (.lit (4294967295)), (.var 6), false⟩ :: ⟨true, (.var 6), (.lit (0)), false⟩ :: ⟨true, (.lit (255)), (.var 5), false⟩ :: ⟨true, (.var 5), (.lit (0)), false⟩ :: bnds 5 2, 4760, .int .i64 (0), []⟩
theorem hgK0_2_4_chk : kChk hgK0_2_4 = true := by kernel_rfl
noncomputable def hgK0_3_0 : Memo := ⟨4618, [.agg [.int .i64 (37), .slice 4617 0 4 none 0, .str [], .nilslice]], [], bnds 5 3, 4644, .int .i64 (14), []⟩
theorem hgK0_3_0_chk : kChk hgK0_3_0 = true := by kernel_rfl
noncomputable def hgK0_4_0 : Memo := ⟨4618, [.agg [.int .i64 (37), .slice 4617 0 5 none 0, .str [], .nilslice]], [], bnds 5 4, 4644, .int .i64 (14), []⟩
theorem hgK0_4_0_chk : kChk hgK0_4_0 = true := by kernel_rfl
noncomputable def hgK0_5_0 : Memo := ⟨4618, [.agg [.int .i64 (37), .slice 4617 0 6 none 0, .str [], .nilslice]], [], bnds 5 5, 4644, .int .i64 (14), []⟩
theorem hgK0_5_0_chk : kChk hgK0_5_0 = true := by kernel_rfl
noncomputable def hgK0_6_0 : Memo := ⟨4618, [.agg [.int .i64 (37), .slice 4617 0 7 none 0, .str [], .nilslice]], [], bnds 5 6, 4644, .int .i64 (14), []⟩
theorem hgK0_6_0_chk : kChk hgK0_6_0 = true := by kernel_rfl
noncomputable def hgK0_7_0 : Memo := ⟨4618, [.agg [.int .i64 (37), .slice 4617 0 8 none 0, .str [], .nilslice]], [], bnds 5 7, 4644, .int .i64 (14), []⟩
theorem hgK0_7_0_chk : kChk hgK0_7_0 = true := by kernel_rfl
noncomputable def hgK0_8_0 : Memo := ⟨4618, [.agg [.int .i64 (37), .slice 4617 0 9 none 0, .str [], .nilslice]], [], bnds 5 8, 4644, .int .i64 (14), []⟩
theorem hgK0_8_0_chk : kChk hgK0_8_0 = true := by kernel_rfl
noncomputable def hgK0_9_0 : Memo := ⟨4618, [.agg [.int .i64 (37), .slice 4617 0 10 none 0, .str [], .nilslice]], [], bnds 5 9, 4644, .int .i64 (14), []⟩
theorem hgK0_9_0_chk : kChk hgK0_9_0 = true := by kernel_rfl
noncomputable def hgK0_10_0 : Memo := ⟨4618, [.agg [.int .i64 (37), .slice 4617 0 11 none 0, .str [], .nilslice]], [], bnds 5 10, 4644, .int .i64 (14), []⟩
theorem hgK0_10_0_chk : kChk hgK0_10_0 = true := by kernel_rfl
noncomputable def hgK0_11_0 : Memo := ⟨4618, [.agg [.int .i64 (37), .slice 4617 0 12 none 0, .str [], .nilslice]], [], bnds 5 11, 4644, .int .i64 (14), []⟩
theorem hgK0_11_0_chk : kChk hgK0_11_0 = true := by kernel_rfl
noncomputable def hgK0_12_0 : Memo := ⟨4618, [.agg [.int .i64 (37), .slice 4617 0 13 none 0, .str [], .nilslice]], [], bnds 5 12, 4644, .int .i64 (14), []⟩
theorem hgK0_12_0_chk : kChk hgK0_12_0 = true := by kernel_rfl
noncomputable def hgK0_13_0 : Memo := ⟨4618, [.agg [.int .i64 (37), .slice 4617 0 14 none 0, .str [], .nilslice]], [], bnds 5 13, 4644, .int .i64 (14), []⟩
theorem hgK0_13_0_chk : kChk hgK0_13_0 = true := by kernel_rfl
noncomputable def hgK0_14_0 : Memo := ⟨4618, [.agg [.int .i64 (37), .slice 4617 0 15 none 0, .str [], .nilslice]], [], bnds 5 14, 4644, .int .i64 (14), []⟩
theorem hgK0_14_0_chk : kChk hgK0_14_0 = true := by kernel_rfl
noncomputable def hgK0_15_0 : Memo := ⟨4618, [.agg [.int .i64 (37), .slice 4617 0 16 none 0, .str [], .nilslice]], [], bnds 5 15, 4644, .int .i64 (14), []⟩
theorem hgK0_15_0_chk : kChk hgK0_15_0 = true := by kernel_rfl
noncomputable def hgK0_16_0 : Memo := ⟨4618, [.agg [.int .i64 (37), .slice 4617 0 17 none 0, .str [], .nilslice]], [], bnds 5 16, 4644, .int .i64 (14), []⟩
theorem hgK0_16_0_chk : kChk hgK0_16_0 = true := by kernel_rfl
noncomputable def hgK0_17_0 : Memo := ⟨4618, [.agg [.int .i64 (37), .slice 4617 0 18 none 0, .str [], .nilslice]], [], bnds 5 17, 4644, .int .i64 (14), []⟩
theorem hgK0_17_0_chk : kChk hgK0_17_0 = true := by kernel_rfl
noncomputable def hgK0_18_0 : Memo := ⟨4618, [.agg [.int .i64 (37), .slice 4617 0 19 none 0, .str [], .nilslice]], [], bnds 5 18, 4644, .int .i64 (14), []⟩
theorem hgK0_18_0_chk : kChk hgK0_18_0 = true := by kernel_rfl
noncomputable def hgK0_19_0 : Memo := ⟨4618, [.agg [.int .i64 (37), .slice 4617 0 20 none 0, .str [], .nilslice]], [], bnds 5 19, 4644, .int .i64 (14), []⟩
theorem hgK0_19_0_chk : kChk hgK0_19_0 = true := by kernel_rfl
noncomputable def hgK0_20_0 : Memo := ⟨4618, [.agg [.int .i64 (37), .slice 4617 0 21 none 0, .str [], .nilslice]], [], bnds 5 20, 4644, .int .i64 (14), []⟩
theorem hgK0_20_0_chk : kChk hgK0_20_0 = true := by kernel_rfl
noncomputable def hgM0_0_0_0_0 : Memo := ⟨4618, [hgV0, .int .i64 (2), .agg [.int .i64 (37), .slice 4616 0 1 (some 1) 0, .str [], .nilslice]], hgD0, bnds 5 0, 4659, .tuple [hgR0, .slice 4658 0 1 (some 1) 0, .bool true], hgO0 [(4658, some (.cells [.int .i64 (2), .int .i64 (0), .int .i64 (16), .int .i64 (0), .slice 4657 0 2 (some 2) 0, .str [], .nilslice] 93 (0, 0) none)), (4657, some (.cells [.int .i64 (0), .int .i64 (37)] 2 (0, 0) none))]⟩
theorem hgM0_0_0_0_0_chk : dChk hgM0_0_0_0_0 = true := by kernel_rfl
noncomputable def hgM0_0_0_1_0 : Memo := ⟨4618, [hgV1, .int .i64 (2), .agg [.int .i64 (37), .slice 4616 0 1 (some 1) 0, .str [], .nilslice]], hgD0, bnds 5 0, 4659, .tuple [hgR2, .slice 4658 0 1 (some 1) 0, .bool true], hgO0 [(4658, some (.cells [.int .i64 (2), .int .i64 (0), .int .i64 (16), .int .i64 (0), .slice 4657 0 2 (some 2) 0, .str [], .nilslice] 93 (0, 0) none)), (4657, some (.cells [.int .i64 (0), .int .i64 (37)] 2 (0, 0) none))]⟩
theorem hgM0_0_0_1_0_chk : dChk hgM0_0_0_1_0 = true := by kernel_rfl
noncomputable def hgM0_1_0_0_0 : Memo := ⟨4619, [hgV0, .int .i64 (2), .agg [.int .i64 (37), .slice 4617 0 2 none 0, .str [], .nilslice]], hgD0, bnds 5 1, 4660, .tuple [hgR1, .slice 4659 0 1 (some 1) 0, .bool true], hgO1 [(4659, some (.cells [.int .i64 (2), .int .i64 (0), .int .i64 (16), .int .i64 (0), .slice 4658 0 2 (some 2) 0, .str [], .nilslice] 93 (0, 0) none)), (4658, some (.cells [.int .i64 (0), .int .i64 (37)] 2 (0, 0) none))]⟩
theorem hgM0_1_0_0_0_chk : dChk hgM0_1_0_0_0 = true := by kernel_rfl
noncomputable def hgM0_1_0_1_0 : Memo := ⟨4619, [hgV1, .int .i64 (2), .agg [.int .i64 (37), .slice 4617 0 2 none 0, .str [], .nilslice]], hgD0, bnds 5 1, 4660, .tuple [hgR3, .slice 4659 0 1 (some 1) 0, .bool true], hgO1 [(4659, some (.cells [.int .i64 (2), .int .i64 (0), .int .i64 (16), .int .i64 (0), .slice 4658 0 2 (some 2) 0, .str [], .nilslice] 93 (0, 0) none)), (4658, some (.cells [.int .i64 (0), .int .i64 (37)] 2 (0, 0) none))]⟩
theorem hgM0_1_0_1_0_chk : dChk hgM0_1_0_1_0 = true := by kernel_rfl
noncomputable def hgM0_2_0_0_0 : Memo := ⟨4619, [hgV0, .int .i64 (2), .agg [.int .i64 (37), .slice 4617 0 3 none 0, .str [], .nilslice]], (4617, .cells (.int .i64 (1048577) :: varsFrom .i64 5 2) 2 (0, 0) (some 1)) :: hgD0, ⟨true, (.var 5), (.lit (0)), true⟩ :: bnds 5 2, 4680, .tuple [hgR1, .slice 4679 0 1 (some 1) 0, .bool true], hgO1 [(4679, some (.cells [.int .i64 (2), .int .i64 (0), .int .i64 (16), .int .i64 (0), .slice 4678 0 2 (some 2) 0, .str [], .nilslice] 93 (0, 0) none)), (4678, some (.cells [.int .i64 (0), .int .i64 (37)] 2 (0, 0) none))]⟩
theorem hgM0_2_0_0_0_chk : dChk hgM0_2_0_0_0 = true := by kernel_rfl
noncomputable def hgM0_2_1_0_0 : Memo := ⟨4619, [hgV0, .int .i64 (2), .agg [.int .i64 (37), .slice 4617 0 3 none 0, .str [], .nilslice]], (4617, .cells (.int .i64 (1048577) :: varsFrom .i64 5 2) 2 (0, 0) (some 1)) :: hgD0, ⟨true, (.lit (255)), (.var 5), true⟩ :: ⟨true, (.var 5), (.lit (0)), false⟩ :: bnds 5 2, 4680, .tuple [hgR1, .slice 4679 0 1 (some 1) 0, .bool true], hgO1 [(4679, some (.cells [.int .i64 (2), .int .i64 (0), .int .i64 (16), .int .i64 (0), .slice 4678 0 2 (some 2) 0, .str [], .nilslice] 93 (0, 0) none)), (4678, some (.cells [.int .i64 (0), .int .i64 (37)] 2 (0, 0) none))]⟩
theorem hgM0_2_1_0_0_chk : dChk hgM0_2_1_0_0 = true := by kernel_rfl
noncomputable def hgM0_2_2_0_0 : Memo := ⟨4619, [hgV0, .int .i64 (2), .agg [.int .i64 (37), .slice 4617 0 3 none 0, .str [], .nilslice]], (4617, .cells (.int .i64 (1048577) :: varsFrom .i64 5 2) 2 (0, 0) (some 1)) :: hgD0, ⟨true, (.var 6), (.lit (0)), true⟩ :: ⟨true, (.lit (255)), (.var 5), false⟩ :: ⟨true, (.var 5), (.lit (0)), false⟩ :: bnds 5 2, 4690, .tuple [hgR1, .slice 4689 0 1 (some 1) 0, .bool true], hgO1 [(4689, some (.cells [.int .i64 (2), .int .i64 (0), .int .i64 (16), .int .i64 (0), .slice 4688 0 2 (some 2) 0, .str [], .nilslice] 93 (0, 0) none)), (4688, some (.cells [.int .i64 (0), .int .i64 (37)] 2 (0, 0) none))]⟩
theorem hgM0_2_2_0_0_chk : dChk hgM0_2_2_0_0 = true := by kernel_rfl
noncomputable def hgM0_2_3_0_0 : Memo := ⟨4619, [hgV0, .int .i64 (2), .agg [.int .i64 (37), .slice 4617 0 3 none 0, .str [], .nilslice]], (4617, .cells (.int .i64 (1048577) :: varsFrom .i64 5 2) 2 (0, 0) (some 1)) :: hgD0, ⟨true, (.lit (4294967295)), (.var 6), true⟩ :: ⟨true, (.var 6), (.lit (0)), false⟩ :: ⟨true, (.lit (255)), (.var 5), false⟩ :: ⟨true, (.var 5), (.lit (0)), false⟩ :: bnds 5 2, 4690, .tuple [hgR1, .slice 4689 0 1 (some 1) 0, .bool true], hgO1 [(4689, some (.cells [.int .i64 (2), .int .i64 (0), .int .i64 (16), .int .i64 (0), .slice 4688 0 2 (some 2) 0, .str [], .nilslice] 93 (0, 0) none)), (4688, some (.cells [.int .i64 (0), .int .i64 (37)] 2 (0, 0) none))]⟩
theorem hgM0_2_3_0_0_chk : dChk hgM0_2_3_0_0 = true := by kernel_rfl
noncomputable def hgM0_2_4_0_1 : Memo := ⟨4619, [hgV0, .int .i64 (2), .agg [.int .i64 (37), .slice 4617 0 3 none 0, .str [], .nilslice]], (4617, .cells (.int .i64 (1048577) :: varsFrom .i64 5 2) 2 (0, 0) (some 1)) :: hgD1, ⟨true, (.lit (4294967295)), (.var 6), false⟩ :: ⟨true, (.var 6), (.lit (0)), false⟩ :: ⟨true, (.lit (255)), (.var 5), false⟩ :: ⟨true, (.var 5), (.lit (0)), false⟩ :: bnds 5 2, 4811, .tuple [hgR1, .slice 4810 0 1 (some 1) 0, .bool true], hgO1 [(4810, some (.cells [.int .i64 (2), .int .i64 (0), .int .i64 (10), .int .i64 (0), .slice 4809 0 2 (some 2) 0, .str [], .nilslice] 93 (0, 0) none)), (4809, some (.cells [.int .i64 (1048577), .int .i64 (37)] 2 (0, 0) none))]⟩
theorem hgM0_2_4_0_1_chk : dChk hgM0_2_4_0_1 = true := by kernel_rfl
noncomputable def hgM0_2_0_1_0 : Memo := ⟨4619, [hgV1, .int .i64 (2), .agg [.int .i64 (37), .slice 4617 0 3 none 0, .str [], .nilslice]], (4617, .cells (.int .i64 (1048577) :: varsFrom .i64 5 2) 2 (0, 0) (some 1)) :: hgD0, ⟨true, (.var 5), (.lit (0)), true⟩ :: bnds 5 2, 4680, .tuple [hgR3, .slice 4679 0 1 (some 1) 0, .bool true], hgO1 [(4679, some (.cells [.int .i64 (2), .int .i64 (0), .int .i64 (16), .int .i64 (0), .slice 4678 0 2 (some 2) 0, .str [], .nilslice] 93 (0, 0) none)), (4678, some (.cells [.int .i64 (0), .int .i64 (37)] 2 (0, 0) none))]⟩
theorem hgM0_2_0_1_0_chk : dChk hgM0_2_0_1_0 = true := by kernel_rfl
noncomputable def hgM0_2_1_1_0 : Memo := ⟨4619, [hgV1, .int .i64 (2), .agg [.int .i64 (37), .slice 4617 0 3 none 0, .str [], .nilslice]], (4617, .cells (.int .i64 (1048577) :: varsFrom .i64 5 2) 2 (0, 0) (some 1)) :: hgD0, ⟨true, (.lit (255)), (.var 5), true⟩ :: ⟨true, (.var 5), (.lit (0)), false⟩ :: bnds 5 2, 4680, .tuple [hgR3, .slice 4679 0 1 (some 1) 0, .bool true], hgO1 [(4679, some (.cells [.int .i64 (2), .int .i64 (0), .int .i64 (16), .int .i64 (0), .slice 4678 0 2 (some 2) 0, .str [], .nilslice] 93 (0, 0) none)), (4678, some (.cells [.int .i64 (0), .int .i64 (37)] 2 (0, 0) none))]⟩
theorem hgM0_2_1_1_0_chk : dChk hgM0_2_1_1_0 = true := by kernel_rfl
noncomputable def hgM0_2_2_1_0 : Memo := ⟨4619, [hgV1, .int .i64 (2), .agg [.int .i64 (37), .slice 4617 0 3 none 0, .str [], .nilslice]], (4617, .cells (.int .i64 (1048577) :: varsFrom .i64 5 2) 2 (0, 0) (some 1)) :: hgD0, ⟨true, (.var 6), (.lit (0)), true⟩ :: ⟨true, (.lit (255)), (.var 5), false⟩ :: ⟨true, (.var 5), (.lit (0)), false⟩ :: bnds 5 2, 4690, .tuple [hgR3, .slice 4689 0 1 (some 1) 0, .bool true], hgO1 [(4689, some (.cells [.int .i64 (2), .int .i64 (0), .int .i64 (16), .int .i64 (0), .slice 4688 0 2 (some 2) 0, .str [], .nilslice] 93 (0, 0) none)), (4688, some (.cells [.int .i64 (0), .int .i64 (37)] 2 (0, 0) none))]⟩
theorem hgM0_2_2_1_0_chk : dChk hgM0_2_2_1_0 = true := by kernel_rfl
noncomputable def hgM0_2_3_1_0 : Memo := ⟨4619, [hgV1, .int .i64 (2), .agg [.int .i64 (37), .slice 4617 0 3 none 0, .str [], .nilslice]], (4617, .cells (.int .i64 (1048577) :: varsFrom .i64 5 2) 2 (0, 0) (some 1)) :: hgD0, ⟨true, (.lit (4294967295)), (.var 6), true⟩ :: ⟨true, (.var 6), (.lit (0)), false⟩ :: ⟨true, (.lit (255)), (.var 5), false⟩ :: ⟨true, (.var 5), (.lit (0)), false⟩ :: bnds 5 2, 4690, .tuple [hgR3, .slice 4689 0 1 (some 1) 0, .bool true], hgO1 [(4689, some (.cells [.int .i64 (2), .int .i64 (0), .int .i64 (16), .int .i64 (0), .slice 4688 0 2 (some 2) 0, .str [], .nilslice] 93 (0, 0) none)), (4688, some (.cells [.int .i64 (0), .int .i64 (37)] 2 (0, 0) none))]⟩
theorem hgM0_2_3_1_0_chk : dChk hgM0_2_3_1_0 = true := by kernel_rfl
noncomputable def hgM0_2_4_1_1 : Memo := ⟨4619, [hgV1, .int .i64 (2), .agg [.int .i64 (37), .slice 4617 0 3 none 0, .str [], .nilslice]], (4617, .cells (.int .i64 (1048577) :: varsFrom .i64 5 2) 2 (0, 0) (some 1)) :: hgD1, ⟨true, (.lit (4294967295)), (.var 6), false⟩ :: ⟨true, (.var 6), (.lit (0)), false⟩ :: ⟨true, (.lit (255)), (.var 5), false⟩ :: ⟨true, (.var 5), (.lit (0)), false⟩ :: bnds 5 2, 4811, .tuple [hgR3, .slice 4810 0 1 (some 1) 0, .bool true], hgO1 [(4810, some (.cells [.int .i64 (2), .int .i64 (0), .int .i64 (10), .int .i64 (0), .slice 4809 0 2 (some 2) 0, .str [], .nilslice] 93 (0, 0) none)), (4809, some (.cells [.int .i64 (1048577), .int .i64 (37)] 2 (0, 0) none))]⟩
theorem hgM0_2_4_1_1_chk : dChk hgM0_2_4_1_1 = true := by kernel_rfl
noncomputable def hgM0_3_0_0_0 : Memo := ⟨4619, [hgV0, .int .i64 (2), .agg [.int .i64 (37), .slice 4617 0 4 none 0, .str [], .nilslice]], hgD0, bnds 5 3, 4660, .tuple [hgR1, .slice 4659 0 1 (some 1) 0, .bool true], hgO1 [(4659, some (.cells [.int .i64 (2), .int .i64 (0), .int .i64 (16), .int .i64 (0), .slice 4658 0 2 (some 2) 0, .str [], .nilslice] 93 (0, 0) none)), (4658, some (.cells [.int .i64 (0), .int .i64 (37)] 2 (0, 0) none))]⟩
theorem hgM0_3_0_0_0_chk : dChk hgM0_3_0_0_0 = true := by kernel_rfl
noncomputable def hgM0_3_0_1_0 : Memo := ⟨4619, [hgV1, .int .i64 (2), .agg [.int .i64 (37), .slice 4617 0 4 none 0, .str [], .nilslice]], hgD0, bnds 5 3, 4660, .tuple [hgR3, .slice 4659 0 1 (some 1) 0, .bool true], hgO1 [(4659, some (.cells [.int .i64 (2), .int .i64 (0), .int .i64 (16), .int .i64 (0), .slice 4658 0 2 (some 2) 0, .str [], .nilslice] 93 (0, 0) none)), (4658, some (.cells [.int .i64 (0), .int .i64 (37)] 2 (0, 0) none))]⟩
theorem hgM0_3_0_1_0_chk : dChk hgM0_3_0_1_0 = true := by kernel_rfl
noncomputable def hgM0_4_0_0_0 : Memo := ⟨4619, [hgV0, .int .i64 (2), .agg [.int .i64 (37), .slice 4617 0 5 none 0, .str [], .nilslice]], hgD0, bnds 5 4, 4660, .tuple [hgR1, .slice 4659 0 1 (some 1) 0, .bool true], hgO1 [(4659, some (.cells [.int .i64 (2), .int .i64 (0), .int .i64 (16), .int .i64 (0), .slice 4658 0 2 (some 2) 0, .str [], .nilslice] 93 (0, 0) none)), (4658, some (.cells [.int .i64 (0), .int .i64 (37)] 2 (0, 0) none))]⟩
theorem hgM0_4_0_0_0_chk : dChk hgM0_4_0_0_0 = true := by kernel_rfl
noncomputable def hgM0_4_0_1_0 : Memo := ⟨4619, [hgV1, .int .i64 (2), .agg [.int .i64 (37), .slice 4617 0 5 none 0, .str [], .nilslice]], hgD0, bnds 5 4, 4660, .tuple [hgR3, .slice 4659 0 1 (some 1) 0, .bool true], hgO1 [(4659, some (.cells [.int .i64 (2), .int .i64 (0), .int .i64 (16), .int .i64 (0), .slice 4658 0 2 (some 2) 0, .str [], .nilslice] 93 (0, 0) none)), (4658, some (.cells [.int .i64 (0), .int .i64 (37)] 2 (0, 0) none))]⟩
theorem hgM0_4_0_1_0_chk : dChk hgM0_4_0_1_0 = true := by kernel_rfl
noncomputable def hgM0_5_0_0_0 : Memo := ⟨4619, [hgV0, .int .i64 (2), .agg [.int .i64 (37), .slice 4617 0 6 none 0, .str [], .nilslice]], hgD0, bnds 5 5, 4660, .tuple [hgR1, .slice 4659 0 1 (some 1) 0, .bool true], hgO1 [(4659, some (.cells [.int .i64 (2), .int .i64 (0), .int .i64 (16), .int .i64 (0), .slice 4658 0 2 (some 2) 0, .str [], .nilslice] 93 (0, 0) none)), (4658, some (.cells [.int .i64 (0), .int .i64 (37)] 2 (0, 0) none))]⟩
theorem hgM0_5_0_0_0_chk : dChk hgM0_5_0_0_0 = true := by kernel_rfl
noncomputable def hgM0_5_0_1_0 : Memo := ⟨4619, [hgV1, .int .i64 (2), .agg [.int .i64 (37), .slice 4617 0 6 none 0, .str [], .nilslice]], hgD0, bnds 5 5, 4660, .tuple [hgR3, .slice 4659 0 1 (some 1) 0, .bool true], hgO1 [(4659, some (.cells [.int .i64 (2), .int .i64 (0), .int .i64 (16), .int .i64 (0), .slice 4658 0 2 (some 2) 0, .str [], .nilslice] 93 (0, 0) none)), (4658, some (.cells [.int .i64 (0), .int .i64 (37)] 2 (0, 0) none))]⟩
theorem hgM0_5_0_1_0_chk : dChk hgM0_5_0_1_0 = true := by kernel_rfl
noncomputable def hgM0_6_0_0_0 : Memo := ⟨4619, [hgV0, .int .i64 (2), .agg [.int .i64 (37), .slice 4617 0 7 none 0, .str [], .nilslice]], hgD0, bnds 5 6, 4660, .tuple [hgR1, .slice 4659 0 1 (some 1) 0, .bool true], hgO1 [(4659, some (.cells [.int .i64 (2), .int .i64 (0), .int .i64 (16), .int .i64 (0), .slice 4658 0 2 (some 2) 0, .str [], .nilslice] 93 (0, 0) none)), (4658, some (.cells [.int .i64 (0), .int .i64 (37)] 2 (0, 0) none))]⟩
theorem hgM0_6_0_0_0_chk : dChk hgM0_6_0_0_0 = true := by kernel_rfl
noncomputable def hgM0_6_0_1_0 : Memo := ⟨4619, [hgV1, .int .i64 (2), .agg [.int .i64 (37), .slice 4617 0 7 none 0, .str [], .nilslice]], hgD0, bnds 5 6, 4660, .tuple [hgR3, .slice 4659 0 1 (some 1) 0, .bool true], hgO1 [(4659, some (.cells [.int .i64 (2), .int .i64 (0), .int .i64 (16), .int .i64 (0), .slice 4658 0 2 (some 2) 0, .str [], .nilslice] 93 (0, 0) none)), (4658, some (.cells [.int .i64 (0), .int .i64 (37)] 2 (0, 0) none))]⟩
theorem hgM0_6_0_1_0_chk : dChk hgM0_6_0_1_0 = true := by kernel_rfl
noncomputable def hgM0_7_0_0_0 : Memo := ⟨4619, [hgV0, .int .i64 (2), .agg [.int .i64 (37), .slice 4617 0 8 none 0, .str [], .nilslice]], hgD0, bnds 5 7, 4660, .tuple [hgR1, .slice 4659 0 1 (some 1) 0, .bool true], hgO1 [(4659, some (.cells [.int .i64 (2), .int .i64 (0), .int .i64 (16), .int .i64 (0), .slice 4658 0 2 (some 2) 0, .str [], .nilslice] 93 (0, 0) none)), (4658, some (.cells [.int .i64 (0), .int .i64 (37)] 2 (0, 0) none))]⟩
theorem hgM0_7_0_0_0_chk : dChk hgM0_7_0_0_0 = true := by kernel_rfl
noncomputable def hgM0_7_0_1_0 : Memo := ⟨4619, [hgV1, .int .i64 (2), .agg [.int .i64 (37), .slice 4617 0 8 none 0, .str [], .nilslice]], hgD0, bnds 5 7, 4660, .tuple [hgR3, .slice 4659 0 1 (some 1) 0, .bool true], hgO1 [(4659, some (.cells [.int .i64 (2), .int .i64 (0), .int .i64 (16), .int .i64 (0), .slice 4658 0 2 (some 2) 0, .str [], .nilslice] 93 (0, 0) none)), (4658, some (.cells [.int .i64 (0), .int .i64 (37)] 2 (0, 0) none))]⟩
theorem hgM0_7_0_1_0_chk : dChk hgM0_7_0_1_0 = true := by kernel_rfl
noncomputable def hgM0_8_0_0_0 : Memo := ⟨4619, [hgV0, .int .i64 (2), .agg [.int .i64 (37), .slice 4617 0 9 none 0, .str [], .nilslice]], hgD0, bnds 5 8, 4660, .tuple [hgR1, .slice 4659 0 1 (some 1) 0, .bool true], hgO1 [(4659, some (.cells [.int .i64 (2), .int .i64 (0), .int .i64 (16), .int .i64 (0), .slice 4658 0 2 (some 2) 0, .str [], .nilslice] 93 (0, 0) none)), (4658, some (.cells [.int .i64 (0), .int .i64 (37)] 2 (0, 0) none))]⟩
theorem hgM0_8_0_0_0_chk : dChk hgM0_8_0_0_0 = true := by kernel_rfl
noncomputable def hgM0_8_0_1_0 : Memo := ⟨4619, [hgV1, .int .i64 (2), .agg [.int .i64 (37), .slice 4617 0 9 none 0, .str [], .nilslice]], hgD0, bnds 5 8, 4660, .tuple [hgR3, .slice 4659 0 1 (some 1) 0, .bool true], hgO1 [(4659, some (.cells [.int .i64 (2), .int .i64 (0), .int .i64 (16), .int .i64 (0), .slice 4658 0 2 (some 2) 0, .str [], .nilslice] 93 (0, 0) none)), (4658, some (.cells [.int .i64 (0), .int .i64 (37)] 2 (0, 0) none))]⟩
theorem hgM0_8_0_1_0_chk : dChk hgM0_8_0_1_0 = true := by kernel_rfl
noncomputable def hgM0_9_0_0_0 : Memo := ⟨4619, [hgV0, .int .i64 (2), .agg [.int .i64 (37), .slice 4617 0 10 none 0, .str [], .nilslice]], hgD0, bnds 5 9, 4660, .tuple [hgR1, .slice 4659 0 1 (some 1) 0, .bool true], hgO1 [(4659, some (.cells [.int .i64 (2), .int .i64 (0), .int .i64 (16), .int .i64 (0), .slice 4658 0 2 (some 2) 0, .str [], .nilslice] 93 (0, 0) none)), (4658, some (.cells [.int .i64 (0), .int .i64 (37)] 2 (0, 0) none))]⟩
theorem hgM0_9_0_0_0_chk : dChk hgM0_9_0_0_0 = true := by kernel_rfl
noncomputable def hgM0_9_0_1_0 : Memo := ⟨4619, [hgV1, .int .i64 (2), .agg [.int .i64 (37), .slice 4617 0 10 none 0, .str [], .nilslice]], hgD0, bnds 5 9, 4660, .tuple [hgR3, .slice 4659 0 1 (some 1) 0, .bool true], hgO1 [(4659, some (.cells [.int .i64 (2), .int .i64 (0), .int .i64 (16), .int .i64 (0), .slice 4658 0 2 (some 2) 0, .str [], .nilslice] 93 (0, 0) none)), (4658, some (.cells [.int .i64 (0), .int .i64 (37)] 2 (0, 0) none))]⟩
theorem hgM0_9_0_1_0_chk : dChk hgM0_9_0_1_0 = true := by kernel_rfl
noncomputable def hgM0_10_0_0_0 : Memo := ⟨4619, [hgV0, .int .i64 (2), .agg [.int .i64 (37), .slice 4617 0 11 none 0, .str [], .nilslice]], hgD0, bnds 5 10, 4660, .tuple [hgR1, .slice 4659 0 1 (some 1) 0, .bool true], hgO1 [(4659, some (.cells [.int .i64 (2), .int .i64 (0), .int .i64 (16), .int .i64 (0), .slice 4658 0 2 (some 2) 0, .str [], .nilslice] 93 (0, 0) none)), (4658, some (.cells [.int .i64 (0), .int .i64 (37)] 2 (0, 0) none))]⟩
theorem hgM0_10_0_0_0_chk : dChk hgM0_10_0_0_0 = true := by kernel_rfl
noncomputable def hgM0_10_0_1_0 : Memo := ⟨4619, [hgV1, .int .i64 (2), .agg [.int .i64 (37), .slice 4617 0 11 none 0, .str [], .nilslice]], hgD0, bnds 5 10, 4660, .tuple [hgR3, .slice 4659 0 1 (some 1) 0, .bool true], hgO1 [(4659, some (.cells [.int .i64 (2), .int .i64 (0), .int .i64 (16), .int .i64 (0), .slice 4658 0 2 (some 2) 0, .str [], .nilslice] 93 (0, 0) none)), (4658, some (.cells [.int .i64 (0), .int .i64 (37)] 2 (0, 0) none))]⟩
theorem hgM0_10_0_1_0_chk : dChk hgM0_10_0_1_0 = true := by kernel_rfl
noncomputable def hgM0_11_0_0_0 : Memo := ⟨4619, [hgV0, .int .i64 (2), .agg [.int .i64 (37), .slice 4617 0 12 none 0, .str [], .nilslice]], hgD0, bnds 5 11, 4660, .tuple [hgR1, .slice 4659 0 1 (some 1) 0, .bool true], hgO1 [(4659, some (.cells [.int .i64 (2), .int .i64 (0), .int .i64 (16), .int .i64 (0), .slice 4658 0 2 (some 2) 0, .str [], .nilslice] 93 (0, 0) none)), (4658, some (.cells [.int .i64 (0), .int .i64 (37)] 2 (0, 0) none))]⟩
theorem hgM0_11_0_0_0_chk : dChk hgM0_11_0_0_0 = true := by kernel_rfl
noncomputable def hgM0_11_0_1_0 : Memo := ⟨4619, [hgV1, .int .i64 (2), .agg [.int .i64 (37), .slice 4617 0 12 none 0, .str [], .nilslice]], hgD0, bnds 5 11, 4660, .tuple [hgR3, .slice 4659 0 1 (some 1) 0, .bool true], hgO1 [(4659, some (.cells [.int .i64 (2), .int .i64 (0), .int .i64 (16), .int .i64 (0), .slice 4658 0 2 (some 2) 0, .str [], .nilslice] 93 (0, 0) none)), (4658, some (.cells [.int .i64 (0), .int .i64 (37)] 2 (0, 0) none))]⟩
theorem hgM0_11_0_1_0_chk : dChk hgM0_11_0_1_0 = true := by kernel_rfl
noncomputable def hgM0_12_0_0_0 : Memo := ⟨4619, [hgV0, .int .i64 (2), .agg [.int .i64 (37), .slice 4617 0 13 none 0, .str [], .nilslice]], hgD0, bnds 5 12, 4660, .tuple [hgR1, .slice 4659 0 1 (some 1) 0, .bool true], hgO1 [(4659, some (.cells [.int .i64 (2), .int .i64 (0), .int .i64 (16), .int .i64 (0), .slice 4658 0 2 (some 2) 0, .str [], .nilslice] 93 (0, 0) none)), (4658, some (.cells [.int .i64 (0), .int .i64 (37)] 2 (0, 0) none))]⟩
theorem hgM0_12_0_0_0_chk : dChk hgM0_12_0_0_0 = true := by kernel_rfl
noncomputable def hgM0_12_0_1_0 : Memo := ⟨4619, [hgV1, .int .i64 (2), .agg [.int .i64 (37), .slice 4617 0 13 none 0, .str [], .nilslice]], hgD0, bnds 5 12, 4660, .tuple [hgR3, .slice 4659 0 1 (some 1) 0, .bool true], hgO1 [(4659, some (.cells [.int .i64 (2), .int .i64 (0), .int .i64 (16), .int .i64 (0), .slice 4658 0 2 (some 2) 0, .str [], .nilslice] 93 (0, 0) none)), (4658, some (.cells [.int .i64 (0), .int .i64 (37)] 2 (0, 0) none))]⟩
theorem hgM0_12_0_1_0_chk : dChk hgM0_12_0_1_0 = true := by kernel_rfl
noncomputable def hgM0_13_0_0_0 : Memo := ⟨4619, [hgV0, .int .i64 (2), .agg [.int .i64 (37), .slice 4617 0 14 none 0, .str [], .nilslice]], hgD0, bnds 5 13, 4660, .tuple [hgR1, .slice 4659 0 1 (some 1) 0, .bool true], hgO1 [(4659, some (.cells [.int .i64 (2), .int .i64 (0), .int .i64 (16), .int .i64 (0), .slice 4658 0 2 (some 2) 0, .str [], .nilslice] 93 (0, 0) none)), (4658, some (.cells [.int .i64 (0), .int .i64 (37)] 2 (0, 0) none))]⟩
theorem hgM0_13_0_0_0_chk : dChk hgM0_13_0_0_0 = true := by kernel_rfl
noncomputable def hgM0_13_0_1_0 : Memo := ⟨4619, [hgV1, .int .i64 (2), .agg [.int .i64 (37), .slice 4617 0 14 none 0, .str [], .nilslice]], hgD0, bnds 5 13, 4660, .tuple [hgR3, .slice 4659 0 1 (some 1) 0, .bool true], hgO1 [(4659, some (.cells [.int .i64 (2), .int .i64 (0), .int .i64 (16), .int .i64 (0), .slice 4658 0 2 (some 2) 0, .str [], .nilslice] 93 (0, 0) none)), (4658, some (.cells [.int .i64 (0), .int .i64 (37)] 2 (0, 0) none))]⟩
theorem hgM0_13_0_1_0_chk : dChk hgM0_13_0_1_0 = true := by kernel_rfl
noncomputable def hgM0_14_0_0_0 : Memo := ⟨4619, [hgV0, .int .i64 (2), .agg [.int .i64 (37), .slice 4617 0 15 none 0, .str [], .nilslice]], hgD0, bnds 5 14, 4660, .tuple [hgR1, .slice 4659 0 1 (some 1) 0, .bool true], hgO1 [(4659, some (.cells [.int .i64 (2), .int .i64 (0), .int .i64 (16), .int .i64 (0), .slice 4658 0 2 (some 2) 0, .str [], .nilslice] 93 (0, 0) none)), (4658, some (.cells [.int .i64 (0), .int .i64 (37)] 2 (0, 0) none))]⟩
theorem hgM0_14_0_0_0_chk : dChk hgM0_14_0_0_0 = true := by kernel_rfl
noncomputable def hgM0_14_0_1_0 : Memo := ⟨4619, [hgV1, .int .i64 (2), .agg [.int .i64 (37), .slice 4617 0 15 none 0, .str [], .nilslice]], hgD0, bnds 5 14, 4660, .tuple [hgR3, .slice 4659 0 1 (some 1) 0, .bool true], hgO1 [(4659, some (.cells [.int .i64 (2), .int .i64 (0), .int .i64 (16), .int .i64 (0), .slice 4658 0 2 (some 2) 0, .str [], .nilslice] 93 (0, 0) none)), (4658, some (.cells [.int .i64 (0), .int .i64 (37)] 2 (0, 0) none))]⟩
theorem hgM0_14_0_1_0_chk : dChk hgM0_14_0_1_0 = true := by kernel_rfl
noncomputable def hgM0_15_0_0_0 : Memo := ⟨4619, [hgV0, .int .i64 (2), .agg [.int .i64 (37), .slice 4617 0 16 none 0, .str [], .nilslice]], hgD0, bnds 5 15, 4660, .tuple [hgR1, .slice 4659 0 1 (some 1) 0, .bool true], hgO1 [(4659, some (.cells [.int .i64 (2), .int .i64 (0), .int .i64 (16), .int .i64 (0), .slice 4658 0 2 (some 2) 0, .str [], .nilslice] 93 (0, 0) none)), (4658, some (.cells [.int .i64 (0), .int .i64 (37)] 2 (0, 0) none))]⟩
theorem hgM0_15_0_0_0_chk : dChk hgM0_15_0_0_0 = true := by kernel_rfl
noncomputable def hgM0_15_0_1_0 : Memo := ⟨4619, [hgV1, .int .i64 (2), .agg [.int .i64 (37), .slice 4617 0 16 none 0, .str [], .nilslice]], hgD0, bnds 5 15, 4660, .tuple [hgR3, .slice 4659 0 1 (some 1) 0, .bool true], hgO1 [(4659, some (.cells [.int .i64 (2), .int .i64 (0), .int .i64 (16), .int .i64 (0), .slice 4658 0 2 (some 2) 0, .str [], .nilslice] 93 (0, 0) none)), (4658, some (.cells [.int .i64 (0), .int .i64 (37)] 2 (0, 0) none))]⟩
theorem hgM0_15_0_1_0_chk : dChk hgM0_15_0_1_0 = true := by kernel_rfl
noncomputable def hgM0_16_0_0_0 : Memo := ⟨4619, [hgV0, .int .i64 (2), .agg [.int .i64 (37), .slice 4617 0 17 none 0, .str [], .nilslice]], hgD0, bnds 5 16, 4660, .tuple [hgR1, .slice 4659 0 1 (some 1) 0, .bool true], hgO1 [(4659, some (.cells [.int .i64 (2), .int .i64 (0), .int .i64 (16), .int .i64 (0), .slice 4658 0 2 (some 2) 0, .str [], .nilslice] 93 (0, 0) none)), (4658, some (.cells [.int .i64 (0), .int .i64 (37)] 2 (0, 0) none))]⟩
theorem hgM0_16_0_0_0_chk : dChk hgM0_16_0_0_0 = true := by kernel_rfl
noncomputable def hgM0_16_0_1_0 : Memo := ⟨4619, [hgV1, .int .i64 (2), .agg [.int .i64 (37), .slice 4617 0 17 none 0, .str [], .nilslice]], hgD0, bnds 5 16, 4660, .tuple [hgR3, .slice 4659 0 1 (some 1) 0, .bool true], hgO1 [(4659, some (.cells [.int .i64 (2), .int .i64 (0), .int .i64 (16), .int .i64 (0), .slice 4658 0 2 (some 2) 0, .str [], .nilslice] 93 (0, 0) none)), (4658, some (.cells [.int .i64 (0), .int .i64 (37)] 2 (0, 0) none))]⟩
theorem hgM0_16_0_1_0_chk : dChk hgM0_16_0_1_0 = true := by kernel_rfl
noncomputable def hgM0_17_0_0_0 : Memo := ⟨4619, [hgV0, .int .i64 (2), .agg [.int .i64 (37), .slice 4617 0 18 none 0, .str [], .nilslice]], hgD0, bnds 5 17, 4660, .tuple [hgR1, .slice 4659 0 1 (some 1) 0, .bool true], hgO1 [(4659, some (.cells [.int .i64 (2), .int .i64 (0), .int .i64 (16), .int .i64 (0), .slice 4658 0 2 (some 2) 0, .str [], .nilslice] 93 (0, 0) none)), (4658, some (.cells [.int .i64 (0), .int .i64 (37)] 2 (0, 0) none))]⟩
theorem hgM0_17_0_0_0_chk : dChk hgM0_17_0_0_0 = true := by kernel_rfl
noncomputable def hgM0_17_0_1_0 : Memo := ⟨4619, [hgV1, .int .i64 (2), .agg [.int .i64 (37), .slice 4617 0 18 none 0, .str [], .nilslice]], hgD0, bnds 5 17, 4660, .tuple [hgR3, .slice 4659 0 1 (some 1) 0, .bool true], hgO1 [(4659, some (.cells [.int .i64 (2), .int .i64 (0), .int .i64 (16), .int .i64 (0), .slice 4658 0 2 (some 2) 0, .str [], .nilslice] 93 (0, 0) none)), (4658, some (.cells [.int .i64 (0), .int .i64 (37)] 2 (0, 0) none))]⟩
theorem hgM0_17_0_1_0_chk : dChk hgM0_17_0_1_0 = true := by kernel_rfl
noncomputable def hgM0_18_0_0_0 : Memo := ⟨4619, [hgV0, .int .i64 (2), .agg [.int .i64 (37), .slice 4617 0 19 none 0, .str [], .nilslice]], hgD0, bnds 5 18, 4660, .tuple [hgR1, .slice 4659 0 1 (some 1) 0, .bool true], hgO1 [(4659, some (.cells [.int .i64 (2), .int .i64 (0), .int .i64 (16), .int .i64 (0), .slice 4658 0 2 (some 2) 0, .str [], .nilslice] 93 (0, 0) none)), (4658, some (.cells [.int .i64 (0), .int .i64 (37)] 2 (0, 0) none))]⟩
theorem hgM0_18_0_0_0_chk : dChk hgM0_18_0_0_0 = true := by kernel_rfl
noncomputable def hgM0_18_0_1_0 : Memo := ⟨4619, [hgV1, .int .i64 (2), .agg [.int .i64 (37), .slice 4617 0 19 none 0, .str [], .nilslice]], hgD0, bnds 5 18, 4660, .tuple [hgR3, .slice 4659 0 1 (some 1) 0, .bool true], hgO1 [(4659, some (.cells [.int .i64 (2), .int .i64 (0), .int .i64 (16), .int .i64 (0), .slice 4658 0 2 (some 2) 0, .str [], .nilslice] 93 (0, 0) none)), (4658, some (.cells [.int .i64 (0), .int .i64 (37)] 2 (0, 0) none))]⟩
theorem hgM0_18_0_1_0_chk : dChk hgM0_18_0_1_0 = true := by kernel_rfl
noncomputable def hgM0_19_0_0_0 : Memo := ⟨4619, [hgV0, .int .i64 (2), .agg [.int .i64 (37), .slice 4617 0 20 none 0, .str [], .nilslice]], hgD0, bnds 5 19, 4660, .tuple [hgR1, .slice 4659 0 1 (some 1) 0, .bool true], hgO1 [(4659, some (.cells [.int .i64 (2), .int .i64 (0), .int .i64 (16), .int .i64 (0), .slice 4658 0 2 (some 2) 0, .str [], .nilslice] 93 (0, 0) none)), (4658, some (.cells [.int .i64 (0), .int .i64 (37)] 2 (0, 0) none))]⟩
theorem hgM0_19_0_0_0_chk : dChk hgM0_19_0_0_0 = true := by kernel_rfl
noncomputable def hgM0_19_0_1_0 : Memo := ⟨4619, [hgV1, .int .i64 (2), .agg [.int .i64 (37), .slice 4617 0 20 none 0, .str [], .nilslice]], hgD0, bnds 5 19, 4660, .tuple [hgR3, .slice 4659 0 1 (some 1) 0, .bool true], hgO1 [(4659, some (.cells [.int .i64 (2), .int .i64 (0), .int .i64 (16), .int .i64 (0), .slice 4658 0 2 (some 2) 0, .str [], .nilslice] 93 (0, 0) none)), (4658, some (.cells [.int .i64 (0), .int .i64 (37)] 2 (0, 0) none))]⟩
theorem hgM0_19_0_1_0_chk : dChk hgM0_19_0_1_0 = true := by kernel_rfl
noncomputable def hgM0_20_0_0_0 : Memo := ⟨4619, [hgV0, .int .i64 (2), .agg [.int .i64 (37), .slice 4617 0 21 none 0, .str [], .nilslice]], hgD0, bnds 5 20, 4660, .tuple [hgR1, .slice 4659 0 1 (some 1) 0, .bool true], hgO1 [(4659, some (.cells [.int .i64 (2), .int .i64 (0), .int .i64 (16), .int .i64 (0), .slice 4658 0 2 (some 2) 0, .str [], .nilslice] 93 (0, 0) none)), (4658, some (.cells [.int .i64 (0), .int .i64 (37)] 2 (0, 0) none))]⟩
theorem hgM0_20_0_0_0_chk : dChk hgM0_20_0_0_0 = true := by kernel_rfl
noncomputable def hgM0_20_0_1_0 : Memo := ⟨4619, [hgV1, .int .i64 (2), .agg [.int .i64 (37), .slice 4617 0 21 none 0, .str [], .nilslice]], hgD0, bnds 5 20, 4660, .tuple [hgR3, .slice 4659 0 1 (some 1) 0, .bool true], hgO1 [(4659, some (.cells [.int .i64 (2), .int .i64 (0), .int .i64 (16), .int .i64 (0), .slice 4658 0 2 (some 2) 0, .str [], .nilslice] 93 (0, 0) none)), (4658, some (.cells [.int .i64 (0), .int .i64 (37)] 2 (0, 0) none))]⟩
theorem hgM0_20_0_1_0_chk : dChk hgM0_20_0_1_0 = true := by kernel_rfl
noncomputable def hgL0_0 : List HgK := [⟨1, .leaf, [hgM0_1_0_0_0], [hgK0_1_0]⟩,
  ⟨2, (.lt (.var 5) (.lit (0)) .leaf (.lt (.lit (255)) (.var 5) .leaf (.lt (.var 6) (.lit (0)) .leaf (.lt (.lit (4294967295)) (.var 6) .leaf .leaf)))), [hgM0_2_0_0_0, hgM0_2_1_0_0, hgM0_2_2_0_0, hgM0_2_3_0_0, hgM0_2_4_0_1], [hgK0_2_0, hgK0_2_1, hgK0_2_2, hgK0_2_3, hgK0_2_4]⟩,
  ⟨3, .leaf, [hgM0_3_0_0_0], [hgK0_3_0]⟩,
  ⟨4, .leaf, [hgM0_4_0_0_0], [hgK0_4_0]⟩,
  ⟨5, .leaf, [hgM0_5_0_0_0], [hgK0_5_0]⟩,
  ⟨6, .leaf, [hgM0_6_0_0_0], [hgK0_6_0]⟩,
  ⟨7, .leaf, [hgM0_7_0_0_0], [hgK0_7_0]⟩,
  ⟨8, .leaf, [hgM0_8_0_0_0], [hgK0_8_0]⟩,
  ⟨9, .leaf, [hgM0_9_0_0_0], [hgK0_9_0]⟩,
  ⟨10, .leaf, [hgM0_10_0_0_0], [hgK0_10_0]⟩,
  ⟨11, .leaf, [hgM0_11_0_0_0], [hgK0_11_0]⟩,
  ⟨12, .leaf, [hgM0_12_0_0_0], [hgK0_12_0]⟩,
  ⟨13, .leaf, [hgM0_13_0_0_0], [hgK0_13_0]⟩,
  ⟨14, .leaf, [hgM0_14_0_0_0], [hgK0_14_0]⟩,
  ⟨15, .leaf, [hgM0_15_0_0_0], [hgK0_15_0]⟩,
  ⟨16, .leaf, [hgM0_16_0_0_0], [hgK0_16_0]⟩,
  ⟨17, .leaf, [hgM0_17_0_0_0], [hgK0_17_0]⟩,
  ⟨18, .leaf, [hgM0_18_0_0_0], [hgK0_18_0]⟩,
  ⟨19, .leaf, [hgM0_19_0_0_0], [hgK0_19_0]⟩,
  ⟨20, .leaf, [hgM0_20_0_0_0], [hgK0_20_0]⟩]
theorem hgL0_0_ok : ∀ x ∈ hgL0_0, ∀ M ∈ x.dm, dChk M = true := (lCons (dCons hgM0_1_0_0_0_chk dNil) (lCons (dCons hgM0_2_0_0_0_chk (dCons hgM0_2_1_0_0_chk (dCons hgM0_2_2_0_0_chk (dCons hgM0_2_3_0_0_chk (dCons hgM0_2_4_0_1_chk dNil))))) (lCons (dCons hgM0_3_0_0_0_chk dNil) (lCons (dCons hgM0_4_0_0_0_chk dNil) (lCons (dCons hgM0_5_0_0_0_chk dNil) (lCons (dCons hgM0_6_0_0_0_chk dNil) (lCons (dCons hgM0_7_0_0_0_chk dNil) (lCons (dCons hgM0_8_0_0_0_chk dNil) (lCons (dCons hgM0_9_0_0_0_chk dNil) (lCons (dCons hgM0_10_0_0_0_chk dNil) (lCons (dCons hgM0_11_0_0_0_chk dNil) (lCons (dCons hgM0_12_0_0_0_chk dNil) (lCons (dCons hgM0_13_0_0_0_chk dNil) (lCons (dCons hgM0_14_0_0_0_chk dNil) (lCons (dCons hgM0_15_0_0_0_chk dNil) (lCons (dCons hgM0_16_0_0_0_chk dNil) (lCons (dCons hgM0_17_0_0_0_chk dNil) (lCons (dCons hgM0_18_0_0_0_chk dNil) (lCons (dCons hgM0_19_0_0_0_chk dNil) (lCons (dCons hgM0_20_0_0_0_chk dNil) lNil))))))))))))))))))))
theorem hgL0_0_ko : ∀ x ∈ hgL0_0, ∀ M ∈ x.km, kChk M = true := (lCons (dCons hgK0_1_0_chk dNil) (lCons (dCons hgK0_2_0_chk (dCons hgK0_2_1_chk (dCons hgK0_2_2_chk (dCons hgK0_2_3_chk (dCons hgK0_2_4_chk dNil))))) (lCons (dCons hgK0_3_0_chk dNil) (lCons (dCons hgK0_4_0_chk dNil) (lCons (dCons hgK0_5_0_chk dNil) (lCons (dCons hgK0_6_0_chk dNil) (lCons (dCons hgK0_7_0_chk dNil) (lCons (dCons hgK0_8_0_chk dNil) (lCons (dCons hgK0_9_0_chk dNil) (lCons (dCons hgK0_10_0_chk dNil) (lCons (dCons hgK0_11_0_chk dNil) (lCons (dCons hgK0_12_0_chk dNil) (lCons (dCons hgK0_13_0_chk dNil) (lCons (dCons hgK0_14_0_chk dNil) (lCons (dCons hgK0_15_0_chk dNil) (lCons (dCons hgK0_16_0_chk dNil) (lCons (dCons hgK0_17_0_chk dNil) (lCons (dCons hgK0_18_0_chk dNil) (lCons (dCons hgK0_19_0_chk dNil) (lCons (dCons hgK0_20_0_chk dNil) lNil))))))))))))))))))))
noncomputable def hgL0_1 : List HgK := [⟨1, .leaf, [hgM0_1_0_1_0], [hgK0_1_0]⟩,
  ⟨2, (.lt (.var 5) (.lit (0)) .leaf (.lt (.lit (255)) (.var 5) .leaf (.lt (.var 6) (.lit (0)) .leaf (.lt (.lit (4294967295)) (.var 6) .leaf .leaf)))), [hgM0_2_0_1_0, hgM0_2_1_1_0, hgM0_2_2_1_0, hgM0_2_3_1_0, hgM0_2_4_1_1], [hgK0_2_0, hgK0_2_1, hgK0_2_2, hgK0_2_3, hgK0_2_4]⟩,
  ⟨3, .leaf, [hgM0_3_0_1_0], [hgK0_3_0]⟩,
  ⟨4, .leaf, [hgM0_4_0_1_0], [hgK0_4_0]⟩,
  ⟨5, .leaf, [hgM0_5_0_1_0], [hgK0_5_0]⟩,
  ⟨6, .leaf, [hgM0_6_0_1_0], [hgK0_6_0]⟩,
  ⟨7, .leaf, [hgM0_7_0_1_0], [hgK0_7_0]⟩,
  ⟨8, .leaf, [hgM0_8_0_1_0], [hgK0_8_0]⟩,
  ⟨9, .leaf, [hgM0_9_0_1_0], [hgK0_9_0]⟩,
  ⟨10, .leaf, [hgM0_10_0_1_0], [hgK0_10_0]⟩,
  ⟨11, .leaf, [hgM0_11_0_1_0], [hgK0_11_0]⟩,
  ⟨12, .leaf, [hgM0_12_0_1_0], [hgK0_12_0]⟩,
  ⟨13, .leaf, [hgM0_13_0_1_0], [hgK0_13_0]⟩,
  ⟨14, .leaf, [hgM0_14_0_1_0], [hgK0_14_0]⟩,
  ⟨15, .leaf, [hgM0_15_0_1_0], [hgK0_15_0]⟩,
  ⟨16, .leaf, [hgM0_16_0_1_0], [hgK0_16_0]⟩,
  ⟨17, .leaf, [hgM0_17_0_1_0], [hgK0_17_0]⟩,
  ⟨18, .leaf, [hgM0_18_0_1_0], [hgK0_18_0]⟩,
  ⟨19, .leaf, [hgM0_19_0_1_0], [hgK0_19_0]⟩,
  ⟨20, .leaf, [hgM0_20_0_1_0], [hgK0_20_0]⟩]
theorem hgL0_1_ok : ∀ x ∈ hgL0_1, ∀ M ∈ x.dm, dChk M = true := (lCons (dCons hgM0_1_0_1_0_chk dNil) (lCons (dCons hgM0_2_0_1_0_chk (dCons hgM0_2_1_1_0_chk (dCons hgM0_2_2_1_0_chk (dCons hgM0_2_3_1_0_chk (dCons hgM0_2_4_1_1_chk dNil))))) (lCons (dCons hgM0_3_0_1_0_chk dNil) (lCons (dCons hgM0_4_0_1_0_chk dNil) (lCons (dCons hgM0_5_0_1_0_chk dNil) (lCons (dCons hgM0_6_0_1_0_chk dNil) (lCons (dCons hgM0_7_0_1_0_chk dNil) (lCons (dCons hgM0_8_0_1_0_chk dNil) (lCons (dCons hgM0_9_0_1_0_chk dNil) (lCons (dCons hgM0_10_0_1_0_chk dNil) (lCons (dCons hgM0_11_0_1_0_chk dNil) (lCons (dCons hgM0_12_0_1_0_chk dNil) (lCons (dCons hgM0_13_0_1_0_chk dNil) (lCons (dCons hgM0_14_0_1_0_chk dNil) (lCons (dCons hgM0_15_0_1_0_chk dNil) (lCons (dCons hgM0_16_0_1_0_chk dNil) (lCons (dCons hgM0_17_0_1_0_chk dNil) (lCons (dCons hgM0_18_0_1_0_chk dNil) (lCons (dCons hgM0_19_0_1_0_chk dNil) (lCons (dCons hgM0_20_0_1_0_chk dNil) lNil))))))))))))))))))))
theorem hgL0_1_ko : ∀ x ∈ hgL0_1, ∀ M ∈ x.km, kChk M = true := (lCons (dCons hgK0_1_0_chk dNil) (lCons (dCons hgK0_2_0_chk (dCons hgK0_2_1_chk (dCons hgK0_2_2_chk (dCons hgK0_2_3_chk (dCons hgK0_2_4_chk dNil))))) (lCons (dCons hgK0_3_0_chk dNil) (lCons (dCons hgK0_4_0_chk dNil) (lCons (dCons hgK0_5_0_chk dNil) (lCons (dCons hgK0_6_0_chk dNil) (lCons (dCons hgK0_7_0_chk dNil) (lCons (dCons hgK0_8_0_chk dNil) (lCons (dCons hgK0_9_0_chk dNil) (lCons (dCons hgK0_10_0_chk dNil) (lCons (dCons hgK0_11_0_chk dNil) (lCons (dCons hgK0_12_0_chk dNil) (lCons (dCons hgK0_13_0_chk dNil) (lCons (dCons hgK0_14_0_chk dNil) (lCons (dCons hgK0_15_0_chk dNil) (lCons (dCons hgK0_16_0_chk dNil) (lCons (dCons hgK0_17_0_chk dNil) (lCons (dCons hgK0_18_0_chk dNil) (lCons (dCons hgK0_19_0_chk dNil) (lCons (dCons hgK0_20_0_chk dNil) lNil))))))))))))))))))))
end Ev
end Go.Proofs.YtanapnlfdoebdaaGreatDoor
