/-
  HandsGranted: leaves, part 2.
-/
import Derived.Test.YtanapnlfdoebdaaGreatDoorHf
import Derived.Test.YtanapnlfdoebdaaGreatDoorHgD2
import Derived.KernelRfl
namespace Go.Proofs.YtanapnlfdoebdaaGreatDoor
namespace Ev
open Go.RowKit
theorem hgR2_0 : hgRow [hgP0] [hgX0, hgY1_0] 2 (appF hgF0 hgB2) hgL2_0 = true := by kernel_rfl
theorem hgN2_0 : hgN [hgP0] [hgX0, hgY0_0] [hgM2_0_0_0_0] [hgK2_0_0] 2 .nilslice (appF hgF0 hgB2) = true := by kernel_rfl
theorem hgE2_0 : hgN [hgP0] [hgX0, hgY0_0] [hgM2_0_0_0_0] [hgK2_0_0] 2 .eslice (appF hgF0 hgB2) = true := by kernel_rfl
theorem hgR2_1 : hgRow [hgP1] [hgX0, hgY1_0] 2 (appF hgF1 hgB2) hgL2_0 = true := by kernel_rfl
theorem hgN2_1 : hgN [hgP1] [hgX0, hgY0_0] [hgM2_0_0_0_0] [hgK2_0_0] 2 .nilslice (appF hgF1 hgB2) = true := by kernel_rfl
theorem hgE2_1 : hgN [hgP1] [hgX0, hgY0_0] [hgM2_0_0_0_0] [hgK2_0_0] 2 .eslice (appF hgF1 hgB2) = true := by kernel_rfl
theorem hgR2_2 : hgRow [hgP2] [hgX0, hgY1_0] 2 (appF hgF2 hgB2) hgL2_0 = true := by kernel_rfl
theorem hgN2_2 : hgN [hgP2] [hgX0, hgY0_0] [hgM2_0_0_0_0] [hgK2_0_0] 2 .nilslice (appF hgF2 hgB2) = true := by kernel_rfl
theorem hgE2_2 : hgN [hgP2] [hgX0, hgY0_0] [hgM2_0_0_0_0] [hgK2_0_0] 2 .eslice (appF hgF2 hgB2) = true := by kernel_rfl
theorem hgR2_3 : hgRow [hgP3] [hgX1, hgY1_1] 2 (appF hgF3 hgB2) hgL2_0 = true := by kernel_rfl
theorem hgN2_3 : hgN [hgP3] [hgX1, hgY0_1] [hgM2_0_0_0_0] [hgK2_0_0] 2 .nilslice (appF hgF3 hgB2) = true := by kernel_rfl
theorem hgE2_3 : hgN [hgP3] [hgX1, hgY0_1] [hgM2_0_0_0_0] [hgK2_0_0] 2 .eslice (appF hgF3 hgB2) = true := by kernel_rfl
theorem hgR2_4 : hgRow [hgP4] [hgX1, hgY1_1] 2 (appF hgF4 hgB2) hgL2_0 = true := by kernel_rfl
theorem hgN2_4 : hgN [hgP4] [hgX1, hgY0_1] [hgM2_0_0_0_0] [hgK2_0_0] 2 .nilslice (appF hgF4 hgB2) = true := by kernel_rfl
theorem hgE2_4 : hgN [hgP4] [hgX1, hgY0_1] [hgM2_0_0_0_0] [hgK2_0_0] 2 .eslice (appF hgF4 hgB2) = true := by kernel_rfl
theorem hgR2_5 : hgRow [hgP5] [hgX2, hgY1_2] 2 (appF hgF5 hgB2) hgL2_1 = true := by kernel_rfl
theorem hgN2_5 : hgN [hgP5] [hgX2, hgY0_2] [hgM2_0_0_1_0] [hgK2_0_0] 2 .nilslice (appF hgF5 hgB2) = true := by kernel_rfl
theorem hgE2_5 : hgN [hgP5] [hgX2, hgY0_2] [hgM2_0_0_1_0] [hgK2_0_0] 2 .eslice (appF hgF5 hgB2) = true := by kernel_rfl
theorem hgR2_6 : hgRow [hgP6] [hgX1, hgY1_1] 2 (appF hgF6 hgB2) hgL2_0 = true := by kernel_rfl
theorem hgN2_6 : hgN [hgP6] [hgX1, hgY0_1] [hgM2_0_0_0_0] [hgK2_0_0] 2 .nilslice (appF hgF6 hgB2) = true := by kernel_rfl
theorem hgE2_6 : hgN [hgP6] [hgX1, hgY0_1] [hgM2_0_0_0_0] [hgK2_0_0] 2 .eslice (appF hgF6 hgB2) = true := by kernel_rfl
theorem hgR2_7 : hgRow [hgP7] [hgX1, hgY1_1] 2 (appF hgF7 hgB2) hgL2_0 = true := by kernel_rfl
theorem hgN2_7 : hgN [hgP7] [hgX1, hgY0_1] [hgM2_0_0_0_0] [hgK2_0_0] 2 .nilslice (appF hgF7 hgB2) = true := by kernel_rfl
theorem hgE2_7 : hgN [hgP7] [hgX1, hgY0_1] [hgM2_0_0_0_0] [hgK2_0_0] 2 .eslice (appF hgF7 hgB2) = true := by kernel_rfl
theorem hgR2_8 : hgRow [hgP8] [hgX0, hgY1_0] 2 (appF hgF8 hgB2) hgL2_0 = true := by kernel_rfl
theorem hgN2_8 : hgN [hgP8] [hgX0, hgY0_0] [hgM2_0_0_0_0] [hgK2_0_0] 2 .nilslice (appF hgF8 hgB2) = true := by kernel_rfl
theorem hgE2_8 : hgN [hgP8] [hgX0, hgY0_0] [hgM2_0_0_0_0] [hgK2_0_0] 2 .eslice (appF hgF8 hgB2) = true := by kernel_rfl
theorem hgR2_9 : hgRow [hgP9] [hgX0, hgY1_0] 2 (appF hgF9 hgB2) hgL2_0 = true := by kernel_rfl
theorem hgN2_9 : hgN [hgP9] [hgX0, hgY0_0] [hgM2_0_0_0_0] [hgK2_0_0] 2 .nilslice (appF hgF9 hgB2) = true := by kernel_rfl
theorem hgE2_9 : hgN [hgP9] [hgX0, hgY0_0] [hgM2_0_0_0_0] [hgK2_0_0] 2 .eslice (appF hgF9 hgB2) = true := by kernel_rfl
theorem hgR2_10 : hgRow [hgP10] [hgX0, hgY1_0] 2 (appF hgF10 hgB2) hgL2_0 = true := by kernel_rfl
theorem hgN2_10 : hgN [hgP10] [hgX0, hgY0_0] [hgM2_0_0_0_0] [hgK2_0_0] 2 .nilslice (appF hgF10 hgB2) = true := by kernel_rfl
theorem hgE2_10 : hgN [hgP10] [hgX0, hgY0_0] [hgM2_0_0_0_0] [hgK2_0_0] 2 .eslice (appF hgF10 hgB2) = true := by kernel_rfl
theorem hgR2_11 : hgRow [hgP11] [hgX3, hgY1_3] 2 (appF hgF11 hgB2) hgL2_0 = true := by kernel_rfl
theorem hgN2_11 : hgN [hgP11] [hgX3, hgY0_3] [hgM2_0_0_0_0] [hgK2_0_0] 2 .nilslice (appF hgF11 hgB2) = true := by kernel_rfl
theorem hgE2_11 : hgN [hgP11] [hgX3, hgY0_3] [hgM2_0_0_0_0] [hgK2_0_0] 2 .eslice (appF hgF11 hgB2) = true := by kernel_rfl
theorem hgR2_12 : hgRow [hgP12] [hgX3, hgY1_3] 2 (appF hgF12 hgB2) hgL2_0 = true := by kernel_rfl
theorem hgN2_12 : hgN [hgP12] [hgX3, hgY0_3] [hgM2_0_0_0_0] [hgK2_0_0] 2 .nilslice (appF hgF12 hgB2) = true := by kernel_rfl
theorem hgE2_12 : hgN [hgP12] [hgX3, hgY0_3] [hgM2_0_0_0_0] [hgK2_0_0] 2 .eslice (appF hgF12 hgB2) = true := by kernel_rfl
theorem hgR2_13 : hgRow [hgP13] [hgX3, hgY1_3] 2 (appF hgF13 hgB2) hgL2_0 = true := by kernel_rfl
theorem hgN2_13 : hgN [hgP13] [hgX3, hgY0_3] [hgM2_0_0_0_0] [hgK2_0_0] 2 .nilslice (appF hgF13 hgB2) = true := by kernel_rfl
theorem hgE2_13 : hgN [hgP13] [hgX3, hgY0_3] [hgM2_0_0_0_0] [hgK2_0_0] 2 .eslice (appF hgF13 hgB2) = true := by kernel_rfl
theorem hgR2_14 : hgRow [hgP14] [hgX4, hgY1_4] 2 (appF hgF14 hgB2) hgL2_0 = true := by kernel_rfl
theorem hgN2_14 : hgN [hgP14] [hgX4, hgY0_4] [hgM2_0_0_0_0] [hgK2_0_0] 2 .nilslice (appF hgF14 hgB2) = true := by kernel_rfl
theorem hgE2_14 : hgN [hgP14] [hgX4, hgY0_4] [hgM2_0_0_0_0] [hgK2_0_0] 2 .eslice (appF hgF14 hgB2) = true := by kernel_rfl
theorem hgR2_15 : hgRow [hgP15] [hgX5, hgY1_5] 2 (appF hgF15 hgB2) hgL2_0 = true := by kernel_rfl
theorem hgN2_15 : hgN [hgP15] [hgX5, hgY0_5] [hgM2_0_0_0_0] [hgK2_0_0] 2 .nilslice (appF hgF15 hgB2) = true := by kernel_rfl
theorem hgE2_15 : hgN [hgP15] [hgX5, hgY0_5] [hgM2_0_0_0_0] [hgK2_0_0] 2 .eslice (appF hgF15 hgB2) = true := by kernel_rfl
theorem hgR2_16 : hgRow [hgP16] [hgX4, hgY1_4] 2 (appF hgF16 hgB2) hgL2_0 = true := by kernel_rfl
theorem hgN2_16 : hgN [hgP16] [hgX4, hgY0_4] [hgM2_0_0_0_0] [hgK2_0_0] 2 .nilslice (appF hgF16 hgB2) = true := by kernel_rfl
theorem hgE2_16 : hgN [hgP16] [hgX4, hgY0_4] [hgM2_0_0_0_0] [hgK2_0_0] 2 .eslice (appF hgF16 hgB2) = true := by kernel_rfl
theorem hgR2_17 : hgRow [hgP17] [hgX6, hgY1_6] 2 (appF hgF17 hgB2) hgL2_0 = true := by kernel_rfl
theorem hgN2_17 : hgN [hgP17] [hgX6, hgY0_6] [hgM2_0_0_0_0] [hgK2_0_0] 2 .nilslice (appF hgF17 hgB2) = true := by kernel_rfl
theorem hgE2_17 : hgN [hgP17] [hgX6, hgY0_6] [hgM2_0_0_0_0] [hgK2_0_0] 2 .eslice (appF hgF17 hgB2) = true := by kernel_rfl
end Ev
end Go.Proofs.YtanapnlfdoebdaaGreatDoor
