/-
  HandsGranted: leaves, part 1.
-/
import Derived.Test.YtanapnlfdoebdaaGreatDoorHf
import Derived.Test.YtanapnlfdoebdaaGreatDoorHgD1
import Derived.KernelRfl
namespace Go.Proofs.YtanapnlfdoebdaaGreatDoor
namespace Ev
open Go.RowKit
theorem hgR1_0 : hgRow [hgP0] [hgX0, hgY1_0] 1 (appF hgF0 hgB2) hgL1_0 = true := by kernel_rfl
theorem hgN1_0 : hgN [hgP0] [hgX0, hgY0_0] [hgM1_0_0_0_0] [hgK1_0_0] 1 .nilslice (appF hgF0 hgB2) = true := by kernel_rfl
theorem hgE1_0 : hgN [hgP0] [hgX0, hgY0_0] [hgM1_0_0_0_0] [hgK1_0_0] 1 .eslice (appF hgF0 hgB2) = true := by kernel_rfl
theorem hgR1_1 : hgRow [hgP1] [hgX0, hgY1_0] 1 (appF hgF1 hgB2) hgL1_0 = true := by kernel_rfl
theorem hgN1_1 : hgN [hgP1] [hgX0, hgY0_0] [hgM1_0_0_0_0] [hgK1_0_0] 1 .nilslice (appF hgF1 hgB2) = true := by kernel_rfl
theorem hgE1_1 : hgN [hgP1] [hgX0, hgY0_0] [hgM1_0_0_0_0] [hgK1_0_0] 1 .eslice (appF hgF1 hgB2) = true := by kernel_rfl
theorem hgR1_2 : hgRow [hgP2] [hgX0, hgY1_0] 1 (appF hgF2 hgB2) hgL1_0 = true := by kernel_rfl
theorem hgN1_2 : hgN [hgP2] [hgX0, hgY0_0] [hgM1_0_0_0_0] [hgK1_0_0] 1 .nilslice (appF hgF2 hgB2) = true := by kernel_rfl
theorem hgE1_2 : hgN [hgP2] [hgX0, hgY0_0] [hgM1_0_0_0_0] [hgK1_0_0] 1 .eslice (appF hgF2 hgB2) = true := by kernel_rfl
theorem hgR1_3 : hgRow [hgP3] [hgX1, hgY1_1] 1 (appF hgF3 hgB2) hgL1_0 = true := by kernel_rfl
theorem hgN1_3 : hgN [hgP3] [hgX1, hgY0_1] [hgM1_0_0_0_0] [hgK1_0_0] 1 .nilslice (appF hgF3 hgB2) = true := by kernel_rfl
theorem hgE1_3 : hgN [hgP3] [hgX1, hgY0_1] [hgM1_0_0_0_0] [hgK1_0_0] 1 .eslice (appF hgF3 hgB2) = true := by kernel_rfl
theorem hgR1_4 : hgRow [hgP4] [hgX1, hgY1_1] 1 (appF hgF4 hgB2) hgL1_0 = true := by kernel_rfl
theorem hgN1_4 : hgN [hgP4] [hgX1, hgY0_1] [hgM1_0_0_0_0] [hgK1_0_0] 1 .nilslice (appF hgF4 hgB2) = true := by kernel_rfl
theorem hgE1_4 : hgN [hgP4] [hgX1, hgY0_1] [hgM1_0_0_0_0] [hgK1_0_0] 1 .eslice (appF hgF4 hgB2) = true := by kernel_rfl
theorem hgR1_5 : hgRow [hgP5] [hgX2, hgY1_2] 1 (appF hgF5 hgB2) hgL1_1 = true := by kernel_rfl
theorem hgN1_5 : hgN [hgP5] [hgX2, hgY0_2] [hgM1_0_0_1_0] [hgK1_0_0] 1 .nilslice (appF hgF5 hgB2) = true := by kernel_rfl
theorem hgE1_5 : hgN [hgP5] [hgX2, hgY0_2] [hgM1_0_0_1_0] [hgK1_0_0] 1 .eslice (appF hgF5 hgB2) = true := by kernel_rfl
theorem hgR1_6 : hgRow [hgP6] [hgX1, hgY1_1] 1 (appF hgF6 hgB2) hgL1_0 = true := by kernel_rfl
theorem hgN1_6 : hgN [hgP6] [hgX1, hgY0_1] [hgM1_0_0_0_0] [hgK1_0_0] 1 .nilslice (appF hgF6 hgB2) = true := by kernel_rfl
theorem hgE1_6 : hgN [hgP6] [hgX1, hgY0_1] [hgM1_0_0_0_0] [hgK1_0_0] 1 .eslice (appF hgF6 hgB2) = true := by kernel_rfl
theorem hgR1_7 : hgRow [hgP7] [hgX1, hgY1_1] 1 (appF hgF7 hgB2) hgL1_0 = true := by kernel_rfl
theorem hgN1_7 : hgN [hgP7] [hgX1, hgY0_1] [hgM1_0_0_0_0] [hgK1_0_0] 1 .nilslice (appF hgF7 hgB2) = true := by kernel_rfl
theorem hgE1_7 : hgN [hgP7] [hgX1, hgY0_1] [hgM1_0_0_0_0] [hgK1_0_0] 1 .eslice (appF hgF7 hgB2) = true := by kernel_rfl
theorem hgR1_8 : hgRow [hgP8] [hgX0, hgY1_0] 1 (appF hgF8 hgB2) hgL1_0 = true := by kernel_rfl
theorem hgN1_8 : hgN [hgP8] [hgX0, hgY0_0] [hgM1_0_0_0_0] [hgK1_0_0] 1 .nilslice (appF hgF8 hgB2) = true := by kernel_rfl
theorem hgE1_8 : hgN [hgP8] [hgX0, hgY0_0] [hgM1_0_0_0_0] [hgK1_0_0] 1 .eslice (appF hgF8 hgB2) = true := by kernel_rfl
theorem hgR1_9 : hgRow [hgP9] [hgX0, hgY1_0] 1 (appF hgF9 hgB2) hgL1_0 = true := by kernel_rfl
theorem hgN1_9 : hgN [hgP9] [hgX0, hgY0_0] [hgM1_0_0_0_0] [hgK1_0_0] 1 .nilslice (appF hgF9 hgB2) = true := by kernel_rfl
theorem hgE1_9 : hgN [hgP9] [hgX0, hgY0_0] [hgM1_0_0_0_0] [hgK1_0_0] 1 .eslice (appF hgF9 hgB2) = true := by kernel_rfl
theorem hgR1_10 : hgRow [hgP10] [hgX0, hgY1_0] 1 (appF hgF10 hgB2) hgL1_0 = true := by kernel_rfl
theorem hgN1_10 : hgN [hgP10] [hgX0, hgY0_0] [hgM1_0_0_0_0] [hgK1_0_0] 1 .nilslice (appF hgF10 hgB2) = true := by kernel_rfl
theorem hgE1_10 : hgN [hgP10] [hgX0, hgY0_0] [hgM1_0_0_0_0] [hgK1_0_0] 1 .eslice (appF hgF10 hgB2) = true := by kernel_rfl
theorem hgR1_11 : hgRow [hgP11] [hgX3, hgY1_3] 1 (appF hgF11 hgB2) hgL1_0 = true := by kernel_rfl
theorem hgN1_11 : hgN [hgP11] [hgX3, hgY0_3] [hgM1_0_0_0_0] [hgK1_0_0] 1 .nilslice (appF hgF11 hgB2) = true := by kernel_rfl
theorem hgE1_11 : hgN [hgP11] [hgX3, hgY0_3] [hgM1_0_0_0_0] [hgK1_0_0] 1 .eslice (appF hgF11 hgB2) = true := by kernel_rfl
theorem hgR1_12 : hgRow [hgP12] [hgX3, hgY1_3] 1 (appF hgF12 hgB2) hgL1_0 = true := by kernel_rfl
theorem hgN1_12 : hgN [hgP12] [hgX3, hgY0_3] [hgM1_0_0_0_0] [hgK1_0_0] 1 .nilslice (appF hgF12 hgB2) = true := by kernel_rfl
theorem hgE1_12 : hgN [hgP12] [hgX3, hgY0_3] [hgM1_0_0_0_0] [hgK1_0_0] 1 .eslice (appF hgF12 hgB2) = true := by kernel_rfl
theorem hgR1_13 : hgRow [hgP13] [hgX3, hgY1_3] 1 (appF hgF13 hgB2) hgL1_0 = true := by kernel_rfl
theorem hgN1_13 : hgN [hgP13] [hgX3, hgY0_3] [hgM1_0_0_0_0] [hgK1_0_0] 1 .nilslice (appF hgF13 hgB2) = true := by kernel_rfl
theorem hgE1_13 : hgN [hgP13] [hgX3, hgY0_3] [hgM1_0_0_0_0] [hgK1_0_0] 1 .eslice (appF hgF13 hgB2) = true := by kernel_rfl
theorem hgR1_14 : hgRow [hgP14] [hgX4, hgY1_4] 1 (appF hgF14 hgB2) hgL1_0 = true := by kernel_rfl
theorem hgN1_14 : hgN [hgP14] [hgX4, hgY0_4] [hgM1_0_0_0_0] [hgK1_0_0] 1 .nilslice (appF hgF14 hgB2) = true := by kernel_rfl
theorem hgE1_14 : hgN [hgP14] [hgX4, hgY0_4] [hgM1_0_0_0_0] [hgK1_0_0] 1 .eslice (appF hgF14 hgB2) = true := by kernel_rfl
theorem hgR1_15 : hgRow [hgP15] [hgX5, hgY1_5] 1 (appF hgF15 hgB2) hgL1_0 = true := by kernel_rfl
theorem hgN1_15 : hgN [hgP15] [hgX5, hgY0_5] [hgM1_0_0_0_0] [hgK1_0_0] 1 .nilslice (appF hgF15 hgB2) = true := by kernel_rfl
theorem hgE1_15 : hgN [hgP15] [hgX5, hgY0_5] [hgM1_0_0_0_0] [hgK1_0_0] 1 .eslice (appF hgF15 hgB2) = true := by kernel_rfl
theorem hgR1_16 : hgRow [hgP16] [hgX4, hgY1_4] 1 (appF hgF16 hgB2) hgL1_0 = true := by kernel_rfl
theorem hgN1_16 : hgN [hgP16] [hgX4, hgY0_4] [hgM1_0_0_0_0] [hgK1_0_0] 1 .nilslice (appF hgF16 hgB2) = true := by kernel_rfl
theorem hgE1_16 : hgN [hgP16] [hgX4, hgY0_4] [hgM1_0_0_0_0] [hgK1_0_0] 1 .eslice (appF hgF16 hgB2) = true := by kernel_rfl
theorem hgR1_17 : hgRow [hgP17] [hgX6, hgY1_6] 1 (appF hgF17 hgB2) hgL1_0 = true := by kernel_rfl
theorem hgN1_17 : hgN [hgP17] [hgX6, hgY0_6] [hgM1_0_0_0_0] [hgK1_0_0] 1 .nilslice (appF hgF17 hgB2) = true := by kernel_rfl
theorem hgE1_17 : hgN [hgP17] [hgX6, hgY0_6] [hgM1_0_0_0_0] [hgK1_0_0] 1 .eslice (appF hgF17 hgB2) = true := by kernel_rfl
end Ev
end Go.Proofs.YtanapnlfdoebdaaGreatDoor
