/-
  HandsGranted: leaves, part 3.
-/
import Derived.Test.YtanapnlfdoebdaaGreatDoorHf
import Derived.Test.YtanapnlfdoebdaaGreatDoorHgD3
import Derived.KernelRfl
namespace Go.Proofs.YtanapnlfdoebdaaGreatDoor
namespace Ev
open Go.RowKit
theorem hgR3_0 : hgRow [hgP0] [hgX0, hgY1_0] 3 (appF hgF0 hgB2) hgL3_0 = true := by kernel_rfl
theorem hgN3_0 : hgN [hgP0] [hgX0, hgY0_0] [hgM3_0_0_0_0] [hgK3_0_0] 3 .nilslice (appF hgF0 hgB2) = true := by kernel_rfl
theorem hgE3_0 : hgN [hgP0] [hgX0, hgY0_0] [hgM3_0_0_0_0] [hgK3_0_0] 3 .eslice (appF hgF0 hgB2) = true := by kernel_rfl
theorem hgR3_1 : hgRow [hgP1] [hgX0, hgY1_0] 3 (appF hgF1 hgB2) hgL3_0 = true := by kernel_rfl
theorem hgN3_1 : hgN [hgP1] [hgX0, hgY0_0] [hgM3_0_0_0_0] [hgK3_0_0] 3 .nilslice (appF hgF1 hgB2) = true := by kernel_rfl
theorem hgE3_1 : hgN [hgP1] [hgX0, hgY0_0] [hgM3_0_0_0_0] [hgK3_0_0] 3 .eslice (appF hgF1 hgB2) = true := by kernel_rfl
theorem hgR3_2 : hgRow [hgP2] [hgX0, hgY1_0] 3 (appF hgF2 hgB2) hgL3_0 = true := by kernel_rfl
theorem hgN3_2 : hgN [hgP2] [hgX0, hgY0_0] [hgM3_0_0_0_0] [hgK3_0_0] 3 .nilslice (appF hgF2 hgB2) = true := by kernel_rfl
theorem hgE3_2 : hgN [hgP2] [hgX0, hgY0_0] [hgM3_0_0_0_0] [hgK3_0_0] 3 .eslice (appF hgF2 hgB2) = true := by kernel_rfl
theorem hgR3_3 : hgRow [hgP3] [hgX1, hgY1_1] 3 (appF hgF3 hgB2) hgL3_0 = true := by kernel_rfl
theorem hgN3_3 : hgN [hgP3] [hgX1, hgY0_1] [hgM3_0_0_0_0] [hgK3_0_0] 3 .nilslice (appF hgF3 hgB2) = true := by kernel_rfl
theorem hgE3_3 : hgN [hgP3] [hgX1, hgY0_1] [hgM3_0_0_0_0] [hgK3_0_0] 3 .eslice (appF hgF3 hgB2) = true := by kernel_rfl
theorem hgR3_4 : hgRow [hgP4] [hgX1, hgY1_1] 3 (appF hgF4 hgB2) hgL3_0 = true := by kernel_rfl
theorem hgN3_4 : hgN [hgP4] [hgX1, hgY0_1] [hgM3_0_0_0_0] [hgK3_0_0] 3 .nilslice (appF hgF4 hgB2) = true := by kernel_rfl
theorem hgE3_4 : hgN [hgP4] [hgX1, hgY0_1] [hgM3_0_0_0_0] [hgK3_0_0] 3 .eslice (appF hgF4 hgB2) = true := by kernel_rfl
theorem hgR3_5 : hgRow [hgP5] [hgX2, hgY1_2] 3 (appF hgF5 hgB2) hgL3_1 = true := by kernel_rfl
theorem hgN3_5 : hgN [hgP5] [hgX2, hgY0_2] [hgM3_0_0_1_0] [hgK3_0_0] 3 .nilslice (appF hgF5 hgB2) = true := by kernel_rfl
theorem hgE3_5 : hgN [hgP5] [hgX2, hgY0_2] [hgM3_0_0_1_0] [hgK3_0_0] 3 .eslice (appF hgF5 hgB2) = true := by kernel_rfl
theorem hgR3_6 : hgRow [hgP6] [hgX1, hgY1_1] 3 (appF hgF6 hgB2) hgL3_0 = true := by kernel_rfl
theorem hgN3_6 : hgN [hgP6] [hgX1, hgY0_1] [hgM3_0_0_0_0] [hgK3_0_0] 3 .nilslice (appF hgF6 hgB2) = true := by kernel_rfl
theorem hgE3_6 : hgN [hgP6] [hgX1, hgY0_1] [hgM3_0_0_0_0] [hgK3_0_0] 3 .eslice (appF hgF6 hgB2) = true := by kernel_rfl
theorem hgR3_7 : hgRow [hgP7] [hgX1, hgY1_1] 3 (appF hgF7 hgB2) hgL3_0 = true := by kernel_rfl
theorem hgN3_7 : hgN [hgP7] [hgX1, hgY0_1] [hgM3_0_0_0_0] [hgK3_0_0] 3 .nilslice (appF hgF7 hgB2) = true := by kernel_rfl
theorem hgE3_7 : hgN [hgP7] [hgX1, hgY0_1] [hgM3_0_0_0_0] [hgK3_0_0] 3 .eslice (appF hgF7 hgB2) = true := by kernel_rfl
theorem hgR3_8 : hgRow [hgP8] [hgX0, hgY1_0] 3 (appF hgF8 hgB2) hgL3_0 = true := by kernel_rfl
theorem hgN3_8 : hgN [hgP8] [hgX0, hgY0_0] [hgM3_0_0_0_0] [hgK3_0_0] 3 .nilslice (appF hgF8 hgB2) = true := by kernel_rfl
theorem hgE3_8 : hgN [hgP8] [hgX0, hgY0_0] [hgM3_0_0_0_0] [hgK3_0_0] 3 .eslice (appF hgF8 hgB2) = true := by kernel_rfl
theorem hgR3_9 : hgRow [hgP9] [hgX0, hgY1_0] 3 (appF hgF9 hgB2) hgL3_0 = true := by kernel_rfl
theorem hgN3_9 : hgN [hgP9] [hgX0, hgY0_0] [hgM3_0_0_0_0] [hgK3_0_0] 3 .nilslice (appF hgF9 hgB2) = true := by kernel_rfl
theorem hgE3_9 : hgN [hgP9] [hgX0, hgY0_0] [hgM3_0_0_0_0] [hgK3_0_0] 3 .eslice (appF hgF9 hgB2) = true := by kernel_rfl
theorem hgR3_10 : hgRow [hgP10] [hgX0, hgY1_0] 3 (appF hgF10 hgB2) hgL3_0 = true := by kernel_rfl
theorem hgN3_10 : hgN [hgP10] [hgX0, hgY0_0] [hgM3_0_0_0_0] [hgK3_0_0] 3 .nilslice (appF hgF10 hgB2) = true := by kernel_rfl
theorem hgE3_10 : hgN [hgP10] [hgX0, hgY0_0] [hgM3_0_0_0_0] [hgK3_0_0] 3 .eslice (appF hgF10 hgB2) = true := by kernel_rfl
theorem hgR3_11 : hgRow [hgP11] [hgX3, hgY1_3] 3 (appF hgF11 hgB2) hgL3_0 = true := by kernel_rfl
theorem hgN3_11 : hgN [hgP11] [hgX3, hgY0_3] [hgM3_0_0_0_0] [hgK3_0_0] 3 .nilslice (appF hgF11 hgB2) = true := by kernel_rfl
theorem hgE3_11 : hgN [hgP11] [hgX3, hgY0_3] [hgM3_0_0_0_0] [hgK3_0_0] 3 .eslice (appF hgF11 hgB2) = true := by kernel_rfl
theorem hgR3_12 : hgRow [hgP12] [hgX3, hgY1_3] 3 (appF hgF12 hgB2) hgL3_0 = true := by kernel_rfl
theorem hgN3_12 : hgN [hgP12] [hgX3, hgY0_3] [hgM3_0_0_0_0] [hgK3_0_0] 3 .nilslice (appF hgF12 hgB2) = true := by kernel_rfl
theorem hgE3_12 : hgN [hgP12] [hgX3, hgY0_3] [hgM3_0_0_0_0] [hgK3_0_0] 3 .eslice (appF hgF12 hgB2) = true := by kernel_rfl
theorem hgR3_13 : hgRow [hgP13] [hgX3, hgY1_3] 3 (appF hgF13 hgB2) hgL3_0 = true := by kernel_rfl
theorem hgN3_13 : hgN [hgP13] [hgX3, hgY0_3] [hgM3_0_0_0_0] [hgK3_0_0] 3 .nilslice (appF hgF13 hgB2) = true := by kernel_rfl
theorem hgE3_13 : hgN [hgP13] [hgX3, hgY0_3] [hgM3_0_0_0_0] [hgK3_0_0] 3 .eslice (appF hgF13 hgB2) = true := by kernel_rfl
theorem hgR3_14 : hgRow [hgP14] [hgX4, hgY1_4] 3 (appF hgF14 hgB2) hgL3_0 = true := by kernel_rfl
theorem hgN3_14 : hgN [hgP14] [hgX4, hgY0_4] [hgM3_0_0_0_0] [hgK3_0_0] 3 .nilslice (appF hgF14 hgB2) = true := by kernel_rfl
theorem hgE3_14 : hgN [hgP14] [hgX4, hgY0_4] [hgM3_0_0_0_0] [hgK3_0_0] 3 .eslice (appF hgF14 hgB2) = true := by kernel_rfl
theorem hgR3_15 : hgRow [hgP15] [hgX5, hgY1_5] 3 (appF hgF15 hgB2) hgL3_0 = true := by kernel_rfl
theorem hgN3_15 : hgN [hgP15] [hgX5, hgY0_5] [hgM3_0_0_0_0] [hgK3_0_0] 3 .nilslice (appF hgF15 hgB2) = true := by kernel_rfl
theorem hgE3_15 : hgN [hgP15] [hgX5, hgY0_5] [hgM3_0_0_0_0] [hgK3_0_0] 3 .eslice (appF hgF15 hgB2) = true := by kernel_rfl
theorem hgR3_16 : hgRow [hgP16] [hgX4, hgY1_4] 3 (appF hgF16 hgB2) hgL3_0 = true := by kernel_rfl
theorem hgN3_16 : hgN [hgP16] [hgX4, hgY0_4] [hgM3_0_0_0_0] [hgK3_0_0] 3 .nilslice (appF hgF16 hgB2) = true := by kernel_rfl
theorem hgE3_16 : hgN [hgP16] [hgX4, hgY0_4] [hgM3_0_0_0_0] [hgK3_0_0] 3 .eslice (appF hgF16 hgB2) = true := by kernel_rfl
theorem hgR3_17 : hgRow [hgP17] [hgX6, hgY1_6] 3 (appF hgF17 hgB2) hgL3_0 = true := by kernel_rfl
theorem hgN3_17 : hgN [hgP17] [hgX6, hgY0_6] [hgM3_0_0_0_0] [hgK3_0_0] 3 .nilslice (appF hgF17 hgB2) = true := by kernel_rfl
theorem hgE3_17 : hgN [hgP17] [hgX6, hgY0_6] [hgM3_0_0_0_0] [hgK3_0_0] 3 .eslice (appF hgF17 hgB2) = true := by kernel_rfl
end Ev
end Go.Proofs.YtanapnlfdoebdaaGreatDoor
