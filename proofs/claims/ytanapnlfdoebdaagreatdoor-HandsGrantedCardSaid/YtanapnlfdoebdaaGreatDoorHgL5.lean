/-
  HandsGranted: leaves, part 5.
-/
import Derived.Test.YtanapnlfdoebdaaGreatDoorHf
import Derived.Test.YtanapnlfdoebdaaGreatDoorHgD5
import Derived.KernelRfl
namespace Go.Proofs.YtanapnlfdoebdaaGreatDoor
namespace Ev
open Go.RowKit
theorem hgR5_0 : hgRow [hgP0] [hgX0, hgY1_0] 5 (appF hgF0 hgB2) hgL5_0 = true := by kernel_rfl
theorem hgN5_0 : hgN [hgP0] [hgX0, hgY0_0] [hgM5_0_0_0_0] [hgK5_0_0] 5 .nilslice (appF hgF0 hgB2) = true := by kernel_rfl
theorem hgE5_0 : hgN [hgP0] [hgX0, hgY0_0] [hgM5_0_0_0_0] [hgK5_0_0] 5 .eslice (appF hgF0 hgB2) = true := by kernel_rfl
theorem hgR5_1 : hgRow [hgP1] [hgX0, hgY1_0] 5 (appF hgF1 hgB2) hgL5_0 = true := by kernel_rfl
theorem hgN5_1 : hgN [hgP1] [hgX0, hgY0_0] [hgM5_0_0_0_0] [hgK5_0_0] 5 .nilslice (appF hgF1 hgB2) = true := by kernel_rfl
theorem hgE5_1 : hgN [hgP1] [hgX0, hgY0_0] [hgM5_0_0_0_0] [hgK5_0_0] 5 .eslice (appF hgF1 hgB2) = true := by kernel_rfl
theorem hgR5_2 : hgRow [hgP2] [hgX0, hgY1_0] 5 (appF hgF2 hgB2) hgL5_0 = true := by kernel_rfl
theorem hgN5_2 : hgN [hgP2] [hgX0, hgY0_0] [hgM5_0_0_0_0] [hgK5_0_0] 5 .nilslice (appF hgF2 hgB2) = true := by kernel_rfl
theorem hgE5_2 : hgN [hgP2] [hgX0, hgY0_0] [hgM5_0_0_0_0] [hgK5_0_0] 5 .eslice (appF hgF2 hgB2) = true := by kernel_rfl
theorem hgR5_3 : hgRow [hgP3] [hgX1, hgY1_1] 5 (appF hgF3 hgB2) hgL5_0 = true := by kernel_rfl
theorem hgN5_3 : hgN [hgP3] [hgX1, hgY0_1] [hgM5_0_0_0_0] [hgK5_0_0] 5 .nilslice (appF hgF3 hgB2) = true := by kernel_rfl
theorem hgE5_3 : hgN [hgP3] [hgX1, hgY0_1] [hgM5_0_0_0_0] [hgK5_0_0] 5 .eslice (appF hgF3 hgB2) = true := by kernel_rfl
theorem hgR5_4 : hgRow [hgP4] [hgX1, hgY1_1] 5 (appF hgF4 hgB2) hgL5_0 = true := by kernel_rfl
theorem hgN5_4 : hgN [hgP4] [hgX1, hgY0_1] [hgM5_0_0_0_0] [hgK5_0_0] 5 .nilslice (appF hgF4 hgB2) = true := by kernel_rfl
theorem hgE5_4 : hgN [hgP4] [hgX1, hgY0_1] [hgM5_0_0_0_0] [hgK5_0_0] 5 .eslice (appF hgF4 hgB2) = true := by kernel_rfl
theorem hgR5_5 : hgRow [hgP5] [hgX2, hgY1_2] 5 (appF hgF5 hgB2) hgL5_1 = true := by kernel_rfl
theorem hgN5_5 : hgN [hgP5] [hgX2, hgY0_2] [hgM5_0_0_1_0] [hgK5_0_0] 5 .nilslice (appF hgF5 hgB2) = true := by kernel_rfl
theorem hgE5_5 : hgN [hgP5] [hgX2, hgY0_2] [hgM5_0_0_1_0] [hgK5_0_0] 5 .eslice (appF hgF5 hgB2) = true := by kernel_rfl
theorem hgR5_6 : hgRow [hgP6] [hgX1, hgY1_1] 5 (appF hgF6 hgB2) hgL5_0 = true := by kernel_rfl
theorem hgN5_6 : hgN [hgP6] [hgX1, hgY0_1] [hgM5_0_0_0_0] [hgK5_0_0] 5 .nilslice (appF hgF6 hgB2) = true := by kernel_rfl
theorem hgE5_6 : hgN [hgP6] [hgX1, hgY0_1] [hgM5_0_0_0_0] [hgK5_0_0] 5 .eslice (appF hgF6 hgB2) = true := by kernel_rfl
theorem hgR5_7 : hgRow [hgP7] [hgX1, hgY1_1] 5 (appF hgF7 hgB2) hgL5_0 = true := by kernel_rfl
theorem hgN5_7 : hgN [hgP7] [hgX1, hgY0_1] [hgM5_0_0_0_0] [hgK5_0_0] 5 .nilslice (appF hgF7 hgB2) = true := by kernel_rfl
theorem hgE5_7 : hgN [hgP7] [hgX1, hgY0_1] [hgM5_0_0_0_0] [hgK5_0_0] 5 .eslice (appF hgF7 hgB2) = true := by kernel_rfl
theorem hgR5_8 : hgRow [hgP8] [hgX0, hgY1_0] 5 (appF hgF8 hgB2) hgL5_0 = true := by kernel_rfl
theorem hgN5_8 : hgN [hgP8] [hgX0, hgY0_0] [hgM5_0_0_0_0] [hgK5_0_0] 5 .nilslice (appF hgF8 hgB2) = true := by kernel_rfl
theorem hgE5_8 : hgN [hgP8] [hgX0, hgY0_0] [hgM5_0_0_0_0] [hgK5_0_0] 5 .eslice (appF hgF8 hgB2) = true := by kernel_rfl
theorem hgR5_9 : hgRow [hgP9] [hgX0, hgY1_0] 5 (appF hgF9 hgB2) hgL5_0 = true := by kernel_rfl
theorem hgN5_9 : hgN [hgP9] [hgX0, hgY0_0] [hgM5_0_0_0_0] [hgK5_0_0] 5 .nilslice (appF hgF9 hgB2) = true := by kernel_rfl
theorem hgE5_9 : hgN [hgP9] [hgX0, hgY0_0] [hgM5_0_0_0_0] [hgK5_0_0] 5 .eslice (appF hgF9 hgB2) = true := by kernel_rfl
theorem hgR5_10 : hgRow [hgP10] [hgX0, hgY1_0] 5 (appF hgF10 hgB2) hgL5_0 = true := by kernel_rfl
theorem hgN5_10 : hgN [hgP10] [hgX0, hgY0_0] [hgM5_0_0_0_0] [hgK5_0_0] 5 .nilslice (appF hgF10 hgB2) = true := by kernel_rfl
theorem hgE5_10 : hgN [hgP10] [hgX0, hgY0_0] [hgM5_0_0_0_0] [hgK5_0_0] 5 .eslice (appF hgF10 hgB2) = true := by kernel_rfl
theorem hgR5_11 : hgRow [hgP11] [hgX3, hgY1_3] 5 (appF hgF11 hgB2) hgL5_0 = true := by kernel_rfl
theorem hgN5_11 : hgN [hgP11] [hgX3, hgY0_3] [hgM5_0_0_0_0] [hgK5_0_0] 5 .nilslice (appF hgF11 hgB2) = true := by kernel_rfl
theorem hgE5_11 : hgN [hgP11] [hgX3, hgY0_3] [hgM5_0_0_0_0] [hgK5_0_0] 5 .eslice (appF hgF11 hgB2) = true := by kernel_rfl
theorem hgR5_12 : hgRow [hgP12] [hgX3, hgY1_3] 5 (appF hgF12 hgB2) hgL5_0 = true := by kernel_rfl
theorem hgN5_12 : hgN [hgP12] [hgX3, hgY0_3] [hgM5_0_0_0_0] [hgK5_0_0] 5 .nilslice (appF hgF12 hgB2) = true := by kernel_rfl
theorem hgE5_12 : hgN [hgP12] [hgX3, hgY0_3] [hgM5_0_0_0_0] [hgK5_0_0] 5 .eslice (appF hgF12 hgB2) = true := by kernel_rfl
theorem hgR5_13 : hgRow [hgP13] [hgX3, hgY1_3] 5 (appF hgF13 hgB2) hgL5_0 = true := by kernel_rfl
theorem hgN5_13 : hgN [hgP13] [hgX3, hgY0_3] [hgM5_0_0_0_0] [hgK5_0_0] 5 .nilslice (appF hgF13 hgB2) = true := by kernel_rfl
theorem hgE5_13 : hgN [hgP13] [hgX3, hgY0_3] [hgM5_0_0_0_0] [hgK5_0_0] 5 .eslice (appF hgF13 hgB2) = true := by kernel_rfl
theorem hgR5_14 : hgRow [hgP14] [hgX4, hgY1_4] 5 (appF hgF14 hgB2) hgL5_0 = true := by kernel_rfl
theorem hgN5_14 : hgN [hgP14] [hgX4, hgY0_4] [hgM5_0_0_0_0] [hgK5_0_0] 5 .nilslice (appF hgF14 hgB2) = true := by kernel_rfl
theorem hgE5_14 : hgN [hgP14] [hgX4, hgY0_4] [hgM5_0_0_0_0] [hgK5_0_0] 5 .eslice (appF hgF14 hgB2) = true := by kernel_rfl
theorem hgR5_15 : hgRow [hgP15] [hgX5, hgY1_5] 5 (appF hgF15 hgB2) hgL5_0 = true := by kernel_rfl
theorem hgN5_15 : hgN [hgP15] [hgX5, hgY0_5] [hgM5_0_0_0_0] [hgK5_0_0] 5 .nilslice (appF hgF15 hgB2) = true := by kernel_rfl
theorem hgE5_15 : hgN [hgP15] [hgX5, hgY0_5] [hgM5_0_0_0_0] [hgK5_0_0] 5 .eslice (appF hgF15 hgB2) = true := by kernel_rfl
theorem hgR5_16 : hgRow [hgP16] [hgX4, hgY1_4] 5 (appF hgF16 hgB2) hgL5_0 = true := by kernel_rfl
theorem hgN5_16 : hgN [hgP16] [hgX4, hgY0_4] [hgM5_0_0_0_0] [hgK5_0_0] 5 .nilslice (appF hgF16 hgB2) = true := by kernel_rfl
theorem hgE5_16 : hgN [hgP16] [hgX4, hgY0_4] [hgM5_0_0_0_0] [hgK5_0_0] 5 .eslice (appF hgF16 hgB2) = true := by kernel_rfl
theorem hgR5_17 : hgRow [hgP17] [hgX6, hgY1_6] 5 (appF hgF17 hgB2) hgL5_0 = true := by kernel_rfl
theorem hgN5_17 : hgN [hgP17] [hgX6, hgY0_6] [hgM5_0_0_0_0] [hgK5_0_0] 5 .nilslice (appF hgF17 hgB2) = true := by kernel_rfl
theorem hgE5_17 : hgN [hgP17] [hgX6, hgY0_6] [hgM5_0_0_0_0] [hgK5_0_0] 5 .eslice (appF hgF17 hgB2) = true := by kernel_rfl
end Ev
end Go.Proofs.YtanapnlfdoebdaaGreatDoor
