/-
  HandsGranted: leaves, part 0.
-/
import Derived.Test.YtanapnlfdoebdaaGreatDoorHf
import Derived.Test.YtanapnlfdoebdaaGreatDoorHgD0
import Derived.KernelRfl
namespace Go.Proofs.YtanapnlfdoebdaaGreatDoor
namespace Ev
open Go.RowKit
theorem hgR0_0 : hgRow [hgP0] [hgX0, hgY1_0] 0 (appF hgF0 hgB2) hgL0_0 = true := by kernel_rfl
theorem hgN0_0 : hgN [hgP0] [hgX0, hgY0_0] [hgM0_0_0_0_0] [hgK0_0_0] 0 .nilslice (appF hgF0 hgB2) = true := by kernel_rfl
theorem hgE0_0 : hgN [hgP0] [hgX0, hgY0_0] [hgM0_0_0_0_0] [hgK0_0_0] 0 .eslice (appF hgF0 hgB2) = true := by kernel_rfl
theorem hgR0_1 : hgRow [hgP1] [hgX0, hgY1_0] 0 (appF hgF1 hgB2) hgL0_0 = true := by kernel_rfl
theorem hgN0_1 : hgN [hgP1] [hgX0, hgY0_0] [hgM0_0_0_0_0] [hgK0_0_0] 0 .nilslice (appF hgF1 hgB2) = true := by kernel_rfl
theorem hgE0_1 : hgN [hgP1] [hgX0, hgY0_0] [hgM0_0_0_0_0] [hgK0_0_0] 0 .eslice (appF hgF1 hgB2) = true := by kernel_rfl
theorem hgR0_2 : hgRow [hgP2] [hgX0, hgY1_0] 0 (appF hgF2 hgB2) hgL0_0 = true := by kernel_rfl
theorem hgN0_2 : hgN [hgP2] [hgX0, hgY0_0] [hgM0_0_0_0_0] [hgK0_0_0] 0 .nilslice (appF hgF2 hgB2) = true := by kernel_rfl
theorem hgE0_2 : hgN [hgP2] [hgX0, hgY0_0] [hgM0_0_0_0_0] [hgK0_0_0] 0 .eslice (appF hgF2 hgB2) = true := by kernel_rfl
theorem hgR0_3 : hgRow [hgP3] [hgX1, hgY1_1] 0 (appF hgF3 hgB2) hgL0_0 = true := by kernel_rfl
theorem hgN0_3 : hgN [hgP3] [hgX1, hgY0_1] [hgM0_0_0_0_0] [hgK0_0_0] 0 .nilslice (appF hgF3 hgB2) = true := by kernel_rfl
theorem hgE0_3 : hgN [hgP3] [hgX1, hgY0_1] [hgM0_0_0_0_0] [hgK0_0_0] 0 .eslice (appF hgF3 hgB2) = true := by kernel_rfl
theorem hgR0_4 : hgRow [hgP4] [hgX1, hgY1_1] 0 (appF hgF4 hgB2) hgL0_0 = true := by kernel_rfl
theorem hgN0_4 : hgN [hgP4] [hgX1, hgY0_1] [hgM0_0_0_0_0] [hgK0_0_0] 0 .nilslice (appF hgF4 hgB2) = true := by kernel_rfl
theorem hgE0_4 : hgN [hgP4] [hgX1, hgY0_1] [hgM0_0_0_0_0] [hgK0_0_0] 0 .eslice (appF hgF4 hgB2) = true := by kernel_rfl
theorem hgR0_5 : hgRow [hgP5] [hgX2, hgY1_2] 0 (appF hgF5 hgB2) hgL0_1 = true := by kernel_rfl
theorem hgN0_5 : hgN [hgP5] [hgX2, hgY0_2] [hgM0_0_0_1_0] [hgK0_0_0] 0 .nilslice (appF hgF5 hgB2) = true := by kernel_rfl
theorem hgE0_5 : hgN [hgP5] [hgX2, hgY0_2] [hgM0_0_0_1_0] [hgK0_0_0] 0 .eslice (appF hgF5 hgB2) = true := by kernel_rfl
theorem hgR0_6 : hgRow [hgP6] [hgX1, hgY1_1] 0 (appF hgF6 hgB2) hgL0_0 = true := by kernel_rfl
theorem hgN0_6 : hgN [hgP6] [hgX1, hgY0_1] [hgM0_0_0_0_0] [hgK0_0_0] 0 .nilslice (appF hgF6 hgB2) = true := by kernel_rfl
theorem hgE0_6 : hgN [hgP6] [hgX1, hgY0_1] [hgM0_0_0_0_0] [hgK0_0_0] 0 .eslice (appF hgF6 hgB2) = true := by kernel_rfl
theorem hgR0_7 : hgRow [hgP7] [hgX1, hgY1_1] 0 (appF hgF7 hgB2) hgL0_0 = true := by kernel_rfl
theorem hgN0_7 : hgN [hgP7] [hgX1, hgY0_1] [hgM0_0_0_0_0] [hgK0_0_0] 0 .nilslice (appF hgF7 hgB2) = true := by kernel_rfl
theorem hgE0_7 : hgN [hgP7] [hgX1, hgY0_1] [hgM0_0_0_0_0] [hgK0_0_0] 0 .eslice (appF hgF7 hgB2) = true := by kernel_rfl
theorem hgR0_8 : hgRow [hgP8] [hgX0, hgY1_0] 0 (appF hgF8 hgB2) hgL0_0 = true := by kernel_rfl
theorem hgN0_8 : hgN [hgP8] [hgX0, hgY0_0] [hgM0_0_0_0_0] [hgK0_0_0] 0 .nilslice (appF hgF8 hgB2) = true := by kernel_rfl
theorem hgE0_8 : hgN [hgP8] [hgX0, hgY0_0] [hgM0_0_0_0_0] [hgK0_0_0] 0 .eslice (appF hgF8 hgB2) = true := by kernel_rfl
theorem hgR0_9 : hgRow [hgP9] [hgX0, hgY1_0] 0 (appF hgF9 hgB2) hgL0_0 = true := by kernel_rfl
theorem hgN0_9 : hgN [hgP9] [hgX0, hgY0_0] [hgM0_0_0_0_0] [hgK0_0_0] 0 .nilslice (appF hgF9 hgB2) = true := by kernel_rfl
theorem hgE0_9 : hgN [hgP9] [hgX0, hgY0_0] [hgM0_0_0_0_0] [hgK0_0_0] 0 .eslice (appF hgF9 hgB2) = true := by kernel_rfl
theorem hgR0_10 : hgRow [hgP10] [hgX0, hgY1_0] 0 (appF hgF10 hgB2) hgL0_0 = true := by kernel_rfl
theorem hgN0_10 : hgN [hgP10] [hgX0, hgY0_0] [hgM0_0_0_0_0] [hgK0_0_0] 0 .nilslice (appF hgF10 hgB2) = true := by kernel_rfl
theorem hgE0_10 : hgN [hgP10] [hgX0, hgY0_0] [hgM0_0_0_0_0] [hgK0_0_0] 0 .eslice (appF hgF10 hgB2) = true := by kernel_rfl
theorem hgR0_11 : hgRow [hgP11] [hgX3, hgY1_3] 0 (appF hgF11 hgB2) hgL0_0 = true := by kernel_rfl
theorem hgN0_11 : hgN [hgP11] [hgX3, hgY0_3] [hgM0_0_0_0_0] [hgK0_0_0] 0 .nilslice (appF hgF11 hgB2) = true := by kernel_rfl
theorem hgE0_11 : hgN [hgP11] [hgX3, hgY0_3] [hgM0_0_0_0_0] [hgK0_0_0] 0 .eslice (appF hgF11 hgB2) = true := by kernel_rfl
theorem hgR0_12 : hgRow [hgP12] [hgX3, hgY1_3] 0 (appF hgF12 hgB2) hgL0_0 = true := by kernel_rfl
theorem hgN0_12 : hgN [hgP12] [hgX3, hgY0_3] [hgM0_0_0_0_0] [hgK0_0_0] 0 .nilslice (appF hgF12 hgB2) = true := by kernel_rfl
theorem hgE0_12 : hgN [hgP12] [hgX3, hgY0_3] [hgM0_0_0_0_0] [hgK0_0_0] 0 .eslice (appF hgF12 hgB2) = true := by kernel_rfl
theorem hgR0_13 : hgRow [hgP13] [hgX3, hgY1_3] 0 (appF hgF13 hgB2) hgL0_0 = true := by kernel_rfl
theorem hgN0_13 : hgN [hgP13] [hgX3, hgY0_3] [hgM0_0_0_0_0] [hgK0_0_0] 0 .nilslice (appF hgF13 hgB2) = true := by kernel_rfl
theorem hgE0_13 : hgN [hgP13] [hgX3, hgY0_3] [hgM0_0_0_0_0] [hgK0_0_0] 0 .eslice (appF hgF13 hgB2) = true := by kernel_rfl
theorem hgR0_14 : hgRow [hgP14] [hgX4, hgY1_4] 0 (appF hgF14 hgB2) hgL0_0 = true := by kernel_rfl
theorem hgN0_14 : hgN [hgP14] [hgX4, hgY0_4] [hgM0_0_0_0_0] [hgK0_0_0] 0 .nilslice (appF hgF14 hgB2) = true := by kernel_rfl
theorem hgE0_14 : hgN [hgP14] [hgX4, hgY0_4] [hgM0_0_0_0_0] [hgK0_0_0] 0 .eslice (appF hgF14 hgB2) = true := by kernel_rfl
theorem hgR0_15 : hgRow [hgP15] [hgX5, hgY1_5] 0 (appF hgF15 hgB2) hgL0_0 = true := by kernel_rfl
theorem hgN0_15 : hgN [hgP15] [hgX5, hgY0_5] [hgM0_0_0_0_0] [hgK0_0_0] 0 .nilslice (appF hgF15 hgB2) = true := by kernel_rfl
theorem hgE0_15 : hgN [hgP15] [hgX5, hgY0_5] [hgM0_0_0_0_0] [hgK0_0_0] 0 .eslice (appF hgF15 hgB2) = true := by kernel_rfl
theorem hgR0_16 : hgRow [hgP16] [hgX4, hgY1_4] 0 (appF hgF16 hgB2) hgL0_0 = true := by kernel_rfl
theorem hgN0_16 : hgN [hgP16] [hgX4, hgY0_4] [hgM0_0_0_0_0] [hgK0_0_0] 0 .nilslice (appF hgF16 hgB2) = true := by kernel_rfl
theorem hgE0_16 : hgN [hgP16] [hgX4, hgY0_4] [hgM0_0_0_0_0] [hgK0_0_0] 0 .eslice (appF hgF16 hgB2) = true := by kernel_rfl
theorem hgR0_17 : hgRow [hgP17] [hgX6, hgY1_6] 0 (appF hgF17 hgB2) hgL0_0 = true := by kernel_rfl
theorem hgN0_17 : hgN [hgP17] [hgX6, hgY0_6] [hgM0_0_0_0_0] [hgK0_0_0] 0 .nilslice (appF hgF17 hgB2) = true := by kernel_rfl
theorem hgE0_17 : hgN [hgP17] [hgX6, hgY0_6] [hgM0_0_0_0_0] [hgK0_0_0] 0 .eslice (appF hgF17 hgB2) = true := by kernel_rfl
end Ev
end Go.Proofs.YtanapnlfdoebdaaGreatDoor
