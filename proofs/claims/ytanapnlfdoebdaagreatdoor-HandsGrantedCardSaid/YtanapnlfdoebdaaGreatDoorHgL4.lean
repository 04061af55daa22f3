/-
  HandsGranted: leaves, part 4.
-/
import Derived.Test.YtanapnlfdoebdaaGreatDoorHf
import Derived.Test.YtanapnlfdoebdaaGreatDoorHgD4
import Derived.KernelRfl
namespace Go.Proofs.YtanapnlfdoebdaaGreatDoor
namespace Ev
open Go.RowKit
theorem hgR4_0 : hgRow [hgP0] [hgX0, hgY1_0] 4 (appF hgF0 hgB2) hgL4_0 = true := by kernel_rfl
theorem hgN4_0 : hgN [hgP0] [hgX0, hgY0_0] [hgM4_0_0_0_0] [hgK4_0_0] 4 .nilslice (appF hgF0 hgB2) = true := by kernel_rfl
theorem hgE4_0 : hgN [hgP0] [hgX0, hgY0_0] [hgM4_0_0_0_0] [hgK4_0_0] 4 .eslice (appF hgF0 hgB2) = true := by kernel_rfl
theorem hgR4_1 : hgRow [hgP1] [hgX0, hgY1_0] 4 (appF hgF1 hgB2) hgL4_0 = true := by kernel_rfl
theorem hgN4_1 : hgN [hgP1] [hgX0, hgY0_0] [hgM4_0_0_0_0] [hgK4_0_0] 4 .nilslice (appF hgF1 hgB2) = true := by kernel_rfl
theorem hgE4_1 : hgN [hgP1] [hgX0, hgY0_0] [hgM4_0_0_0_0] [hgK4_0_0] 4 .eslice (appF hgF1 hgB2) = true := by kernel_rfl
theorem hgR4_2 : hgRow [hgP2] [hgX0, hgY1_0] 4 (appF hgF2 hgB2) hgL4_0 = true := by kernel_rfl
theorem hgN4_2 : hgN [hgP2] [hgX0, hgY0_0] [hgM4_0_0_0_0] [hgK4_0_0] 4 .nilslice (appF hgF2 hgB2) = true := by kernel_rfl
theorem hgE4_2 : hgN [hgP2] [hgX0, hgY0_0] [hgM4_0_0_0_0] [hgK4_0_0] 4 .eslice (appF hgF2 hgB2) = true := by kernel_rfl
theorem hgR4_3 : hgRow [hgP3] [hgX1, hgY1_1] 4 (appF hgF3 hgB2) hgL4_0 = true := by kernel_rfl
theorem hgN4_3 : hgN [hgP3] [hgX1, hgY0_1] [hgM4_0_0_0_0] [hgK4_0_0] 4 .nilslice (appF hgF3 hgB2) = true := by kernel_rfl
theorem hgE4_3 : hgN [hgP3] [hgX1, hgY0_1] [hgM4_0_0_0_0] [hgK4_0_0] 4 .eslice (appF hgF3 hgB2) = true := by kernel_rfl
theorem hgR4_4 : hgRow [hgP4] [hgX1, hgY1_1] 4 (appF hgF4 hgB2) hgL4_0 = true := by kernel_rfl
theorem hgN4_4 : hgN [hgP4] [hgX1, hgY0_1] [hgM4_0_0_0_0] [hgK4_0_0] 4 .nilslice (appF hgF4 hgB2) = true := by kernel_rfl
theorem hgE4_4 : hgN [hgP4] [hgX1, hgY0_1] [hgM4_0_0_0_0] [hgK4_0_0] 4 .eslice (appF hgF4 hgB2) = true := by kernel_rfl
theorem hgR4_5 : hgRow [hgP5] [hgX2, hgY1_2] 4 (appF hgF5 hgB2) hgL4_1 = true := by kernel_rfl
theorem hgN4_5 : hgN [hgP5] [hgX2, hgY0_2] [hgM4_0_0_1_0] [hgK4_0_0] 4 .nilslice (appF hgF5 hgB2) = true := by kernel_rfl
theorem hgE4_5 : hgN [hgP5] [hgX2, hgY0_2] [hgM4_0_0_1_0] [hgK4_0_0] 4 .eslice (appF hgF5 hgB2) = true := by kernel_rfl
theorem hgR4_6 : hgRow [hgP6] [hgX1, hgY1_1] 4 (appF hgF6 hgB2) hgL4_0 = true := by kernel_rfl
theorem hgN4_6 : hgN [hgP6] [hgX1, hgY0_1] [hgM4_0_0_0_0] [hgK4_0_0] 4 .nilslice (appF hgF6 hgB2) = true := by kernel_rfl
theorem hgE4_6 : hgN [hgP6] [hgX1, hgY0_1] [hgM4_0_0_0_0] [hgK4_0_0] 4 .eslice (appF hgF6 hgB2) = true := by kernel_rfl
theorem hgR4_7 : hgRow [hgP7] [hgX1, hgY1_1] 4 (appF hgF7 hgB2) hgL4_0 = true := by kernel_rfl
theorem hgN4_7 : hgN [hgP7] [hgX1, hgY0_1] [hgM4_0_0_0_0] [hgK4_0_0] 4 .nilslice (appF hgF7 hgB2) = true := by kernel_rfl
theorem hgE4_7 : hgN [hgP7] [hgX1, hgY0_1] [hgM4_0_0_0_0] [hgK4_0_0] 4 .eslice (appF hgF7 hgB2) = true := by kernel_rfl
theorem hgR4_8 : hgRow [hgP8] [hgX0, hgY1_0] 4 (appF hgF8 hgB2) hgL4_0 = true := by kernel_rfl
theorem hgN4_8 : hgN [hgP8] [hgX0, hgY0_0] [hgM4_0_0_0_0] [hgK4_0_0] 4 .nilslice (appF hgF8 hgB2) = true := by kernel_rfl
theorem hgE4_8 : hgN [hgP8] [hgX0, hgY0_0] [hgM4_0_0_0_0] [hgK4_0_0] 4 .eslice (appF hgF8 hgB2) = true := by kernel_rfl
theorem hgR4_9 : hgRow [hgP9] [hgX0, hgY1_0] 4 (appF hgF9 hgB2) hgL4_0 = true := by kernel_rfl
theorem hgN4_9 : hgN [hgP9] [hgX0, hgY0_0] [hgM4_0_0_0_0] [hgK4_0_0] 4 .nilslice (appF hgF9 hgB2) = true := by kernel_rfl
theorem hgE4_9 : hgN [hgP9] [hgX0, hgY0_0] [hgM4_0_0_0_0] [hgK4_0_0] 4 .eslice (appF hgF9 hgB2) = true := by kernel_rfl
theorem hgR4_10 : hgRow [hgP10] [hgX0, hgY1_0] 4 (appF hgF10 hgB2) hgL4_0 = true := by kernel_rfl
theorem hgN4_10 : hgN [hgP10] [hgX0, hgY0_0] [hgM4_0_0_0_0] [hgK4_0_0] 4 .nilslice (appF hgF10 hgB2) = true := by kernel_rfl
theorem hgE4_10 : hgN [hgP10] [hgX0, hgY0_0] [hgM4_0_0_0_0] [hgK4_0_0] 4 .eslice (appF hgF10 hgB2) = true := by kernel_rfl
theorem hgR4_11 : hgRow [hgP11] [hgX3, hgY1_3] 4 (appF hgF11 hgB2) hgL4_0 = true := by kernel_rfl
theorem hgN4_11 : hgN [hgP11] [hgX3, hgY0_3] [hgM4_0_0_0_0] [hgK4_0_0] 4 .nilslice (appF hgF11 hgB2) = true := by kernel_rfl
theorem hgE4_11 : hgN [hgP11] [hgX3, hgY0_3] [hgM4_0_0_0_0] [hgK4_0_0] 4 .eslice (appF hgF11 hgB2) = true := by kernel_rfl
theorem hgR4_12 : hgRow [hgP12] [hgX3, hgY1_3] 4 (appF hgF12 hgB2) hgL4_0 = true := by kernel_rfl
theorem hgN4_12 : hgN [hgP12] [hgX3, hgY0_3] [hgM4_0_0_0_0] [hgK4_0_0] 4 .nilslice (appF hgF12 hgB2) = true := by kernel_rfl
theorem hgE4_12 : hgN [hgP12] [hgX3, hgY0_3] [hgM4_0_0_0_0] [hgK4_0_0] 4 .eslice (appF hgF12 hgB2) = true := by kernel_rfl
theorem hgR4_13 : hgRow [hgP13] [hgX3, hgY1_3] 4 (appF hgF13 hgB2) hgL4_0 = true := by kernel_rfl
theorem hgN4_13 : hgN [hgP13] [hgX3, hgY0_3] [hgM4_0_0_0_0] [hgK4_0_0] 4 .nilslice (appF hgF13 hgB2) = true := by kernel_rfl
theorem hgE4_13 : hgN [hgP13] [hgX3, hgY0_3] [hgM4_0_0_0_0] [hgK4_0_0] 4 .eslice (appF hgF13 hgB2) = true := by kernel_rfl
theorem hgR4_14 : hgRow [hgP14] [hgX4, hgY1_4] 4 (appF hgF14 hgB2) hgL4_0 = true := by kernel_rfl
theorem hgN4_14 : hgN [hgP14] [hgX4, hgY0_4] [hgM4_0_0_0_0] [hgK4_0_0] 4 .nilslice (appF hgF14 hgB2) = true := by kernel_rfl
theorem hgE4_14 : hgN [hgP14] [hgX4, hgY0_4] [hgM4_0_0_0_0] [hgK4_0_0] 4 .eslice (appF hgF14 hgB2) = true := by kernel_rfl
theorem hgR4_15 : hgRow [hgP15] [hgX5, hgY1_5] 4 (appF hgF15 hgB2) hgL4_0 = true := by kernel_rfl
theorem hgN4_15 : hgN [hgP15] [hgX5, hgY0_5] [hgM4_0_0_0_0] [hgK4_0_0] 4 .nilslice (appF hgF15 hgB2) = true := by kernel_rfl
theorem hgE4_15 : hgN [hgP15] [hgX5, hgY0_5] [hgM4_0_0_0_0] [hgK4_0_0] 4 .eslice (appF hgF15 hgB2) = true := by kernel_rfl
theorem hgR4_16 : hgRow [hgP16] [hgX4, hgY1_4] 4 (appF hgF16 hgB2) hgL4_0 = true := by kernel_rfl
theorem hgN4_16 : hgN [hgP16] [hgX4, hgY0_4] [hgM4_0_0_0_0] [hgK4_0_0] 4 .nilslice (appF hgF16 hgB2) = true := by kernel_rfl
theorem hgE4_16 : hgN [hgP16] [hgX4, hgY0_4] [hgM4_0_0_0_0] [hgK4_0_0] 4 .eslice (appF hgF16 hgB2) = true := by kernel_rfl
theorem hgR4_17 : hgRow [hgP17] [hgX6, hgY1_6] 4 (appF hgF17 hgB2) hgL4_0 = true := by kernel_rfl
theorem hgN4_17 : hgN [hgP17] [hgX6, hgY0_6] [hgM4_0_0_0_0] [hgK4_0_0] 4 .nilslice (appF hgF17 hgB2) = true := by kernel_rfl
theorem hgE4_17 : hgN [hgP17] [hgX6, hgY0_6] [hgM4_0_0_0_0] [hgK4_0_0] 4 .eslice (appF hgF17 hgB2) = true := by kernel_rfl
end Ev
end Go.Proofs.YtanapnlfdoebdaaGreatDoor
