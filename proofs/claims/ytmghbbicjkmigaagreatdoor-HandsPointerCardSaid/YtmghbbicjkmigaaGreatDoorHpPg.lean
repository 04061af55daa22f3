/-
  HandsPointer: the row's other facts of the program.
-/
import Derived.Test.YtmghbbicjkmigaaGreatDoorRows
import Derived.ProofKit
import Derived.LaidMore
import Derived.OpenShut
import Derived.Stop.Joined
import Derived.Stop.LaidErr
import Derived.SevenTiedAt
import Derived.ChangeOld
import Derived.Carry
namespace Go.Proofs.YtmghbbicjkmigaaGreatDoor
open Go.ChangeShapes Go.WideShapes Go.ChangeAt Go.WideMaps Go.WideElems Go.RowKit

theorem hp_k0 : Rows.handsPointerRow.wf (OpenSpec.ofChange Rows.handsPointerSpec) = true := by kernel_rfl
theorem hp_k1 : laidOutB Tryz.prog = true := by kernel_rfl
theorem hp_k2 : mapsRowed Tryz.prog = true := by kernel_rfl
theorem hp_k3 : Tryz.f3.params.all (Tryz.prog.readableRec ·) = true := by kernel_rfl
theorem hp_k4 : namedTie Tryz.prog Rows.handsPointerRow.named Rows.handsPointerSpec.vars = true := by kernel_rfl
theorem hp_k5 : (Rows.handsPointerRow.stops == []) = true := by kernel_rfl
theorem hp_k6 : (Tryz.prog.stops == []) = true := by kernel_rfl
theorem hp_k7 : (Rows.handsPointerRow.knobs == []) = true := by kernel_rfl
theorem hp_k8 : (Tryz.prog.stopKnobs == []) = true := by kernel_rfl
theorem hp_k13 : (Rows.handsPointerRow.maps == (Tryz.f3.params.toList ++ Rows.handsPointerSpec.plain.varTypes Tryz.prog).any (Tryz.prog.mapsRec ·)) = true := by kernel_rfl
theorem hp_k14 : (Rows.handsPointerRow.ifaces == (Tryz.f3.params.toList ++ Rows.handsPointerSpec.plain.varTypes Tryz.prog).any (Tryz.prog.ifacesRec ·)) = true := by kernel_rfl
theorem hp_k15 : (Rows.handsPointerRow.mapsOut == Tryz.prog.mapsAmong Tryz.f3.resultTypes.toList) = true := by kernel_rfl
theorem hp_k16 : (Rows.handsPointerRow.loops == (Tryz.f3.params.toList ++ Rows.handsPointerSpec.plain.varTypes Tryz.prog).any (Tryz.prog.loopsFrom ·)) = true := by kernel_rfl
theorem hp_k17 : (Rows.handsPointerRow.wideKeys == (Tryz.f3.params.toList ++ Rows.handsPointerSpec.plain.varTypes Tryz.prog ++ Tryz.f3.resultTypes.toList).any (Tryz.prog.wideKeysFrom ·)) = true := by kernel_rfl
theorem hp_k18 : Rows.handsPointerSpec.vars.all (Tryz.prog.varReadable ·) = true := by kernel_rfl
theorem hp_k19 : Tryz.f3.resultTypes.all (fun t => Tryz.prog.readableRec t && decide (t < Tryz.prog.types.size)) = true := by kernel_rfl
theorem hp_k20 : (Rows.handsPointerRow.ifacesOut == Tryz.f3.resultTypes.toList.any (Tryz.prog.ifacesRec ·)) = true := by kernel_rfl
theorem hp_k21 : (Rows.handsPointerRow.loopsOut == Tryz.f3.resultTypes.toList.any (Tryz.prog.loopsFrom ·)) = true := by kernel_rfl
theorem hp_k22 : (Rows.handsPointerRow.plainKeys == Tryz.prog.plainKeys) = true := by kernel_rfl
theorem hp_k23 : Rows.handsPointerRow.shortTexts.isNone = true := by kernel_rfl
theorem hp_k24 : Tryz.prog.stopsHeard = true := by kernel_rfl
theorem hp_k25 : Tryz.prog.mayEnter = true := by kernel_rfl
theorem hp_k26 : (Rows.handsPointerRow.lifted == Tryz.prog.liftsFinal) = true := by kernel_rfl
theorem hp_k27 : (Tryz.prog.make == some Rows.handsPointerRow.make) = true := by kernel_rfl
theorem hp_k28 {X : List (Option IntKind)} : (Rows.handsPointerRow.kinds == (if Rows.handsPointerRow.domain.isEmpty then [] else X)) = true := by
  rw [if_pos (show Rows.handsPointerRow.domain.isEmpty = true from rfl)]
  rfl
theorem hp_k29 : (Rows.handsPointerRow.pinned == Rows.handsPointerRow.pinnedBy) = true := by kernel_rfl
theorem hp_k30 : (Rows.handsPointerRow.veiled == (Tryz.f3.params.toList ++ Rows.handsPointerSpec.plain.varTypes Tryz.prog ++ Tryz.f3.resultTypes.toList).any (Tryz.prog.veiledRec ·)) = true := by kernel_rfl
theorem hp_k31 : Rows.handsPointerRow.veiledFits Tryz.prog Tryz.f3.params.toList (Tryz.f3.params.toList ++ Rows.handsPointerSpec.plain.varTypes Tryz.prog ++ Tryz.f3.resultTypes.toList) = true := by kernel_rfl
end Go.Proofs.YtmghbbicjkmigaaGreatDoor
