/-
  HandsGranted: the row's facts of the program.
-/
import Derived.Test.YtanapnlfdoebdaaGreatDoorHgTa
import Derived.ProofKit
import Derived.LaidMore
import Derived.OpenShut
import Derived.Stop.Joined
import Derived.Stop.LaidErr
import Derived.SevenTiedAt
import Derived.ChangeOld
import Derived.Carry
namespace Go.Proofs.YtanapnlfdoebdaaGreatDoor
open Go.ChangeShapes Go.WideShapes Go.ChangeAt Go.WideMaps Go.WideElems Go.RowKit

theorem hg_k0 : Rows.handsGrantedRow.wf (OpenSpec.ofChange Rows.handsGrantedSpec) = true := by kernel_rfl
theorem hg_k1 : laidOutB Tryz.prog = true := by kernel_rfl
theorem hg_k2 : mapsRowed Tryz.prog = true := by kernel_rfl
theorem hg_k3 : Tryz.f3.params.all (Tryz.prog.readableRec ·) = true := by kernel_rfl
theorem hg_k4 : namedTie Tryz.prog Rows.handsGrantedRow.named Rows.handsGrantedSpec.vars = true := by kernel_rfl
theorem hg_k5 : (Rows.handsGrantedRow.stops == []) = true := by kernel_rfl
theorem hg_k6 : (Tryz.prog.stops == []) = true := by kernel_rfl
theorem hg_k7 : (Rows.handsGrantedRow.knobs == []) = true := by kernel_rfl
theorem hg_k8 : (Tryz.prog.stopKnobs == []) = true := by kernel_rfl
theorem hg_k13 : (Rows.handsGrantedRow.maps == (Tryz.f3.params.toList ++ Rows.handsGrantedSpec.plain.varTypes Tryz.prog).any (Tryz.prog.mapsRec ·)) = true := by kernel_rfl
theorem hg_k14 : (Rows.handsGrantedRow.ifaces == (Tryz.f3.params.toList ++ Rows.handsGrantedSpec.plain.varTypes Tryz.prog).any (Tryz.prog.ifacesRec ·)) = true := by kernel_rfl
theorem hg_k15 : (Rows.handsGrantedRow.mapsOut == Tryz.prog.mapsAmong Tryz.f3.resultTypes.toList) = true := by kernel_rfl
theorem hg_k16 : (Rows.handsGrantedRow.loops == (Tryz.f3.params.toList ++ Rows.handsGrantedSpec.plain.varTypes Tryz.prog).any (Tryz.prog.loopsFrom ·)) = true := by kernel_rfl
theorem hg_k17 : (Rows.handsGrantedRow.wideKeys == (Tryz.f3.params.toList ++ Rows.handsGrantedSpec.plain.varTypes Tryz.prog ++ Tryz.f3.resultTypes.toList).any (Tryz.prog.wideKeysFrom ·)) = true := by kernel_rfl
theorem hg_k18 : Rows.handsGrantedSpec.vars.all (Tryz.prog.varReadable ·) = true := by kernel_rfl
theorem hg_k19 : Tryz.f3.resultTypes.all (fun t => Tryz.prog.readableRec t && decide (t < Tryz.prog.types.size)) = true := by kernel_rfl
theorem hg_k20 : (Rows.handsGrantedRow.ifacesOut == Tryz.f3.resultTypes.toList.any (Tryz.prog.ifacesRec ·)) = true := by kernel_rfl
theorem hg_k21 : (Rows.handsGrantedRow.loopsOut == Tryz.f3.resultTypes.toList.any (Tryz.prog.loopsFrom ·)) = true := by kernel_rfl
theorem hg_k22 : (Rows.handsGrantedRow.plainKeys == Tryz.prog.plainKeys) = true := by kernel_rfl
theorem hg_k23 : Rows.handsGrantedRow.shortTexts.isNone = true := by kernel_rfl
theorem hg_k24 : Tryz.prog.stopsHeard = true := by kernel_rfl
theorem hg_k25 : Tryz.prog.mayEnter = true := by kernel_rfl
theorem hg_k26 : (Rows.handsGrantedRow.lifted == Tryz.prog.liftsFinal) = true := by kernel_rfl
theorem hg_k27 : (Tryz.prog.make == some Rows.handsGrantedRow.make) = true := by kernel_rfl
theorem hg_k28 : (Rows.handsGrantedRow.kinds == (if Rows.handsGrantedRow.domain.isEmpty then [] else Tryz.f3.params.toList.map fun t => match Tryz.prog.underlying t with | some (.int k) => some k | _ => none)) = true := by kernel_rfl
theorem hg_k29 : (Rows.handsGrantedRow.pinned == Rows.handsGrantedRow.pinnedBy) = true := by kernel_rfl
theorem hg_k30 : (Rows.handsGrantedRow.veiled == (Tryz.f3.params.toList ++ Rows.handsGrantedSpec.plain.varTypes Tryz.prog ++ Tryz.f3.resultTypes.toList).any (Tryz.prog.veiledRec ·)) = true := by kernel_rfl
theorem hg_k31 : Rows.handsGrantedRow.veiledFits Tryz.prog Tryz.f3.params.toList (Tryz.f3.params.toList ++ Rows.handsGrantedSpec.plain.varTypes Tryz.prog ++ Tryz.f3.resultTypes.toList) = true := by kernel_rfl
end Go.Proofs.YtanapnlfdoebdaaGreatDoor
