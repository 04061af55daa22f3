/-
  NamesRound: the row's other facts of the program.
-/
import Derived.Test.YtnjpdipombnigaaGreatDoorRows
import Derived.ProofKit
import Derived.LaidMore
import Derived.OpenShut
import Derived.Stop.Joined
import Derived.Stop.LaidErr
import Derived.SevenTiedAt
import Derived.ChangeOld
import Derived.Carry
namespace Go.Proofs.YtnjpdipombnigaaGreatDoor
open Go.ChangeShapes Go.WideShapes Go.ChangeAt Go.WideMaps Go.WideElems Go.RowKit

theorem ns_k0 : Rows.namesRoundRow.wf (OpenSpec.ofChange Rows.namesRoundSpec) = true := by kernel_rfl
theorem ns_k1 : laidOutB Tryz.prog = true := by kernel_rfl
theorem ns_k2 : mapsRowed Tryz.prog = true := by kernel_rfl
theorem ns_k3 : Tryz.f3.params.all (Tryz.prog.readableRec ·) = true := by kernel_rfl
theorem ns_k4 : namedTie Tryz.prog Rows.namesRoundRow.named Rows.namesRoundSpec.vars = true := by kernel_rfl
theorem ns_k5 : (Rows.namesRoundRow.stops == []) = true := by kernel_rfl
theorem ns_k6 : (Tryz.prog.stops == []) = true := by kernel_rfl
theorem ns_k7 : (Rows.namesRoundRow.knobs == []) = true := by kernel_rfl
theorem ns_k8 : (Tryz.prog.stopKnobs == []) = true := by kernel_rfl
theorem ns_k13 : (Rows.namesRoundRow.maps == (Tryz.f3.params.toList ++ Rows.namesRoundSpec.plain.varTypes Tryz.prog).any (Tryz.prog.mapsRec ·)) = true := by kernel_rfl
theorem ns_k14 : (Rows.namesRoundRow.ifaces == (Tryz.f3.params.toList ++ Rows.namesRoundSpec.plain.varTypes Tryz.prog).any (Tryz.prog.ifacesRec ·)) = true := by kernel_rfl
theorem ns_k15 : (Rows.namesRoundRow.mapsOut == Tryz.prog.mapsAmong Tryz.f3.resultTypes.toList) = true := by kernel_rfl
theorem ns_k16 : (Rows.namesRoundRow.loops == (Tryz.f3.params.toList ++ Rows.namesRoundSpec.plain.varTypes Tryz.prog).any (Tryz.prog.loopsFrom ·)) = true := by kernel_rfl
theorem ns_k17 : (Rows.namesRoundRow.wideKeys == (Tryz.f3.params.toList ++ Rows.namesRoundSpec.plain.varTypes Tryz.prog ++ Tryz.f3.resultTypes.toList).any (Tryz.prog.wideKeysFrom ·)) = true := by kernel_rfl
theorem ns_k18 : Rows.namesRoundSpec.vars.all (Tryz.prog.varReadable ·) = true := by kernel_rfl
theorem ns_k19 : Tryz.f3.resultTypes.all (fun t => Tryz.prog.readableRec t && decide (t < Tryz.prog.types.size)) = true := by kernel_rfl
theorem ns_k20 : (Rows.namesRoundRow.ifacesOut == Tryz.f3.resultTypes.toList.any (Tryz.prog.ifacesRec ·)) = true := by kernel_rfl
theorem ns_k21 : (Rows.namesRoundRow.loopsOut == Tryz.f3.resultTypes.toList.any (Tryz.prog.loopsFrom ·)) = true := by kernel_rfl
theorem ns_k22 : (Rows.namesRoundRow.plainKeys == Tryz.prog.plainKeys) = true := by kernel_rfl
theorem ns_k23 : Rows.namesRoundRow.shortTexts.isNone = true := by kernel_rfl
theorem ns_k24 : Tryz.prog.stopsHeard = true := by kernel_rfl
theorem ns_k25 : Tryz.prog.mayEnter = true := by kernel_rfl
theorem ns_k26 : (Rows.namesRoundRow.lifted == Tryz.prog.liftsFinal) = true := by kernel_rfl
theorem ns_k27 : (Tryz.prog.make == some Rows.namesRoundRow.make) = true := by kernel_rfl
theorem ns_k28 {X : List (Option IntKind)} : (Rows.namesRoundRow.kinds == (if Rows.namesRoundRow.domain.isEmpty then [] else X)) = true := by
  rw [if_pos (show Rows.namesRoundRow.domain.isEmpty = true from rfl)]
  rfl
theorem ns_k29 : (Rows.namesRoundRow.pinned == Rows.namesRoundRow.pinnedBy) = true := by kernel_rfl
theorem ns_k30 : (Rows.namesRoundRow.veiled == (Tryz.f3.params.toList ++ Rows.namesRoundSpec.plain.varTypes Tryz.prog ++ Tryz.f3.resultTypes.toList).any (Tryz.prog.veiledRec ·)) = true := by kernel_rfl
theorem ns_k31 : Rows.namesRoundRow.veiledFits Tryz.prog Tryz.f3.params.toList (Tryz.f3.params.toList ++ Rows.namesRoundSpec.plain.varTypes Tryz.prog ++ Tryz.f3.resultTypes.toList) = true := by kernel_rfl
end Go.Proofs.YtnjpdipombnigaaGreatDoor
