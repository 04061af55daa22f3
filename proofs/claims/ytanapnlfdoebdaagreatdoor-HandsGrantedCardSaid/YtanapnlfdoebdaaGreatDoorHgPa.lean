/-
  HandsGranted: the listed tables, and where the call begins.
-/
import Derived.Test.YtanapnlfdoebdaaGreatDoorRows
import Derived.Test.YtanapnlfdoebdaaGreatDoorHgTi
import Derived.Test.YtanapnlfdoebdaaGreatDoorHe
import Derived.ProofKit
import Derived.LaidMore
import Derived.OpenShut
import Derived.Stop.Joined
import Derived.Stop.LaidErr
import Derived.SevenTiedAt
import Derived.Test.YtanapnlfdoebdaaGreatDoorNoGo
import Derived.ChangeOld

import Derived.Carry
namespace Go.Proofs.YtanapnlfdoebdaaGreatDoor
open Go.ChangeShapes Go.WideShapes Go.ChangeAt Go.WideMaps Go.WideElems Go.RowKit

theorem handsGranted_laidOut : laidOutB Tryz.prog = true := by kernel_rfl
theorem handsGranted_own : ownKnob Tryz.prog.godebug = none := by kernel_rfl
theorem handsGranted_tabs {W : World} (h : laidMetH Tryz.prog Rows.handsGrantedRow.laid W) : Ev.TabsIn W Ev.hgTabs := by
  rw [MakeChecks.laidMetH_plain _ _ _ hg_t_p] at h
  have h1 := Ev.TabsIn_of_laid h
  intro g l hm
  have hm : (g, l) ∈ [Ev.hgT0, Ev.hcT1, Ev.hcT2, Ev.hgT3, Ev.hcT5, Ev.hcT7] := hm
  simp only [List.mem_cons, List.not_mem_nil, or_false] at hm
  rcases hm with hm | hm | hm | hm | hm | hm
  · exact h1 g l (by rw [hm]; exact List.mem_of_getElem? (i := 8) (show (Ev.tabsOf Tryz.prog Rows.handsGrantedRow.laid)[8]? = some Ev.hgT0 by kernel_rfl))
  · exact h1 g l (by rw [hm]; exact List.mem_of_getElem? (i := 4) (show (Ev.tabsOf Tryz.prog Rows.handsGrantedRow.laid)[4]? = some Ev.hcT1 by kernel_rfl))
  · exact h1 g l (by rw [hm]; exact List.mem_of_getElem? (i := 2) (show (Ev.tabsOf Tryz.prog Rows.handsGrantedRow.laid)[2]? = some Ev.hcT2 by kernel_rfl))
  · exact h1 g l (by rw [hm]; exact List.mem_of_getElem? (i := 5) (show (Ev.tabsOf Tryz.prog Rows.handsGrantedRow.laid)[5]? = some Ev.hgT3 by kernel_rfl))
  · exact h1 g l (by rw [hm]; exact List.mem_of_getElem? (i := 3) (show (Ev.tabsOf Tryz.prog Rows.handsGrantedRow.laid)[3]? = some Ev.hcT5 by kernel_rfl))
  · exact h1 g l (by rw [hm]; exact List.mem_of_getElem? (i := 0) (show (Ev.tabsOf Tryz.prog Rows.handsGrantedRow.laid)[0]? = some Ev.hcT7 by kernel_rfl))
theorem handsGranted_door (os : Os) (args : Array Value) : laidMetH Tryz.prog Rows.handsGrantedRow.laid ((World.doorLaid Tryz.prog 400 os).forCall (fun _ _ => 0) ⟨#[], args, []⟩).memory := by
  rw [MakeChecks.laidMetH_plain _ _ _ hg_t_p]
  refine laidMet.of_heap (w := (varsWorld Tryz.prog 400 (varsId Tryz.prog) os (fun _ _ => 0)).memory) ?_ (laidMet_of_run' 8 (hg_t_1 os _) (and_map (fun _ hx => decide_eq_true (rowsRise_ok (List.mem_cons_self ..) hx).1) (hg_t_2a os _) (hg_t_2b os _)))
  simp [World.forCall, World.memory, Input.heap, World.doorLaid]
end Go.Proofs.YtanapnlfdoebdaaGreatDoor
