/-
  HandsPointer: the listed tables, and where the call begins.
-/
import Derived.Test.YtmghbbicjkmigaaGreatDoorRows
import Derived.Test.YtmghbbicjkmigaaGreatDoorHpTi
import Derived.Test.YtmghbbicjkmigaaGreatDoorHc
import Derived.Test.YtmghbbicjkmigaaGreatDoorHpA
import Derived.ProofKit
import Derived.LaidMore
import Derived.OpenShut
import Derived.Stop.Joined
import Derived.Stop.LaidErr
import Derived.SevenTiedAt
import Derived.Test.YtmghbbicjkmigaaGreatDoorNoGo
import Derived.ChangeOld

import Derived.Carry
namespace Go.Proofs.YtmghbbicjkmigaaGreatDoor
open Go.ChangeShapes Go.WideShapes Go.ChangeAt Go.WideMaps Go.WideElems Go.RowKit

theorem handsPointer_laidOut : laidOutB Tryz.prog = true := by kernel_rfl
theorem handsPointer_own : ownKnob Tryz.prog.godebug = none := by kernel_rfl
theorem handsPointer_tabs {W : World} (h : laidMetH Tryz.prog Rows.handsPointerRow.laid W) : Ev.TabsIn W Ev.hpTabs := by
  rw [MakeChecks.laidMetH_plain _ _ _ hp_t_p] at h
  have h1 := Ev.TabsIn_of_laid h
  intro g l hm
  have hm : (g, l) ∈ [Ev.hcT1, Ev.hcT2, Ev.hcT3, Ev.hcT5] := hm
  simp only [List.mem_cons, List.not_mem_nil, or_false] at hm
  rcases hm with hm | hm | hm | hm
  · exact h1 g l (by rw [hm]; exact List.mem_of_getElem? (i := 0) (show (Ev.tabsOf Tryz.prog Rows.handsPointerRow.laid)[0]? = some Ev.hcT1 by kernel_rfl))
  · exact h1 g l (by rw [hm]; exact List.mem_of_getElem? (i := 3) (show (Ev.tabsOf Tryz.prog Rows.handsPointerRow.laid)[3]? = some Ev.hcT2 by kernel_rfl))
  · exact h1 g l (by rw [hm]; exact List.mem_of_getElem? (i := 2) (show (Ev.tabsOf Tryz.prog Rows.handsPointerRow.laid)[2]? = some Ev.hcT3 by kernel_rfl))
  · exact h1 g l (by rw [hm]; exact List.mem_of_getElem? (i := 4) (show (Ev.tabsOf Tryz.prog Rows.handsPointerRow.laid)[4]? = some Ev.hcT5 by kernel_rfl))
theorem handsPointer_door (os : Os) (args : Array Value) : laidMetH Tryz.prog Rows.handsPointerRow.laid ((World.doorLaid Tryz.prog 400 os).forCall (fun _ _ => 0) ⟨#[], args, []⟩).memory := by
  rw [MakeChecks.laidMetH_plain _ _ _ hp_t_p]
  refine laidMet.of_heap (w := (varsWorld Tryz.prog 400 (varsId Tryz.prog) os (fun _ _ => 0)).memory) ?_ (laidMet_of_run' 8 (hp_t_1 os _) (and_map (fun _ hx => decide_eq_true (rowsRise_ok (List.mem_cons_self ..) hx).1) (hp_t_2a os _) (hp_t_2b os _)))
  simp [World.forCall, World.memory, Input.heap, World.doorLaid]
end Go.Proofs.YtmghbbicjkmigaaGreatDoor
