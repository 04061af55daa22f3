/-
  HandsCodes: the listed tables, and where the call begins.
-/
import Derived.Test.YtbjllaknnpbkkaaGreatDoorRows
import Derived.Test.YtbjllaknnpbkkaaGreatDoorCards
import Derived.Test.YtbjllaknnpbkkaaGreatDoorTie
import Derived.Test.YtbjllaknnpbkkaaGreatDoorHcZ
import Derived.ProofKit
import Derived.LaidMore
import Derived.OpenShut
import Derived.Stop.Joined
import Derived.Stop.LaidErr
import Derived.SevenTiedAt
import Derived.Test.YtbjllaknnpbkkaaGreatDoorNoGo
import Derived.ChangeOld
import Derived.Carry
namespace Go.Proofs.YtbjllaknnpbkkaaGreatDoor
open Go.ChangeShapes Go.WideShapes Go.ChangeAt Go.WideMaps Go.WideElems Go.RowKit

theorem handsCodes_laidOut : laidOutB Tryz.prog = true := by kernel_rfl
theorem handsCodes_own : ownKnob Tryz.prog.godebug = none := by kernel_rfl
theorem handsCodes_tabs {W : World} (h : laidMetH Tryz.prog Rows.handsCodesRow.laid W) : Ev.TabsIn W Ev.hcTabs := by
  rw [MakeChecks.laidMetH_plain _ _ _ (by kernel_rfl)] at h
  have h1 := Ev.TabsIn_of_laid h
  intro g l hm
  have hm : (g, l) ∈ [Ev.hcT0, Ev.hcT1, Ev.hcT3, Ev.hcT5] := hm
  simp only [List.mem_cons, List.not_mem_nil, or_false] at hm
  rcases hm with hm | hm | hm | hm
  · exact h1 g l (by rw [hm]; exact List.mem_of_getElem? (i := 0) (show (Ev.tabsOf Tryz.prog Rows.handsCodesRow.laid)[0]? = some Ev.hcT0 by kernel_rfl))
  · exact h1 g l (by rw [hm]; exact List.mem_of_getElem? (i := 3) (show (Ev.tabsOf Tryz.prog Rows.handsCodesRow.laid)[3]? = some Ev.hcT1 by kernel_rfl))
  · exact h1 g l (by rw [hm]; exact List.mem_of_getElem? (i := 2) (show (Ev.tabsOf Tryz.prog Rows.handsCodesRow.laid)[2]? = some Ev.hcT3 by kernel_rfl))
  · exact h1 g l (by rw [hm]; exact List.mem_of_getElem? (i := 4) (show (Ev.tabsOf Tryz.prog Rows.handsCodesRow.laid)[4]? = some Ev.hcT5 by kernel_rfl))
theorem handsCodes_door (os : Os) (args : Array Value) : laidMetH Tryz.prog Rows.handsCodesRow.laid ((World.doorLaid Tryz.prog 72 os).forCall (fun _ _ => 0) ⟨#[], args, []⟩).memory :=
  laidMetH_of_parts3 (fuel := 8) (laidMet_of_run' 8 (by kernel_rfl) (by kernel_rfl)) (by kernel_rfl) (by kernel_rfl)

end Go.Proofs.YtbjllaknnpbkkaaGreatDoor
