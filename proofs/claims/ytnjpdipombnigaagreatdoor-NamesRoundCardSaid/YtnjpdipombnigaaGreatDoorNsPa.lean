/-
  NamesRound: the listed tables, and where the call begins.
-/
import Derived.Test.YtnjpdipombnigaaGreatDoorRows
import Derived.Test.YtnjpdipombnigaaGreatDoorNsTi
import Derived.Test.YtnjpdipombnigaaGreatDoorNsT
import Derived.Test.YtnjpdipombnigaaGreatDoorNsI
import Derived.ProofKit
import Derived.LaidMore
import Derived.OpenShut
import Derived.Stop.Joined
import Derived.Stop.LaidErr
import Derived.SevenTiedAt
import Derived.Test.YtnjpdipombnigaaGreatDoorNoGo
import Derived.ChangeOld
import Derived.ChangeMaps5
import Derived.Carry
namespace Go.Proofs.YtnjpdipombnigaaGreatDoor
open Go.ChangeShapes Go.WideShapes Go.ChangeAt Go.WideMaps Go.WideElems Go.RowKit

theorem namesRound_laidOut : laidOutB Tryz.prog = true := by kernel_rfl
theorem namesRound_own : ownKnob Tryz.prog.godebug = none := by kernel_rfl
theorem namesRound_tabs {W : World} (h : laidMetH Tryz.prog Rows.namesRoundRow.laid W) : Ev.TabsIn W Ev.nsTabs := by
  rw [MakeChecks.laidMetH_plain _ _ _ ns_t_p] at h
  have h1 := Ev.TabsIn_of_laid h
  intro g l hm
  have hm : (g, l) ∈ [Ev.nsG0, Ev.nsG1, Ev.nsG2, Ev.nsG3, Ev.nsG5] := hm
  simp only [List.mem_cons, List.not_mem_nil, or_false] at hm
  rcases hm with hm | hm | hm | hm | hm
  · exact h1 g l (by rw [hm]; exact List.mem_of_getElem? (i := 1) (show (Ev.tabsOf Tryz.prog Rows.namesRoundRow.laid)[1]? = some Ev.nsG0 by kernel_rfl))
  · exact h1 g l (by rw [hm]; exact List.mem_of_getElem? (i := 0) (show (Ev.tabsOf Tryz.prog Rows.namesRoundRow.laid)[0]? = some Ev.nsG1 by kernel_rfl))
  · exact h1 g l (by rw [hm]; exact List.mem_of_getElem? (i := 3) (show (Ev.tabsOf Tryz.prog Rows.namesRoundRow.laid)[3]? = some Ev.nsG2 by kernel_rfl))
  · exact h1 g l (by rw [hm]; exact List.mem_of_getElem? (i := 2) (show (Ev.tabsOf Tryz.prog Rows.namesRoundRow.laid)[2]? = some Ev.nsG3 by kernel_rfl))
  · exact h1 g l (by rw [hm]; exact List.mem_of_getElem? (i := 4) (show (Ev.tabsOf Tryz.prog Rows.namesRoundRow.laid)[4]? = some Ev.nsG5 by kernel_rfl))
theorem namesRound_door (os : Os) (args : Array Value) : laidMetH Tryz.prog Rows.namesRoundRow.laid ((World.doorLaid Tryz.prog 400 os).forCall (fun _ _ => 0) ⟨#[], args, []⟩).memory := by
  rw [MakeChecks.laidMetH_plain _ _ _ ns_t_p]
  refine laidMet.of_heap (w := (varsWorld Tryz.prog 400 (varsId Tryz.prog) os (fun _ _ => 0)).memory) ?_ (laidMet_of_run' 8 (ns_t_1 os _) (and_map (fun _ hx => decide_eq_true (rowsRise_ok (List.mem_cons_self ..) hx).1) (ns_t_2a os _) (ns_t_2b os _)))
  simp [World.forCall, World.memory, Input.heap, World.doorLaid]
end Go.Proofs.YtnjpdipombnigaaGreatDoor
