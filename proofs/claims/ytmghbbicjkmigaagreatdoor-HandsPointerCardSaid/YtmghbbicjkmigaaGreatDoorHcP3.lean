/-
  HandsCodes: the example is true.
-/
import Derived.Test.YtmghbbicjkmigaaGreatDoorHcP1
import Derived.Test.YtmghbbicjkmigaaGreatDoorHcP2
namespace Go.Proofs.YtmghbbicjkmigaaGreatDoor
namespace Ev
open Go.RowKit
theorem hc_mix : Tryz.prog.follows .mixedOrders = true := by decide
theorem hc_names : (Tryz.prog.funcs.toList.all fun fn => fn.name != "runtime.NumGoroutine") = true := by kernel_rfl
theorem hc_aw : Tryz.prog.funcs[7]? = some Tryz.f7 := by kernel_rfl
theorem evN_ok : RecOk Tryz.prog 100000 evN := ev_ok hc_mix noCtr_ok (names_of hc_names) 100000
theorem evM4_ok : RecOk Tryz.prog 100000 evM4 := ev_ok hc_mix (ctrU_ok noCtr_ok fun {args s v s'} h => mems_ok (tabs := icT) (ctr := fun _ => none) (n := 100000) (l := [ic2, ic3, ic4]) noCtr_ok hc_mix hc_names (fun M hM => by
  rcases List.mem_cons.1 hM with rfl | hM
  · exact ic2_chk
  · rcases List.mem_cons.1 hM with rfl | hM
    · exact ic3_chk
    · rcases List.mem_cons.1 hM with rfl | hM
      · exact ic4_chk
      · cases hM) h) (names_of hc_names) 100000
theorem awake_calls {w : World} (ht : TabsIn w hcTabs) : Calls Tryz.prog 7 #[] w fun e w' => e = .returned (.bool true) ∧ Below w.heap.size w w' := by
  refine goT_call hc_aw aw_body (goT_part (t := aw0) evN_ok aw_1 ?_) ht
  rw [aw_parts]
  exact goT_loop evN_ok aw_2 (rnds_step evN_ok aw_3 (rnds_step evN_ok aw_4 (rnds_step evN_ok aw_5 (rnds_step evM4_ok aw_6 (rnds_exit evN_ok aw_7))))) (goT_end evN_ok aw_8)
end Ev
end Go.Proofs.YtmghbbicjkmigaaGreatDoor
