/-
  Proved: HandsCodes answers true for every input; the card ties the listed tables to the program's text.
-/
import Derived.Test.YtbjllaknnpbkkaaGreatDoorHcPb
namespace Go.Proofs.YtbjllaknnpbkkaaGreatDoor
open Go.ChangeShapes Go.WideShapes Go.ChangeAt Go.WideMaps Go.WideElems Go.RowKit

theorem handsCodes_inPlace : (Rows.handsCodesRow.inPlace == Tryz.prog.inPlace 3) = true := by kernel_rfl
theorem handsCodes_unf : (Rows.handsCodesRow.unfollowed == Tryz.prog.unfollowed 3) = true := by kernel_rfl
theorem handsCodes_rec : (Rows.handsCodesRow.recurses == Tryz.prog.recurses 3) = true := by kernel_rfl
theorem handsCodes_named : (Rows.handsCodesRow.named == Tryz.prog.varsNamed 3) = true := by kernel_rfl
theorem handsCodes_facts : joinedFacts Tryz.prog 3 Tryz.f3 Rows.handsCodesSpec Rows.handsCodesRow = true := by
  unfold joinedFacts
  rw [handsCodes_inPlace, handsCodes_unf, handsCodes_rec, handsCodes_named]
  kernel_rfl
theorem handsCodes_holds : Rows.HandsCodesSaid :=
  OpenClaim.holds_of_wide 3 Tryz.f3 rfl rfl rfl rfl rfl rfl rfl ⟨rfl, rfl, rfl, rfl, rfl⟩ rfl rfl rfl rfl rfl (by kernel_rfl) Tryz.func3 handsCodes_facts
    (of_decide_eq_true (by kernel_rfl)) (by unfold Func.isWrapper; first | (rw [if_pos (by decide +kernel)]; kernel_rfl) | (rw [if_neg (by decide +kernel)]; exact ⟨rfl, rfl⟩))
    (fun os started H enc _ => handsCodes_lifted os started H enc)

theorem handsCodes_card : Rows.HandsCodesCardSaid :=
  Claim7.holds_tied_plain_at .later [] [.data, .data, .data, .listed, .data, .data] true (true, "56064c9794bcec415d1c122176538a8d6b61430d8d90866a785de6963103f4e6") true
    handsCodes_holds (fun _ h => by cases h) (by kernel_rfl) (fun _ h => by cases h) handsCodes_row_tie rfl ⟨rfl, rfl⟩ (by kernel_rfl) rfl
    (fun f fn hf hfn => by
      obtain rfl : f = 3 := Option.some.inj ((show Tryz.prog.funcNamed "glazier/glazierlaw49.HandsCodes" = some 3 by kernel_rfl).symm.trans hf) |>.symm
      obtain rfl : fn = Tryz.f3 := (Option.some.inj (Tryz.func3.symm.trans hfn)).symm
      exact ⟨by kernel_rfl, fun j t ht => by
        rw [Tryz.params3] at ht
        have h3 : t = 3 ∨ t = 22 := by
          rcases j with _ | _ | j
          · exact .inl (by simpa using ht.symm)
          · exact .inr (by simpa using ht.symm)
          · simp at ht
        rcases h3 with rfl | rfl
        · exact (show Tryz.prog.wantsStandIn 3 = false by kernel_rfl)
        · exact (show Tryz.prog.wantsStandIn 22 = false by kernel_rfl)⟩)
    (goes_row Rows.handsCodesRow)
#print axioms handsCodes_card
end Go.Proofs.YtbjllaknnpbkkaaGreatDoor
