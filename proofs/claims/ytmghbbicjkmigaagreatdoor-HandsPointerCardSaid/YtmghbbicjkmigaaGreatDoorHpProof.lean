/-
  Proved: HandsPointer answers true for every input; the card ties the listed tables to the program's text.
-/
import Derived.Test.YtmghbbicjkmigaaGreatDoorHpPa
import Derived.Test.YtmghbbicjkmigaaGreatDoorHpPf
import Derived.Test.YtmghbbicjkmigaaGreatDoorHpPg
import Derived.Test.YtmghbbicjkmigaaGreatDoorHpZ
import Derived.Test.YtmghbbicjkmigaaGreatDoorHpTi
import Derived.Test.YtmghbbicjkmigaaGreatDoorCards
namespace Go.Proofs.YtmghbbicjkmigaaGreatDoor
open Go.ChangeShapes Go.WideShapes Go.ChangeAt Go.WideMaps Go.WideElems Go.RowKit

set_option maxRecDepth 100000 in
theorem handsPointer_lifted (os : Os) (started : os.Started) (H : Type) (enc : TypeId × Value → H) :
    ReturnsInHanded {} Tryz.checked os 3 .any (fun w args => (Rows.handsPointerSpec.pre enc Tryz.prog Tryz.f3 [] false w args ∧ laidMetH Tryz.prog Rows.handsPointerRow.laid w) ∧ sizedMet enc Tryz.prog Tryz.f3 (OpenSpec.ofChange Rows.handsPointerSpec) false w args)
      (Rows.handsPointerSpec.post enc Tryz.prog Tryz.f3 false true false false) := by
  refine returnsInHanded_of_change_and (C := Tryz.checked) (X := fun w _ => laidMetH Tryz.prog Rows.handsPointerRow.laid w) (fun _ _ _ hh h => h.of_heap hh) handsPointer_own started (by kernel_rfl) Tryz.func3
    (ChangeSpec.witness_shaped (enc := enc) (C := Tryz.checked) (os := os) (X := fun w _ => laidMetH Tryz.prog Rows.handsPointerRow.laid w) false (World.doorLaid Tryz.prog 400 os) #[.agg #[.int .u8 0, .int .u8 0, .int .u8 0, .int .u8 0], .agg #[.int .i16 0, .int .i16 0]] 8 rfl (World.shaped_of_RefB (by kernel_rfl) (by kernel_rfl)) (by kernel_rfl) (by kernel_rfl) (by kernel_rfl) (handsPointer_door os _)) ?_
  intro W base args ds gs before hval0 hW _ hsz0 hL _
  have hval : ∀ (j : Nat) t v, Tryz.f3.params[j]? = some t → args[j]? = some v → Value.okWide Tryz.prog W .any base t v := hval0
  have hW' := hW
  obtain ⟨p, q, hA0, hV, rfl, hfz, hnd⟩ := hW
  have hA : DataW.TrodAll enc Tryz.prog W 0 (fun _ => true) true Tryz.f3.params.toList args.toList ds p := hA0
  clear hsz0
  rw [Tryz.params3] at hA hval
  obtain ⟨v0, v1, d0, d1, p0, p1, rfl, rfl, rfl, h0, h1⟩ := trodAll_two hA
  obtain ⟨rfl, rfl⟩ := trodVars_none hV
  have k0 := h0
  have lt0 : ∀ x ∈ p0, x.block < W.heap.size := by obtain ⟨m, hm⟩ := k0; exact DataW.trod_lt m _ _ _ hm
  obtain ⟨q00, q01, q02, q03, rfl, b00, b01, b02, b03⟩ := Ev.array4_in Tryz.underlying22 Tryz.underlying5 (by kernel_rfl) (by kernel_rfl) (hval 0 22 v0 rfl rfl) h0
  have k1 := h1
  have lt1 : ∀ x ∈ p1, x.block < W.heap.size := by obtain ⟨m, hm⟩ := k1; exact DataW.trod_lt m _ _ _ hm
  obtain ⟨q10, q11, rfl, b10, b11⟩ := Ev.array2_in Tryz.underlying24 Tryz.underlying23 (by kernel_rfl) (by kernel_rfl) (hval 1 24 v1 rfl rfl) h1
  clear hA0 hval0
  refine (Ev.pointer_any (handsPointer_tabs hL) b00 b01 b02 b03 b10 b11).mono fun e W' ⟨he, bel⟩ => ?_
  subst he
  exact ⟨_, rfl, _, _, _, [], _, [], hW', trodAll_mk1 (shut_bool Tryz.underlying4 _), (trodAll_mk2 (Below.trod handsPointer_laidOut (by kernel_rfl) (of_decide_eq_true (by kernel_rfl)) k0 bel lt0) (Below.trod handsPointer_laidOut (by kernel_rfl) (of_decide_eq_true (by kernel_rfl)) k1 bel lt1)), rfl, bel.frame _, fun h => by cases h⟩

theorem and_in {a b : Bool} (h : a = true) (k : b = true) : (a && b) = true := by rw [h, k]; rfl
theorem handsPointer_facts : joinedFacts Tryz.prog 3 Tryz.f3 Rows.handsPointerSpec Rows.handsPointerRow = true := by
  unfold joinedFacts
  exact (and_in (and_in (and_in (and_in (and_in (and_in (and_in (and_in (and_in (and_in (and_in (and_in (and_in (and_in (and_in (and_in (and_in (and_in (and_in (and_in (and_in (and_in (and_in (and_in (and_in (and_in (and_in (and_in (and_in (and_in (and_in hp_k0 hp_k1) hp_k2) hp_k3) hp_k4) hp_k5) hp_k6) hp_k7) hp_k8) hp_k9) hp_k10) hp_k11) hp_k12) hp_k13) hp_k14) hp_k15) hp_k16) hp_k17) hp_k18) hp_k19) hp_k20) hp_k21) hp_k22) hp_k23) hp_k24) hp_k25) hp_k26) hp_k27) hp_k28) hp_k29) hp_k30) hp_k31)
theorem handsPointer_holds : Rows.HandsPointerSaid :=
  OpenClaim.holds_of_wide 3 Tryz.f3 rfl rfl rfl rfl rfl rfl rfl ⟨rfl, rfl, rfl, rfl, rfl⟩ rfl rfl rfl rfl rfl (by kernel_rfl) Tryz.func3 handsPointer_facts
    (of_decide_eq_true (by kernel_rfl)) (by unfold Func.isWrapper; first | (rw [if_pos (by decide +kernel)]; kernel_rfl) | (rw [if_neg (by decide +kernel)]; exact ⟨rfl, rfl⟩))
    (fun os started H enc _ => handsPointer_lifted os started H enc)

theorem handsPointer_card : Rows.HandsPointerCardSaid :=
  Claim7.holds_tied_plain_at .later [] [.data, .data, .data, .listed, .data, .data] true (true, "073c4e0abea239df735963850239d038717f9848456dadccd79ed74bbcf53b72") true
    handsPointer_holds (fun _ h => by cases h) (by kernel_rfl) (fun _ h => by cases h) hp_row_tie rfl ⟨rfl, rfl⟩ (by kernel_rfl) rfl
    (fun f fn hf hfn => by
      obtain rfl : f = 3 := Option.some.inj ((show Tryz.prog.funcNamed "glazier/glazierlaw49.HandsPointer" = some 3 by kernel_rfl).symm.trans hf) |>.symm
      obtain rfl : fn = Tryz.f3 := (Option.some.inj (Tryz.func3.symm.trans hfn)).symm
      exact ⟨by kernel_rfl, fun j t ht => by
        rw [Tryz.params3] at ht
        have h3 : t = 22 ∨ t = 24 := by
          rcases j with _ | _ | j
          · exact .inl (by simpa using ht.symm)
          · exact .inr (by simpa using ht.symm)
          · simp at ht
        rcases h3 with rfl | rfl
        · exact (show Tryz.prog.wantsStandIn 22 = false by kernel_rfl)
        · exact (show Tryz.prog.wantsStandIn 24 = false by kernel_rfl)⟩)
    (goes_row Rows.handsPointerRow)
#print axioms handsPointer_card
end Go.Proofs.YtmghbbicjkmigaaGreatDoor
