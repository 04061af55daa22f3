/-
  Proved: HandsGranted answers true for every input; the card ties the listed tables to the program's text.
-/
import Derived.Test.YtanapnlfdoebdaaGreatDoorHgPa
import Derived.Test.YtanapnlfdoebdaaGreatDoorHgPf
import Derived.Test.YtanapnlfdoebdaaGreatDoorHgPg
import Derived.Test.YtanapnlfdoebdaaGreatDoorHgZ
import Derived.Test.YtanapnlfdoebdaaGreatDoorHgTi
import Derived.Test.YtanapnlfdoebdaaGreatDoorCards
namespace Go.Proofs.YtanapnlfdoebdaaGreatDoor
open Go.ChangeShapes Go.WideShapes Go.ChangeAt Go.WideMaps Go.WideElems Go.RowKit

set_option maxRecDepth 100000 in
theorem handsGranted_lifted (hgc : ∀ {w : World}, Ev.TabsIn w Ev.hgTabs → ∀ {q0 q1 q2 : Int}, 0 ≤ q0 ∧ q0 ≤ 255 → 0 ≤ q1 ∧ q1 ≤ 255 → 0 ≤ q2 ∧ q2 ≤ 255 → ∀ {v : Value} {xs : List Int}, Ev.IntsIn w v xs → (∀ x ∈ xs, Ev.InR x) →
      Calls Tryz.prog 3 #[.agg #[.int .u8 q0, .int .u8 q1, .int .u8 q2], v] w fun e w' => e = .returned (.bool true) ∧ Below w.heap.size w w') (os : Os) (started : os.Started) (H : Type) (enc : TypeId × Value → H) :
    ReturnsInHanded {} Tryz.checked os 3 .any (fun w args => (Rows.handsGrantedSpec.pre enc Tryz.prog Tryz.f3 [] false w args ∧ laidMetH Tryz.prog Rows.handsGrantedRow.laid w) ∧ sizedMet enc Tryz.prog Tryz.f3 (OpenSpec.ofChange Rows.handsGrantedSpec) false w args)
      (Rows.handsGrantedSpec.post enc Tryz.prog Tryz.f3 false true false false) := by
  refine returnsInHanded_of_change_and (C := Tryz.checked) (X := fun w _ => laidMetH Tryz.prog Rows.handsGrantedRow.laid w) (fun _ _ _ hh h => h.of_heap hh) handsGranted_own started (by kernel_rfl) Tryz.func3
    (ChangeSpec.witness_shaped (enc := enc) (C := Tryz.checked) (os := os) (X := fun w _ => laidMetH Tryz.prog Rows.handsGrantedRow.laid w) false (World.doorLaid Tryz.prog 400 os) #[.agg #[.int .u8 0, .int .u8 0, .int .u8 0], .slice none 0 0] 8 rfl (World.shaped_of_RefB (by kernel_rfl) (by kernel_rfl)) (by kernel_rfl) (by kernel_rfl) (by kernel_rfl) (handsGranted_door os _)) ?_
  intro W base args ds gs before hval0 hW _ hsz0 hL _
  have hval : ∀ (j : Nat) t v, Tryz.f3.params[j]? = some t → args[j]? = some v → Value.okWide Tryz.prog W .any base t v := hval0
  have hW' := hW
  obtain ⟨p, q, hA0, hV, rfl, hfz, hnd⟩ := hW
  have hA : DataW.TrodAll enc Tryz.prog W 0 (fun _ => true) true Tryz.f3.params.toList args.toList ds p := hA0
  clear hsz0
  rw [Tryz.params3] at hA hval
  obtain ⟨v0, v1, d0, d1, p0, p1, rfl, rfl, rfl, h0, h1⟩ := trodAll_two hA
  obtain ⟨rfl, rfl⟩ := trodVars_none hV
  have k0 := h0
  have lt0 : ∀ x ∈ p0, x.block < W.heap.size := by obtain ⟨m, hm⟩ := k0; exact DataW.trod_lt m _ _ _ hm
  obtain ⟨q00, q01, q02, rfl, b00, b01, b02⟩ := Ev.bytes3_in Tryz.underlying22 Tryz.underlying5 (by kernel_rfl) (by kernel_rfl) (hval 0 22 v0 rfl rfl) h0
  obtain ⟨a1, len1, cap1, rfl⟩ := okWide_slice Tryz.underlying23 (hval 1 23 v1 rfl rfl)
  have k1 := h1
  have lt1 : ∀ x ∈ p1, x.block < W.heap.size := by obtain ⟨m, hm⟩ := k1; exact DataW.trod_lt m _ _ _ hm
  obtain ⟨fuel1, hf1⟩ := h1
  obtain ⟨xs1, hI1, hR1⟩ := Ev.ints_in Tryz.underlying23 Tryz.underlying2 (by kernel_rfl) (by simpa [Value.cells] using hf1)
  clear hA0 hval0
  refine (hgc (handsGranted_tabs hL) b00 b01 b02 hI1 hR1).mono fun e W' ⟨he, bel⟩ => ?_
  subst he
  exact ⟨_, rfl, _, _, _, [], _, [], hW', trodAll_mk1 (shut_bool Tryz.underlying4 _), (trodAll_mk2 (Below.trod handsGranted_laidOut (by kernel_rfl) (of_decide_eq_true (by kernel_rfl)) k0 bel lt0) (Below.trod handsGranted_laidOut (by kernel_rfl) (of_decide_eq_true (by kernel_rfl)) k1 bel lt1)), rfl, bel.frame _, fun h => by cases h⟩

theorem hg_k28x {X : List (Option IntKind)} : (Rows.handsGrantedRow.kinds == (if Rows.handsGrantedRow.domain.isEmpty then [] else X)) = true := by
  rw [if_pos (show Rows.handsGrantedRow.domain.isEmpty = true from rfl)]
  rfl
theorem and_in {a b : Bool} (h : a = true) (k : b = true) : (a && b) = true := by rw [h, k]; rfl
theorem handsGranted_facts : joinedFacts Tryz.prog 3 Tryz.f3 Rows.handsGrantedSpec Rows.handsGrantedRow = true := by
  unfold joinedFacts
  exact (and_in (and_in (and_in (and_in (and_in (and_in (and_in (and_in (and_in (and_in (and_in (and_in (and_in (and_in (and_in (and_in (and_in (and_in (and_in (and_in (and_in (and_in (and_in (and_in (and_in (and_in (and_in (and_in (and_in (and_in (and_in hg_k0 hg_k1) hg_k2) hg_k3) hg_k4) hg_k5) hg_k6) hg_k7) hg_k8) hg_k9) hg_k10) hg_k11) hg_k12) hg_k13) hg_k14) hg_k15) hg_k16) hg_k17) hg_k18) hg_k19) hg_k20) hg_k21) hg_k22) hg_k23) hg_k24) hg_k25) hg_k26) hg_k27) hg_k28x) hg_k29) hg_k30) hg_k31)
theorem handsGranted_holds : Rows.HandsGrantedSaid :=
  OpenClaim.holds_of_wide 3 Tryz.f3 rfl rfl rfl rfl rfl rfl rfl ⟨rfl, rfl, rfl, rfl, rfl⟩ rfl rfl rfl rfl rfl (by kernel_rfl) Tryz.func3 handsGranted_facts
    (of_decide_eq_true (by kernel_rfl)) (by unfold Func.isWrapper; first | (rw [if_pos (by decide +kernel)]; kernel_rfl) | (rw [if_neg (by decide +kernel)]; exact ⟨rfl, rfl⟩))
    (fun os started H enc _ => handsGranted_lifted (fun ht _ _ _ h0 h1 h2 _ _ hv hx => Ev.granted_calls ht h0 h1 h2 hv hx) os started H enc)

theorem handsGranted_card : Rows.HandsGrantedCardSaid :=
  Claim7.holds_tied_plain_at .later [] [.data, .data, .data, .listed, .data, .data, .data, .data, .data, .data] true (true, "6abe61d16055e5aba18cb181aad81a177da90c8a7def527db7577a8cf30a9889") true
    handsGranted_holds (fun _ h => by cases h) (by kernel_rfl) (fun _ h => by cases h) hg_row_tie rfl ⟨rfl, rfl⟩ (by kernel_rfl) rfl
    (fun f fn hf hfn => by
      obtain rfl : f = 3 := Option.some.inj ((show Tryz.prog.funcNamed "glazier/glazierlaw49.HandsGranted" = some 3 by kernel_rfl).symm.trans hf) |>.symm
      obtain rfl : fn = Tryz.f3 := (Option.some.inj (Tryz.func3.symm.trans hfn)).symm
      exact ⟨by kernel_rfl, fun j t ht => by
        rw [Tryz.params3] at ht
        have h3 : t = 22 ∨ t = 23 := by
          rcases j with _ | _ | j
          · exact .inl (by simpa using ht.symm)
          · exact .inr (by simpa using ht.symm)
          · simp at ht
        rcases h3 with rfl | rfl
        · exact (show Tryz.prog.wantsStandIn 22 = false by kernel_rfl)
        · exact (show Tryz.prog.wantsStandIn 23 = false by kernel_rfl)⟩)
    (goes_row Rows.handsGrantedRow)
#print axioms handsGranted_card
end Go.Proofs.YtanapnlfdoebdaaGreatDoor
