/-
  HandsCodes: the contracts.
  HandsCodes: a run for every length of what came in.
  A slice of whole numbers, as a row's argument gives it.
-/
import Derived.Test.YtanapnlfdoebdaaGreatDoorHcP3
import Derived.Test.YtanapnlfdoebdaaGreatDoorHa
import Derived.ChangeSlices
namespace Go.Proofs.YtanapnlfdoebdaaGreatDoor
namespace Ev
open Go.RowKit
theorem awake_enter : ∀ w, (callFunc 4 #[]).run Tryz.prog w = .ok (.enter 4 #[]) w := enters hc_aw (by kernel_rfl) aw_body #[]
noncomputable def ctrH : Ctr := ctrU 4 (knownTrue hcTabs) (ctrU 12 (knownLit hcTabs 65 158 st_v st_lits) fun _ => none)
theorem ctrH_ok : CtrOk Tryz.prog ctrH := ctrU_ok (ctrU_ok noCtr_ok fun {args s v s'} h => knownLit_ok noCtr_ok hc_mix hc_names start_run h) fun {args s v s'} h => knownC_ok awake_enter (fun w ht => awake_calls ht) h
noncomputable def evH : Rec := ev Tryz.prog ctrH 100000
theorem evH_ok : RecOk Tryz.prog 100000 evH := ev_ok hc_mix ctrH_ok (names_of hc_names) 100000
noncomputable def bnds (k : Nat) : Nat → List Fact
  | 0 => []
  | n + 1 => ⟨true, .var k, .lit (-9223372036854775808), false⟩ :: ⟨true, .lit 9223372036854775807, .var k, false⟩ :: bnds (Nat.succ k) n
/-- A code's leaves, of the right length. -/
noncomputable def hcC (f c k : Nat) (fs : List Fact) : Bool := okT (evH.call f [.int .i64 (Int.ofNat c), .aslice 64 0 k] (startR hcTabs (varsFrom .i64 2 k) (orcI fs)))
noncomputable def hcAll (f c k : Nat) (t : Tree) : Bool := t.all (hcC f c k) (bnds 2 k)
theorem all_leaf {chk : List Fact → Bool} {fs : List Fact} (h : chk fs = true) : Tree.leaf.all chk fs = true := h
theorem all_lt {chk : List Fact → Bool} {a b : SE} {y n : Tree} {fs : List Fact} (h1 : y.all chk (⟨true, a, b, true⟩ :: fs) = true) (h2 : n.all chk (⟨true, a, b, false⟩ :: fs) = true) : (Tree.lt a b y n).all chk fs = true := by
  rw [Tree.all, h1, h2]; rfl
theorem all_eq {chk : List Fact → Bool} {a b : SE} {y n : Tree} {fs : List Fact} (h1 : y.all chk (⟨false, a, b, true⟩ :: fs) = true) (h2 : n.all chk (⟨false, a, b, false⟩ :: fs) = true) : (Tree.eq a b y n).all chk fs = true := by
  rw [Tree.all, h1, h2]; rfl
end Ev
end Go.Proofs.YtanapnlfdoebdaaGreatDoor
namespace Go.Proofs.YtanapnlfdoebdaaGreatDoor
namespace Ev
open Go.RowKit

/-- Whole numbers that came in. -/
def IntsIn (w : World) (v : Value) (xs : List Int) : Prop :=
  (v = .slice none 0 0 ∧ xs = []) ∨ ∃ (a : Addr) (cap : Nat), v = .slice (some a) xs.length cap ∧ xs.length ≤ cap ∧ ∀ i x, xs[i]? = some x → w.cell? (a.add i) = some (.int .i64 x)
def InR (x : Int) : Prop := -9223372036854775808 ≤ x ∧ x ≤ 9223372036854775807
theorem intsIn_slice {w : World} {v : Value} {xs : List Int} (h : IntsIn w v xs) : ∃ a c, v = .slice a xs.length c := by
  rcases h with ⟨rfl, rfl⟩ | ⟨a, cap, rfl, _, _⟩
  · exact ⟨none, 0, rfl⟩
  · exact ⟨some a, cap, rfl⟩
theorem intsIn_row {w : World} {v : Value} {xs : List Int} (h : IntsIn w v xs) (hk : xs ≠ []) : ∃ b C c, v = .slice (some ⟨b, C, none⟩) xs.length c ∧ xs.length ≤ c ∧ RowIn w b C (xs.map (Value.int .i64)) := by
  rcases h with ⟨rfl, rfl⟩ | ⟨a, cap, rfl, hl, hc⟩
  · exact absurd rfl hk
  · obtain ⟨x0, r, rfl⟩ := List.exists_cons_of_ne_nil hk
    have h0 := hc 0 x0 rfl
    unfold World.cell? at h0
    split at h0
    case h_2 => cases h0
    rename_i c e f hh
    have hh : w.heap[a.block]? = some (.cells c e f) := hh
    split at h0
    · cases h0
    rename_i hs
    have hs : a.spot = none := by
      have hs' : ¬ (a.add 0).spot.isSome = true := hs
      cases ha : a.spot with
      | none => rfl
      | some z =>
        exfalso; apply hs'
        show (a.add 0).spot.isSome = true
        have : (a.add 0).spot = a.spot := rfl
        rw [this, ha]; rfl
    have hcell : ∀ i x, (x0 :: r)[i]? = some x → c[a.off + i]? = some (.int .i64 x) := by
      intro i x hi
      have h1 := hc i x hi
      unfold World.cell? at h1
      have e1 : a.add i = ⟨a.block, a.off + i, none⟩ := by
        obtain ⟨b, o, s⟩ := a
        have hs : s = none := hs
        subst hs
        unfold Addr.add
        split
        · rename_i hi0; subst hi0; rfl
        · rfl
      rw [e1] at h1
      rw [show w.heap[(⟨a.block, a.off + i, none⟩ : Addr).block]? = some (.cells c e f) from hh] at h1
      exact h1
    refine ⟨a.block, a.off, cap, ?_, hl, (Array.getElem?_eq_some_iff.1 hh).1, c, e, f, c.toList.drop (a.off + (x0 :: r).length), hh, ?_⟩
    · obtain ⟨b, o, s⟩ := a
      have hs : s = none := hs
      subst hs
      rfl
    · apply List.ext_getElem?
      intro i
      rw [List.getElem?_drop]
      by_cases hi : i < (x0 :: r).length
      · rw [List.getElem?_append_left (by simpa using hi), List.getElem?_map]
        have h2 : (x0 :: r)[i]? = some ((x0 :: r)[i]) := List.getElem?_eq_getElem hi
        rw [h2]
        have := hcell i _ h2
        rw [Array.getElem?_toList]
        exact this
      · rw [List.getElem?_append_right (by simpa using hi), List.getElem?_drop]
        congr 1
        simp at hi ⊢
        omega
theorem hc_open {w : World} (ht : TabsIn w hcTabs) {f : FuncId} {A : AV} {fs : List Fact} {code : Int} {v : Value} {xs : List Int} (hv : IntsIn w v xs) (hA : A = .int .i64 code ∨ A = .sint .i64 (.var 0))
    (hrun : okT (evH.call f [A, .oslice (.var 1)] (startC 65 hcTabs (orcI fs))) = true) (hf : ∀ g ∈ fs, g.holds (fun i => if i = 0 then code else (xs.length : Int))) :
    Calls Tryz.prog f #[.int .i64 code, v] w fun e w' => e = .returned (.bool true) ∧ Below w.heap.size w w' := by
  obtain ⟨a, c, rfl⟩ := intsIn_slice hv
  refine leafC_ok (ρ := fun i => if i = 0 then code else (xs.length : Int)) evH_ok (by decide) hrun ht hf ?_
  refine .cons ?_ (.cons (.oslice rfl) .nil)
  rcases hA with rfl | rfl
  · exact .int _ _
  · exact .sint .i64 (.var 0)
theorem bnds_ok {ρ : Nat → Int} : ∀ {n k : Nat}, (∀ i, k ≤ i → i < k + n → InR (ρ i)) → ∀ f ∈ bnds k n, f.holds ρ
  | 0, _, _, f, hf => by cases hf
  | n + 1, k, h, f, hf => by
    obtain ⟨h1, h2⟩ := h k (Nat.le_refl _) (by omega)
    rcases List.mem_cons.1 hf with rfl | hf
    · show false = decide (ρ k < -9223372036854775808)
      exact (decide_eq_false (by omega)).symm
    · rcases List.mem_cons.1 hf with rfl | hf
      · show false = decide (9223372036854775807 < ρ k)
        exact (decide_eq_false (by omega)).symm
      · exact bnds_ok (fun i h3 h4 => h i (by have : k + 1 ≤ i := h3; omega) (by have : i < k + 1 + n := h4; omega)) f hf
theorem hc_row {w : World} (ht : TabsIn w hcTabs) {f c : Nat} {t : Tree} {v : Value} {xs : List Int} (hv : IntsIn w v xs) (hx : ∀ x ∈ xs, InR x) (hk : xs ≠ []) (hrun : hcAll f c xs.length t = true) :
    Calls Tryz.prog f #[.int .i64 (c : Int), v] w fun e w' => e = .returned (.bool true) ∧ Below w.heap.size w w' := by
  obtain ⟨b, C, cp, rfl, hcp, hrow⟩ := intsIn_row hv hk
  have hρ : ∀ i x, xs[i]? = some x → (fun j : Nat => xs.getD (j - 2) 0) (2 + i) = x := by
    intro i x hi
    show xs.getD (2 + i - 2) 0 = x
    rw [Nat.add_sub_cancel_left, List.getD_eq_getElem?_getD, hi]
    rfl
  obtain ⟨fs, h1, h2⟩ := Tree.all_ok (fun j : Nat => xs.getD (j - 2) 0) hrun (bnds_ok fun i h3 h4 => by
    have h5 : i - 2 < xs.length := by omega
    have h6 := hρ (i - 2) _ (List.getElem?_eq_getElem h5)
    rw [show 2 + (i - 2) = i by omega] at h6
    have h6 : xs.getD (i - 2) 0 = xs[i - 2] := h6
    show InR (xs.getD (i - 2) 0)
    rw [h6]
    exact hx _ (List.getElem_mem h5))
  exact leafR_ok (ρ := fun j : Nat => xs.getD (j - 2) 0) (b := b) (C := C) evH_ok h1 ht h2 hrow (varsFrom_rel fun i x hi => hρ i x hi)
    (.cons (.int _ _) (.cons (.aslice (b := b) (C := C) (by rw [show envR (fun j : Nat => xs.getD (j - 2) 0) hcTabs b C 64 = .live b C from Env.set_same _ _ _]; exact ⟨rfl, rfl⟩) hcp) .nil))
/-- One code, of k numbers. -/
theorem hc_one {w : World} (ht : TabsIn w hcTabs) {f c k : Nat} {t : Tree} {v : Value} {xs : List Int} (hv : IntsIn w v xs) (hx : ∀ x ∈ xs, InR x) (hk : k ≠ 0) (hl : xs.length ≤ 20)
    (hw : okT (evH.call f [.int .i64 (c : Int), .oslice (.var 1)] (startC 65 hcTabs (orcI [⟨true, .var 1, .lit 0, false⟩, ⟨false, .var 1, .lit (k : Int), false⟩, ⟨true, .lit 20, .var 1, false⟩]))) = true) (hr : hcAll f c k t = true) :
    Calls Tryz.prog f #[.int .i64 (c : Int), v] w fun e w' => e = .returned (.bool true) ∧ Below w.heap.size w w' := by
  by_cases hk' : xs.length = k
  · subst hk'
    exact hc_row ht hv hx (fun e => hk (by rw [e]; rfl)) hr
  · refine hc_open ht hv (.inl rfl) hw fun g hg => ?_
    simp only [List.mem_cons, List.not_mem_nil, or_false] at hg
    rcases hg with rfl | rfl | rfl
    · show false = decide ((xs.length : Int) < 0)
      exact (decide_eq_false (by omega)).symm
    · show false = decide ((xs.length : Int) = (k : Int))
      exact (decide_eq_false (by omega)).symm
    · show false = decide ((20 : Int) < (xs.length : Int))
      exact (decide_eq_false (by omega)).symm
end Ev
end Go.Proofs.YtanapnlfdoebdaaGreatDoor
namespace Go.Proofs.YtanapnlfdoebdaaGreatDoor
namespace Ev
open Go.RowKit
theorem ints_in {H : Type} {enc : TypeId × Value → H} {P : Program} {w : World} {t e : TypeId} {fuel : Nat} {a0 : Option Addr} {len0 cap0 : Nat} {x : DataW H × List MemPlace} (ht : P.underlying t = some (.slice e)) (he : P.underlying e = some (.int .i64)) (hc : P.cellsOf e = 1)
    (h : DataW.trod enc P w 0 (fun _ => true) true fuel t [.slice a0 len0 cap0] = some x) : ∃ xs, IntsIn w (.slice a0 len0 cap0) xs ∧ ∀ y ∈ xs, InR y := by
  rcases Go.ChangeShapes.open_ints ht he hc h with ⟨hcs, _⟩ | ⟨a, len, cap, zs, hcs, _, hl, _, hz, _, hcell, hw⟩
  · exact ⟨[], .inl ⟨(List.cons.inj hcs).1, rfl⟩, fun y hy => by cases hy⟩
  · have hz : zs.length = cap := by simpa using hz
    have hlt : (zs.take len).length = len := by rw [List.length_take]; omega
    refine ⟨zs.take len, .inr ⟨a, cap, ?_, by omega, fun i y hi => ?_⟩, fun y hy => ?_⟩
    · rw [hlt]; exact (List.cons.inj hcs).1
    · obtain ⟨hi1, hi2⟩ := List.getElem?_eq_some_iff.1 hi
      have hi3 : i < zs.length := by omega
      rw [hcell i hi3, List.getD_eq_getElem?_getD, List.getElem?_eq_getElem hi3]
      rw [List.getElem_take] at hi2
      rw [← hi2]; rfl
    · have := hw y (List.mem_of_mem_take hy)
      simp [Lit.wf, IntKind.min, IntKind.max, IntKind.signed, IntKind.bits] at this
      exact ⟨by omega, by omega⟩
end Ev
end Go.Proofs.YtanapnlfdoebdaaGreatDoor
