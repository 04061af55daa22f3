/-
  NamesRound: whatever comes in, it is true.
-/
import Derived.Test.YtnjpdipombnigaaGreatDoorNsZ
namespace Go.Proofs.YtnjpdipombnigaaGreatDoor
namespace Ev
open Go.RowKit

theorem famN_A {s : List UInt8} (hu : s ∉ knownL) : FamA famN s 11 (.v (.bool true)) := by
  refine ⟨⟨famN_ok, by decide, by decide, fun _ _ _ => .int _ _, fun _ _ _ _ => dNil, fun _ _ => fNil⟩, famN_s, fun _ _ _ => .int _ _, fun ρ δ _ hn => ?_⟩
  exact defOk_of (findNewD hu) (show _ < 1000000000 by decide) (.cons (.agg (.cons .nilslice (.cons .nilmap .nil))) (.cons (.c hn) .nil)) (.tup (.cons (.c (.int _ _)) (.cons (.c (.bool _)) .nil)))
theorem famK_A {s : List UInt8} {i : Nat} (hi : i < 10) (hu : knownL[i]? = some s) : FamA famK s ((Nat.succ i : Nat) : Int) (.v (.string ⟨(knownL.getD i []).toArray⟩)) := by
  refine ⟨⟨famK_ok, by omega, by omega, fun _ _ h => isD_sint h, fun ρ δ h h10 => ?_, fun ρ h => ?_⟩, famK_s, fun _ _ h => isD_sint h, fun ρ δ h hn => ?_⟩
  · exact dCons (defOk_of (nameD hi) (show _ < 1000000000 by decide) (.cons (.agg (.cons .nilslice (.cons .nilmap .nil))) (.cons (.c (isD_sint h)) .nil)) (.tup (.cons (.c (isD_opq h10)) (.cons (.c (.bool true)) .nil)))) dNil
  · exact fCons (fGe (by show 1 ≤ ρ 8; omega)) (fCons (fGe (by show ρ 8 ≤ 10; omega)) fNil)
  · exact defOk_of (findD hi hu) (show _ < 1000000000 by decide) (.cons (.agg (.cons .nilslice (.cons .nilmap .nil))) (.cons (.c hn) .nil)) (.tup (.cons (.c (isD_sint h)) (.cons (.c (.bool _)) .nil)))
def rhoN (l : List Int) (z : Int) (s : List UInt8) (a : Int) : Nat → Int := fun i => if i = 0 then z else if i = 1 then (s.length : Int) else if i = 2 then (l.length : Int) else if i = 8 then a else if i < 1000 then 0 else (((s[i - 1000]?).getD 0).toNat : Int)
def delN (l : List Int) (s : List UInt8) (dn : D) : Nat → D := fun i => if i = 0 then rowI l else if i = 2 then byD s else if i = 10 then dn else .v (.string ⟨s.toArray⟩)
theorem sinv_0 (l : List Int) (z : Int) (s : List UInt8) (a : Int) (dn : D) : SInv l z s a dn (rhoN l z s a) (delN l s dn) := by
  refine ⟨rfl, rfl, rfl, rfl, rfl, rfl, rfl, fun i x hx => ?_⟩
  unfold rhoN
  rw [if_neg (by omega), if_neg (by omega), if_neg (by omega), if_neg (by omega), if_neg (by omega), Nat.add_sub_cancel_left, hx]
  rfl
theorem nr_nt : 3 ≤ nrFn.ntmps := Nat.le_of_ble_eq_true (by kernel_rfl)
theorem round_any {l : List Int} {z : Int} {s : List UInt8} (hz0 : 0 ≤ z) (hz1 : z ≤ 255) : FunD nsTabs 3 [.c (rowI l), .c (.v (.int .u8 z)), .c (.v (.string ⟨s.toArray⟩))] tt := by
  by_cases hl : l.length ≤ 30
  · by_cases h1 : 1 ≤ s.length
    · by_cases hs : s.length ≤ 60
      · have hfin : ∀ {F : Fam} {a : Int} {dn : D}, FamA F s a dn → FunD nsTabs 3 [.c (rowI l), .c (.v (.int .u8 z)), .c (.v (.string ⟨s.toArray⟩))] tt := by
          intro F a dn A
          have hv := sinv_0 l z s a dn
          refine funD_of (t := sT0) (ρ := rhoN l z s a) (δ := delN l s dn) (args := [.opq 0, .sint .u8 (.var 0), nmA]) (c := 64) (fs := []) nr_fn nr_body (by decide) nr_nt fNil (.cons (.c (isD_opq hv.d0)) (.cons (.c (isD_sint hv.z)) (.cons (.c (hv.isD hs)) .nil))) rfl (fun p hp => ?_) (good_go A h1 hs hl hz0 hz1 hv)
          have hp : p ∈ [(0, AV.opq 0), (1, .sint .u8 (.var 0)), (2, nmA)] := hp
          simp only [List.mem_cons, List.not_mem_nil, or_false] at hp
          rcases hp with rfl | rfl | rfl
          · exact (show (argsA 0 [AV.opq 0, .sint .u8 (.var 0), nmA] .e).get 0 = some (AV.opq 0) by kernel_rfl)
          · exact (show (argsA 0 [AV.opq 0, .sint .u8 (.var 0), nmA] .e).get 1 = some (.sint .u8 (.var 0)) by kernel_rfl)
          · exact (show (argsA 0 [AV.opq 0, .sint .u8 (.var 0), nmA] .e).get 2 = some (nmA) by kernel_rfl)
        by_cases hu : s ∈ knownL
        · obtain ⟨i, hi⟩ := List.getElem?_of_mem hu
          have hlt : i < 10 := (List.getElem?_eq_some_iff.1 hi).1
          exact hfin (famK_A hlt hi)
        · exact hfin (famN_A hu)
      · have hr := s_bad3
        unfold evL stF at hr
        refine funD_of (t := sB0) (ρ := rhoN l z s 0) (δ := delN l s default) (args := [.opq 0, .sint .u8 (.var 0), .opq 1]) (c := 64) (fs := []) nr_fn nr_body (by decide) nr_nt fNil (.cons (.c (isD_opq rfl)) (.cons (.c (isD_sint rfl)) (.cons (.c (isD_opq rfl)) .nil))) rfl (fun p hp => ?_) (goD_fin (t := sB0) ns_mix ns_names hr ?_ ?_ (.c (.bool true)))
        · have hp : p ∈ [(0, AV.opq 0), (1, .sint .u8 (.var 0)), (2, .opq 1)] := hp
          simp only [List.mem_cons, List.not_mem_nil, or_false] at hp
          rcases hp with rfl | rfl | rfl
          · exact (show (argsA 0 [AV.opq 0, .sint .u8 (.var 0), AV.opq 1] .e).get 0 = some (AV.opq 0) by kernel_rfl)
          · exact (show (argsA 0 [AV.opq 0, .sint .u8 (.var 0), AV.opq 1] .e).get 1 = some (.sint .u8 (.var 0)) by kernel_rfl)
          · exact (show (argsA 0 [AV.opq 0, .sint .u8 (.var 0), AV.opq 1] .e).get 2 = some (AV.opq 1) by kernel_rfl)
        · unfold badF3
          exact fCons (fGe (by show (l.length : Int) ≤ 30; omega)) (fCons (fLt (by show (60 : Int) < (s.length : Int); omega)) fNil)
        · unfold bad0
          refine dCons (lenN_ok rfl rfl) (dCons (eqTx_def (s := s) (u := []) (isD_opq rfl) (.str []) ?_) (dCons (lenTx_def und_9 (s := s) (isD_opq rfl) (isD_sint rfl)) (dCons awD_ok dNil)))
          symm
          rw [decide_eq_false_iff_not]
          intro e
          rw [e] at h1
          exact absurd h1 (by decide)
    · have hr := s_bad2
      unfold evL stF at hr
      have hs0 : s = [] := List.eq_nil_of_length_eq_zero (by omega)
      subst hs0
      refine funD_of (t := sB0) (ρ := rhoN l z [] 0) (δ := delN l [] default) (args := [.opq 0, .sint .u8 (.var 0), .opq 1]) (c := 64) (fs := []) nr_fn nr_body (by decide) nr_nt fNil (.cons (.c (isD_opq rfl)) (.cons (.c (isD_sint rfl)) (.cons (.c (isD_opq rfl)) .nil))) rfl (fun p hp => ?_) (goD_fin (t := sB0) ns_mix ns_names hr ?_ ?_ (.c (.bool true)))
      · have hp : p ∈ [(0, AV.opq 0), (1, .sint .u8 (.var 0)), (2, .opq 1)] := hp
        simp only [List.mem_cons, List.not_mem_nil, or_false] at hp
        rcases hp with rfl | rfl | rfl
        · exact (show (argsA 0 [AV.opq 0, .sint .u8 (.var 0), AV.opq 1] .e).get 0 = some (AV.opq 0) by kernel_rfl)
        · exact (show (argsA 0 [AV.opq 0, .sint .u8 (.var 0), AV.opq 1] .e).get 1 = some (.sint .u8 (.var 0)) by kernel_rfl)
        · exact (show (argsA 0 [AV.opq 0, .sint .u8 (.var 0), AV.opq 1] .e).get 2 = some (AV.opq 1) by kernel_rfl)
      · unfold badF2
        exact fCons (fGe (by show (l.length : Int) ≤ 30; omega)) fNil
      · unfold bad1
        exact dCons (lenN_ok rfl rfl) (dCons (eqTx_def (s := []) (u := []) (isD_opq rfl) (.str []) rfl) (dCons awD_ok dNil))
  · have hr := s_bad1
    unfold evL stF at hr
    have hd : ∀ d ∈ bad1b, DefOk nsTabs (rhoN l z s 0) (delN l s default) d := by
      unfold bad1b
      exact dCons (lenN_ok rfl rfl) (dCons awD_ok dNil)
    refine funD_of (t := sB0) (ρ := rhoN l z s 0) (δ := delN l s default) (args := [.opq 0, .sint .u8 (.var 0), .opq 1]) (c := 64) (fs := []) nr_fn nr_body (by decide) nr_nt fNil (.cons (.c (isD_opq rfl)) (.cons (.c (isD_sint rfl)) (.cons (.c (isD_opq rfl)) .nil))) rfl (fun p hp => ?_) (goD_fin (t := sB0) ns_mix ns_names hr ?_ hd (.c (.bool true)))
    · have hp : p ∈ [(0, AV.opq 0), (1, .sint .u8 (.var 0)), (2, .opq 1)] := hp
      simp only [List.mem_cons, List.not_mem_nil, or_false] at hp
      rcases hp with rfl | rfl | rfl
      · exact (show (argsA 0 [AV.opq 0, .sint .u8 (.var 0), AV.opq 1] .e).get 0 = some (AV.opq 0) by kernel_rfl)
      · exact (show (argsA 0 [AV.opq 0, .sint .u8 (.var 0), AV.opq 1] .e).get 1 = some (.sint .u8 (.var 0)) by kernel_rfl)
      · exact (show (argsA 0 [AV.opq 0, .sint .u8 (.var 0), AV.opq 1] .e).get 2 = some (AV.opq 1) by kernel_rfl)
    · unfold badF1
      exact fCons (fLt (by show (30 : Int) < (l.length : Int); omega)) fNil
end Ev
end Go.Proofs.YtnjpdipombnigaaGreatDoor
