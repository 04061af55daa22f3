/-
  NamesRound: what the layers below come to on rows of numbers, as contracts.
-/
import Derived.Test.YtnjpdipombnigaaGreatDoorNsC
import Derived.Test.YtnjpdipombnigaaGreatDoorNsQ0
import Derived.Test.YtnjpdipombnigaaGreatDoorNsQ1
import Derived.Test.YtnjpdipombnigaaGreatDoorNsQ2
import Derived.Test.YtnjpdipombnigaaGreatDoorNsQ3
import Derived.Test.YtnjpdipombnigaaGreatDoorNsQ4
import Derived.Test.YtnjpdipombnigaaGreatDoorNsQ5
namespace Go.Proofs.YtnjpdipombnigaaGreatDoor
namespace Ev
open Go.RowKit

theorem chg_any {n : Nat} (h : n ≤ 30) : chgB n = true := by
  by_cases h0 : n < 8
  · exact allNs_ok chg_0 n (by omega) (by omega)
  by_cases h1 : n < 16
  · exact allNs_ok chg_1 n (by omega) (by omega)
  by_cases h2 : n < 20
  · exact allNs_ok chg_2 n (by omega) (by omega)
  by_cases h3 : n < 24
  · exact allNs_ok chg_3 n (by omega) (by omega)
  by_cases h4 : n < 28
  · exact allNs_ok chg_4 n (by omega) (by omega)
  · exact allNs_ok chg_5 n (by omega) (by omega)
theorem isD_sint {ρ : Nat → Int} {δ : Nat → D} {k : IntKind} {e : SE} {x : Int} (h : e.val ρ = x) : IsD ρ δ (.sint k e) (.v (.int k x)) := by
  subst h
  exact .sint k e
section
variable {l : List Int} {a m k : Int}
theorem numρ_a : (SE.var 100).val (numρ l a m k) = a := by show numρ l a m k 100 = a; simp [numρ]
theorem numρ_m : (SE.var 101).val (numρ l a m k) = m := by show numρ l a m k 101 = m; simp [numρ]
theorem numρ_k : (SE.var 102).val (numρ l a m k) = k := by show numρ l a m k 102 = k; simp [numρ]
theorem facts100 (h1 : 1 ≤ a) (h2 : a ≤ 11) : ∀ f ∈ f100, f.holds (numρ l a m k) := by
  unfold f100
  refine fCons (fGe ?_) (fCons (fGe ?_) fNil)
  · rw [numρ_a]; exact h1
  · rw [numρ_a]; exact h2
/-- The request that gets a piece of it. -/
theorem packGetD (h1 : 1 ≤ a) (h2 : a ≤ 11) (h3 : 0 ≤ m) (h4 : m ≤ 30) (h5 : 1 ≤ k) (h6 : k ≤ 8) :
    FunD nsTabs 19 [.agg [.v (.int .i64 15), rowI [1048577, a, 0, m, k, 1], .v (.string ⟨([] : List UInt8).toArray⟩), .v (.slice none 0 0)]] (.c (.v (.int .i64 0))) := by
  have h := get_run
  unfold getB at h
  refine funD_run (ρ := numρ [] a m k) (δ := fun _ => rowI [1048577, a, 0, m, k, 1]) (fl := []) (n := 100000) (c := 64) ns_mix ns_names (by decide) h ?_ ?_ (.cons (.agg (.cons (.int _ _) (.cons (.opq 0) (.cons (.str []) (.cons .nilslice .nil))))) .nil) (.c (.int _ _))
  · unfold f102
    refine fCons (fGe ?_) (fCons (fGe ?_) (fCons (fGe ?_) (fCons (fGe ?_) (fCons (fGe ?_) (fCons (fGe ?_) fNil)))))
    · rw [numρ_m]; exact h3
    · rw [numρ_m]; exact h4
    · rw [numρ_k]; exact h5
    · rw [numρ_k]; exact h6
    · rw [numρ_a]; exact h1
    · rw [numρ_a]; exact h2
  · exact rowD_ok (n := 6) (ds := numD [1048577, a, 0, m, k, 1]) sliceT_22 aggT_2 rfl rfl (.cons (.int _ _) (.cons (isD_sint numρ_a) (.cons (.int _ _) (.cons (isD_sint numρ_m) (.cons (isD_sint numρ_k) (.cons (.int _ _) .nil))))))
/-- The request that changes the property. -/
theorem packChangeD (hl : l.length ≤ 30) (hf : fitN l) (h1 : 1 ≤ a) (h2 : a ≤ 11) :
    FunD nsTabs 19 [.agg [.v (.int .i64 13), rowI [1048577, a, 5, 32, 0], .v (.string ⟨([] : List UInt8).toArray⟩), rowI l]] (.c (.v (.int .i64 0))) := by
  have h := chg_any hl
  unfold chgB at h
  refine funD_run (ρ := numρ l a 0 0) (δ := fun i => match i with | 0 => rowI [1048577, a, 5, 32, 0] | _ => rowI l) (fl := []) (n := 100000) (c := 64) ns_mix ns_names (by decide) h (facts100 h1 h2) (dApp ?_ ?_) (.cons (.agg (.cons (.int _ _) (.cons (.opq 0) (.cons (.str []) (.cons (.opq 1) .nil))))) .nil) (.c (.int _ _))
  · exact rowD_ok (n := 5) (ds := numD [1048577, a, 5, 32, 0]) sliceT_22 aggT_2 rfl rfl (.cons (.int _ _) (.cons (isD_sint numρ_a) (.cons (.int _ _) (.cons (.int _ _) (.cons (.int _ _) .nil)))))
  · exact rowD_ok (n := l.length) (ds := numD l) sliceT_22 aggT_2 rfl (numD_len l) (nums_isD hl l 0 hf fun j x hj => by rw [Nat.zero_add]; exact hj)
/-- The property is right. -/
theorem checkD (hl : l.length ≤ 30) (hf : fitN l) (h1 : 1 ≤ a) (h2 : a ≤ 11) : FunD nsTabs 159 [.agg [.v (.int .u32 a), .v (.int .u32 5), .v (.int .i64 32), rowI l]] (.c (.v (.int .i64 0))) := by
  have h := allTo_ok chk_all l.length (by omega)
  unfold chkB at h
  refine funD_run (ρ := numρ l a 0 0) (δ := fun _ => rowI l) (fl := []) (n := 100000) (c := 64) ns_mix ns_names (by decide) h (facts100 h1 h2) ?_ (.cons (.agg (.cons (isD_sint numρ_a) (.cons (.int _ _) (.cons (.int _ _) (.cons (.opq 1) .nil))))) .nil) (.c (.int _ _))
  exact rowD_ok (n := l.length) (ds := numD l) sliceT_22 aggT_2 rfl (numD_len l) (nums_isD hl l 0 hf fun j x hj => by rw [Nat.zero_add]; exact hj)
/-- A row's copy. -/
theorem joinD (hl : l.length ≤ 30) : FunD nsTabs 161 [.c (.v (.slice none 0 0)), .c (rowI l)] (.c (rowI l)) := by
  have h := allTo_ok join_all l.length (by omega)
  unfold joinB at h
  have hp : IsD (numρ l 0 0 0) (fun _ => default) (.psl l.length (anysF 0 l.length)) (rowI l) := .psl (z := 1) (by rw [anysF_len, Nat.mul_one]) (anys_isD hl l 0 fun j x hj => by rw [Nat.zero_add]; exact hj)
  exact funD_run (ρ := numρ l 0 0 0) (δ := fun _ => default) (fl := []) (n := 100000) (c := 64) (fs := []) ns_mix ns_names (by decide) h fNil (dCons (lenPsl_def sliceT_22) dNil) (.cons (.c .nilslice) (.cons (.c hp) .nil)) (.c hp)
theorem cloneD (hl : l.length ≤ 8) : FunD nsTabs 82 [.c (rowI l)] (.c (rowI l)) := by
  cases l with
  | nil =>
    intro K w vs hK ht hv
    obtain ⟨vs⟩ := vs
    cases hv with
    | cons h t =>
      cases t
      cases h with
      | c h =>
        cases h with
        | nil =>
          have hr := clone_nil
          unfold cloneN at hr
          refine (calls_run (ρ := fun _ => 0) (δ := fun _ => default) (fl := []) (n := 100000) (c := 64) (fs := []) (ds := []) ns_mix ns_names (by decide) hr fNil dNil hK ht (.cons .nilslice .nil) (.c .nilslice)).mono ?_
          rintro e w' ⟨u, rfl, hb, hu⟩
          refine ⟨u, rfl, hb, ?_⟩
          cases hu with
          | c hu => cases hu; exact .c .nil
        | sl hb hh hn hc hu hx =>
          have hr := clone_none
          unfold cloneE at hr
          exact calls_run (ρ := fun _ => 0) (δ := fun _ => default) (fl := []) (n := 100000) (c := 64) (fs := []) (ds := []) ns_mix ns_names (by decide) hr fNil dNil hK ht (.cons .eslice .nil) (.c .psl0)
  | cons x r =>
    have h := allTo_ok clone_all r.length (by simp at hl; omega)
    unfold cloneB at h
    have hl' : (x :: r).length ≤ 30 := by omega
    have hp : IsD (numρ (x :: r) 0 0 0) (fun _ => default) (.psl (r.length + 1) (anysF 0 (r.length + 1))) (rowI (x :: r)) := .psl (z := 1) (by rw [anysF_len, Nat.mul_one]) (anys_isD hl' (x :: r) 0 fun j y hj => by rw [Nat.zero_add]; exact hj)
    exact funD_run (ρ := numρ (x :: r) 0 0 0) (δ := fun _ => default) (fl := []) (n := 100000) (c := 64) (fs := []) (ds := []) ns_mix ns_names (by decide) h fNil dNil (.cons (.c hp) .nil) (.c hp)
theorem sameD (hl : l.length ≤ 30) : FunD nsTabs 7 [.c (rowI l), .c (rowI l)] (.c (.v (.bool true))) := by
  have h := allTo_ok same_all l.length (by omega)
  unfold sameB at h
  refine funD_run (ρ := numρ l 0 0 0) (δ := fun _ => rowI l) (fl := []) (n := 100000) (c := 64) (fs := []) ns_mix ns_names (by decide) h fNil (dApp ?_ ?_) (.cons (.c (.opq 0)) (.cons (.c (.opq 1)) .nil)) (.c (.bool true))
  · exact rowD_ok (n := l.length) (ds := numD l) sliceT_22 aggT_2 rfl (numD_len l) (anys_isD hl l 0 fun j x hj => by rw [Nat.zero_add]; exact hj)
  · exact rowD_ok (n := l.length) (ds := numD l) sliceT_22 aggT_2 rfl (numD_len l) (anys_isD hl l 0 fun j x hj => by rw [Nat.zero_add]; exact hj)
end
noncomputable def same0B : Bool := retD theProg (.bool true) ((ev theProg (ctrL theProg []) 100000).call 7 [.nilslice, .opq 1] (startD 64 nsTabs [] (rowD 22 2 1 [])))
theorem same0_run : same0B = true := by kernel_rfl
theorem same0D : FunD nsTabs 7 [.c (.v (.slice none 0 0)), .c (rowI [])] (.c (.v (.bool true))) := by
  have h := same0_run
  unfold same0B at h
  exact funD_run (ρ := fun _ => 0) (δ := fun _ => rowI []) (fl := []) (n := 100000) (c := 64) (fs := []) ns_mix ns_names (by decide) h fNil (rowD_ok (n := 0) (ds := []) sliceT_22 aggT_2 rfl rfl .nil) (.cons (.c .nilslice) (.cons (.c (.opq 1)) .nil)) (.c (.bool true))
theorem nameD {i : Nat} (hi : i < 10) : FunD nsTabs 93 [.agg [.v (.slice none 0 0), .v (.map none)], .c (.v (.int .u32 ((Nat.succ i : Nat) : Int)))] (.tup [.c (.v (.string ⟨(knownL.getD i []).toArray⟩)), .c (.v (.bool true))]) := by
  have h := allTo_ok name_all i hi
  unfold nameB at h
  exact funD_run (ρ := fun _ => 0) (δ := fun _ => default) (fl := []) (n := 100000) (c := 64) (fs := []) (ds := []) ns_mix ns_names (by decide) h fNil dNil (.cons (.agg (.cons .nilslice (.cons .nilmap .nil))) (.cons (.c (.int _ _)) .nil)) (.tup (.cons (.c (.str _)) (.cons (.c (.bool true)) .nil)))
end Ev
end Go.Proofs.YtnjpdipombnigaaGreatDoor
