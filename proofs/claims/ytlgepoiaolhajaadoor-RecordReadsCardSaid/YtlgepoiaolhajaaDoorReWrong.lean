/-
  What the record layer's check, and the reference's Wrong, answer of any entry: En.wrong.
-/
import Derived.Test.YtlgepoiaolhajaaDoorRows
import Derived.Test.YtlgepoiaolhajaaDoorReBase
import Derived.WalkKit
import Derived.WalkSpells
import Derived.WalkLawsBesides
import Derived.BigGuardPart
import Derived.Deep.Light
namespace Go.Proofs.YtlgepoiaolhajaaDoor
open Go.RowKit

set_option maxHeartbeats 400000 in
theorem ofClient_any (k : Int) (w : World) :
    Calls Tryd.prog 22 #[.int .i64 k] w fun e w' => e = .returned (.bool (k == 1 || k == 3 || k == 4)) ∧ w = w' := by
  go_enter Tryd.func22, Tryd.ntmps22
  go_wp2
  all_goals (go_ret; simp_all)

set_option maxHeartbeats 400000 in
theorem right_any (e : En) (w : World) :
    Calls Tryd.prog 40 #[e.inp] w fun r w' => r = .returned (.bool e.right) ∧ Below w.heap.size w w' := by
  obtain ⟨k, cl, bs, a, b, c, d, t, n⟩ := e
  have hno := @En.right_no ⟨k, cl, bs, a, b, c, d, t, n⟩
  have hyes := @En.right_yes ⟨k, cl, bs, a, b, c, d, t, n⟩
  simp only [En.inp]
  generalize En.right _ = r at *
  have HN := Lib.hid hno
  have HY := Lib.hid hyes
  clear hno hyes
  go_enter Tryd.func40, Tryd.ntmps40
  go_wp2
  all_goals
    go_ret
    refine ⟨?_, (Below.refl _ _).alloc (Nat.le_refl _) _⟩
    first
      | exact ret_bool (HN.out (by omega)).symm
      | exact ret_bool (HY.out ‹_› ‹_› ‹_› ‹_› ‹_› ‹_› ‹_› ‹_› ‹_›).symm

set_option maxHeartbeats 2000000 in
theorem check_any (e : En) (w : World) :
    Calls Tryd.prog 30 #[e.val] w fun r w' => r = .returned (.int .i64 e.wrong) ∧ Below w.heap.size w w' := by
  obtain ⟨k, cl, bs, a, b, c, d, t, n⟩ := e
  by_cases h0 : k < 0
  · simp only [En.val]
    go_enter Tryd.func30, Tryd.ntmps30
    go_wp2
    all_goals
      go_ret
      refine ⟨ret_int ?_, ?_⟩
      · go_light
        simp_all [En.wrong, En.ofClient, En.noInput]
        try repeat rw [if_neg (by omega)]
      · first | exact (Below.refl _ _).alloc (Nat.le_refl _) _ | exact ((Below.refl _ _).alloc (Nat.le_refl _) _).alloc (by simp) _ | exact ((Below.refl _ _).alloc (Nat.le_refl _) _).trans (hb.mono (by simp))
  by_cases h4 : 4 < k
  · simp only [En.val]
    go_enter Tryd.func30, Tryd.ntmps30
    go_wp2
    all_goals
      go_ret
      refine ⟨ret_int ?_, ?_⟩
      · go_light
        simp_all [En.wrong, En.ofClient, En.noInput]
        try repeat rw [if_neg (by omega)]
      · first | exact (Below.refl _ _).alloc (Nat.le_refl _) _ | exact ((Below.refl _ _).alloc (Nat.le_refl _) _).alloc (by simp) _ | exact ((Below.refl _ _).alloc (Nat.le_refl _) _).trans (hb.mono (by simp))
  obtain rfl | rfl | rfl | rfl | rfl : k = 0 ∨ k = 1 ∨ k = 2 ∨ k = 3 ∨ k = 4 := by omega
  · simp only [En.val]
    go_enter Tryd.func30, Tryd.ntmps30
    go_wp2
    all_goals
      go_ret
      refine ⟨ret_int ?_, ?_⟩
      · go_light
        simp_all [En.wrong, En.ofClient, En.noInput]
        try repeat rw [if_neg (by omega)]
      · first | exact (Below.refl _ _).alloc (Nat.le_refl _) _ | exact ((Below.refl _ _).alloc (Nat.le_refl _) _).alloc (by simp) _ | exact ((Below.refl _ _).alloc (Nat.le_refl _) _).trans (hb.mono (by simp))
  · simp only [En.val]
    go_enter Tryd.func30, Tryd.ntmps30
    go_wp2
    all_goals
      go_ret
      refine ⟨ret_int ?_, ?_⟩
      · go_light
        simp_all [En.wrong, En.ofClient, En.noInput]
        try repeat rw [if_neg (by omega)]
      · first | exact (Below.refl _ _).alloc (Nat.le_refl _) _ | exact ((Below.refl _ _).alloc (Nat.le_refl _) _).alloc (by simp) _ | exact ((Below.refl _ _).alloc (Nat.le_refl _) _).trans (hb.mono (by simp))
  · simp only [En.val]
    go_enter Tryd.func30, Tryd.ntmps30
    go_wp2_with (first | (go_at_call 40; refine (right_any ⟨2, cl, bs, a, b, c, d, t, n⟩ _).mono ?_; rintro e w' ⟨rfl, hb⟩) | (go_at_call 22; refine (ofClient_any _ _).mono ?_; rintro e w' ⟨rfl, rfl⟩))
    all_goals
      go_ret
      refine ⟨ret_int ?_, ?_⟩
      · go_light
        simp_all [En.wrong, En.ofClient, En.noInput]
        try repeat rw [if_neg (by omega)]
      · first | exact (Below.refl _ _).alloc (Nat.le_refl _) _ | exact ((Below.refl _ _).alloc (Nat.le_refl _) _).alloc (by simp) _ | exact ((Below.refl _ _).alloc (Nat.le_refl _) _).trans (hb.mono (by simp))
  · simp only [En.val]
    go_enter Tryd.func30, Tryd.ntmps30
    go_wp2
    all_goals
      go_ret
      refine ⟨ret_int ?_, ?_⟩
      · go_light
        simp_all [En.wrong, En.ofClient, En.noInput]
        try repeat rw [if_neg (by omega)]
      · first | exact (Below.refl _ _).alloc (Nat.le_refl _) _ | exact ((Below.refl _ _).alloc (Nat.le_refl _) _).alloc (by simp) _ | exact ((Below.refl _ _).alloc (Nat.le_refl _) _).trans (hb.mono (by simp))
  · simp only [En.val]
    go_enter Tryd.func30, Tryd.ntmps30
    go_wp2
    all_goals
      go_ret
      refine ⟨ret_int ?_, ?_⟩
      · go_light
        simp_all [En.wrong, En.ofClient, En.noInput]
        try repeat rw [if_neg (by omega)]
      · first | exact (Below.refl _ _).alloc (Nat.le_refl _) _ | exact ((Below.refl _ _).alloc (Nat.le_refl _) _).alloc (by simp) _ | exact ((Below.refl _ _).alloc (Nat.le_refl _) _).trans (hb.mono (by simp))
end Go.Proofs.YtlgepoiaolhajaaDoor
