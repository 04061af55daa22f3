/-
  What the reference's Wrong answers of any entry: En.wrong.
-/
import Derived.Test.YtlgepoiaolhajaaDoorRows
import Derived.Test.YtlgepoiaolhajaaDoorReBase
import Derived.WalkKit
import Derived.WalkSpells
import Derived.WalkLawsBesides
import Derived.BigGuardPart
import Derived.Deep.Light
namespace Go.Proofs.YtlgepoiaolhajaaDoor
open Go.RowKit

set_option maxHeartbeats 2000000 in
theorem wrong_any (e : En) (w : World) :
    Calls Tryd.prog 11 #[e.val] w fun r w' => r = .returned (.int .i64 e.wrong) ∧ Below w.heap.size w w' := by
  obtain ⟨k, cl, bs, a, b, c, d, t, n⟩ := e
  by_cases h0 : k < 0
  · simp only [En.val]
    go_enter Tryd.func11, Tryd.ntmps11
    go_wp2
    all_goals
      go_ret
      refine ⟨ret_int ?_, ?_⟩
      · go_light
        simp_all [En.wrong, En.ofClient, En.noInput, En.right]
        try repeat rw [if_neg (by omega)]
        try repeat rw [if_pos (by omega)]
      · first | exact (Below.refl _ _).alloc (Nat.le_refl _) _ | exact ((Below.refl _ _).alloc (Nat.le_refl _) _).alloc (by simp) _
  by_cases h4 : 4 < k
  · simp only [En.val]
    go_enter Tryd.func11, Tryd.ntmps11
    go_wp2
    all_goals
      go_ret
      refine ⟨ret_int ?_, ?_⟩
      · go_light
        simp_all [En.wrong, En.ofClient, En.noInput, En.right]
        try repeat rw [if_neg (by omega)]
        try repeat rw [if_pos (by omega)]
      · first | exact (Below.refl _ _).alloc (Nat.le_refl _) _ | exact ((Below.refl _ _).alloc (Nat.le_refl _) _).alloc (by simp) _
  obtain rfl | rfl | rfl | rfl | rfl : k = 0 ∨ k = 1 ∨ k = 2 ∨ k = 3 ∨ k = 4 := by omega
  · simp only [En.val]
    go_enter Tryd.func11, Tryd.ntmps11
    go_wp2
    all_goals
      go_ret
      refine ⟨ret_int ?_, ?_⟩
      · go_light
        simp_all [En.wrong, En.ofClient, En.noInput, En.right]
        try repeat rw [if_neg (by omega)]
        try repeat rw [if_pos (by omega)]
      · first | exact (Below.refl _ _).alloc (Nat.le_refl _) _ | exact ((Below.refl _ _).alloc (Nat.le_refl _) _).alloc (by simp) _
  · simp only [En.val]
    go_enter Tryd.func11, Tryd.ntmps11
    go_wp2
    all_goals
      go_ret
      refine ⟨ret_int ?_, ?_⟩
      · go_light
        simp_all [En.wrong, En.ofClient, En.noInput, En.right]
        try repeat rw [if_neg (by omega)]
        try repeat rw [if_pos (by omega)]
      · first | exact (Below.refl _ _).alloc (Nat.le_refl _) _ | exact ((Below.refl _ _).alloc (Nat.le_refl _) _).alloc (by simp) _
  · simp only [En.val]
    go_enter Tryd.func11, Tryd.ntmps11
    go_wp2
    all_goals
      go_ret
      refine ⟨ret_int ?_, ?_⟩
      · go_light
        simp_all [En.wrong, En.ofClient, En.noInput, En.right]
        try repeat rw [if_neg (by omega)]
        try repeat rw [if_pos (by omega)]
      · first | exact (Below.refl _ _).alloc (Nat.le_refl _) _ | exact ((Below.refl _ _).alloc (Nat.le_refl _) _).alloc (by simp) _
  · simp only [En.val]
    go_enter Tryd.func11, Tryd.ntmps11
    go_wp2
    all_goals
      go_ret
      refine ⟨ret_int ?_, ?_⟩
      · go_light
        simp_all [En.wrong, En.ofClient, En.noInput, En.right]
        try repeat rw [if_neg (by omega)]
        try repeat rw [if_pos (by omega)]
      · first | exact (Below.refl _ _).alloc (Nat.le_refl _) _ | exact ((Below.refl _ _).alloc (Nat.le_refl _) _).alloc (by simp) _
  · simp only [En.val]
    go_enter Tryd.func11, Tryd.ntmps11
    go_wp2
    all_goals
      go_ret
      refine ⟨ret_int ?_, ?_⟩
      · go_light
        simp_all [En.wrong, En.ofClient, En.noInput, En.right]
        try repeat rw [if_neg (by omega)]
        try repeat rw [if_pos (by omega)]
      · first | exact (Below.refl _ _).alloc (Nat.le_refl _) _ | exact ((Below.refl _ _).alloc (Nat.le_refl _) _).alloc (by simp) _
end Go.Proofs.YtlgepoiaolhajaaDoor
