/-
  WorldNew: of a size that may not be, the law answers true.
-/
import Derived.Test.YtpklliedmplpdaaGreatDoorWnLaw
namespace Go.Proofs.YtpklliedmplpdaaGreatDoor
namespace Ev
open Go.RowKit Go.Sort

noncomputable def noF (n : Nat) : List Fact := match n with
  | 0 => [⟨true, .var 0, .lit 1, true⟩]
  | 1 => [⟨true, .lit 128, .var 0, true⟩]
  | 2 => [⟨true, .var 0, .lit 1, false⟩, ⟨true, .lit 128, .var 0, false⟩, ⟨true, .var 1, .lit 1, true⟩]
  | _ => [⟨true, .var 0, .lit 1, false⟩, ⟨true, .lit 128, .var 0, false⟩, ⟨true, .lit 128, .var 1, true⟩]
noncomputable def noRun (n : Nat) : R := evW.call 3 wnArgs (startT wnTabs (orcF (noF n)))
theorem no_0 : okT (noRun 0) = true := by kernel_rfl
theorem no_1 : okT (noRun 1) = true := by kernel_rfl
theorem no_2 : okT (noRun 2) = true := by kernel_rfl
theorem no_3 : okT (noRun 3) = true := by kernel_rfl
theorem law_no (a b p : Int) (w : World) (ht : TabsIn w wnTabs) (h : a < 1 ∨ 128 < a ∨ b < 1 ∨ 128 < b) :
    Calls Tryz.prog 3 #[.int .i64 a, .int .i64 b, .int .u8 p] w fun e w' => e = .returned (.bool true) ∧ Below w.heap.size w w' := by
  have key : ∀ n, okT (noRun n) = true → (∀ f ∈ noF n, f.holds (ρL a b p 0)) → Calls Tryz.prog 3 #[.int .i64 a, .int .i64 b, .int .u8 p] w fun e w' => e = .returned (.bool true) ∧ Below w.heap.size w w' := by
    intro n hn hf
    obtain ⟨s', hs'⟩ := okT_some hn
    have hc := (recV.call hs').2 (fun _ _ => trivial) (satT ht (orcF_ok hf)) (args' := #[.int .i64 a, .int .i64 b, .int .u8 p]) (.cons (.sint .i64 (.var 0)) (.cons (.sint .i64 (.var 1)) (.cons (.sint .u8 (.var 2)) .nil)))
    refine (callsIn_wide.1 hc.2).mono ?_
    rintro e w' ⟨E', v', rfl, hv, _, hx⟩
    cases hv
    exact ⟨rfl, hx.below⟩
  have v0 : (SE.var 0).val (ρL a b p 0) = a := rfl
  have v1 : (SE.var 1).val (ρL a b p 0) = b := rfl
  have vl : ∀ n, (SE.lit n).val (ρL a b p 0) = n := fun _ => rfl
  by_cases c0 : a < 1
  · refine key 0 no_0 fun f hf => ?_
    simp only [noF, List.mem_cons, List.not_mem_nil, or_false] at hf
    subst hf
    simp only [Fact.holds, if_true, v0, vl]
    exact dec_t c0
  by_cases c1 : 128 < a
  · refine key 1 no_1 fun f hf => ?_
    simp only [noF, List.mem_cons, List.not_mem_nil, or_false] at hf
    subst hf
    simp only [Fact.holds, if_true, v0, vl]
    exact dec_t c1
  by_cases c2 : b < 1
  · refine key 2 no_2 fun f hf => ?_
    simp only [noF, List.mem_cons, List.not_mem_nil, or_false] at hf
    rcases hf with rfl | rfl | rfl <;> simp only [Fact.holds, if_true, v0, v1, vl]
    · exact dec_f c0
    · exact dec_f c1
    · exact dec_t c2
  · have c3 : 128 < b := by omega
    refine key 3 no_3 fun f hf => ?_
    simp only [noF, List.mem_cons, List.not_mem_nil, or_false] at hf
    rcases hf with rfl | rfl | rfl <;> simp only [Fact.holds, if_true, v0, v1, vl]
    · exact dec_f c0
    · exact dec_f c1
    · exact dec_t c3
/-- Of any size, any pixel. -/
theorem law_any (a b p : Int) (w : World) (ht : TabsIn w wnTabs) (p1 : 0 ≤ p) (p2 : p ≤ 255) :
    Calls Tryz.prog 3 #[.int .i64 a, .int .i64 b, .int .u8 p] w fun e w' => e = .returned (.bool true) ∧ Below w.heap.size w w' := by
  by_cases h : a < 1 ∨ 128 < a ∨ b < 1 ∨ 128 < b
  · exact law_no a b p w ht h
  · exact law_yes a b p w ht (by omega) (by omega) (by omega) (by omega) p1 p2
end Ev
end Go.Proofs.YtpklliedmplpdaaGreatDoor
