/-
  HandsCodes: true for every code and every row of numbers.
-/
import Derived.Test.YtbjllaknnpbkkaaGreatDoorHb
import Derived.Test.YtbjllaknnpbkkaaGreatDoorHc0
import Derived.Test.YtbjllaknnpbkkaaGreatDoorHc1
import Derived.Test.YtbjllaknnpbkkaaGreatDoorHc2
import Derived.Test.YtbjllaknnpbkkaaGreatDoorHc3
import Derived.Test.YtbjllaknnpbkkaaGreatDoorHc4
import Derived.Test.YtbjllaknnpbkkaaGreatDoorHc5
import Derived.Test.YtbjllaknnpbkkaaGreatDoorHc6
import Derived.Test.YtbjllaknnpbkkaaGreatDoorHc7
namespace Go.Proofs.YtbjllaknnpbkkaaGreatDoor
namespace Ev
open Go.RowKit
theorem codes_any {w : World} (ht : TabsIn w hcTabs) {code : Int} (hc : InR code) {v : Value} {xs : List Int} (hv : IntsIn w v xs) (hx : ∀ x ∈ xs, InR x) :
    Calls Tryz.prog 3 #[.int .i64 code, v] w fun e w' => e = .returned (.bool true) ∧ Below w.heap.size w w' := by
  have f1 : ∀ g : Fact, g = ⟨true, .var 1, .lit 0, false⟩ → g.holds (fun i => if i = 0 then code else (xs.length : Int)) := by
    rintro g rfl
    show false = decide ((xs.length : Int) < 0)
    exact (decide_eq_false (by omega)).symm
  by_cases hl : 20 < xs.length
  · refine hc_open ht hv (.inr rfl) hcLong fun g hg => ?_
    simp only [List.mem_cons, List.not_mem_nil, or_false] at hg
    rcases hg with rfl | rfl
    · exact f1 _ rfl
    · show true = decide ((20 : Int) < (xs.length : Int))
      exact (decide_eq_true (by omega)).symm
  have f2 : ∀ g : Fact, g = ⟨true, .lit 20, .var 1, false⟩ → g.holds (fun i => if i = 0 then code else (xs.length : Int)) := by
    rintro g rfl
    show false = decide ((20 : Int) < (xs.length : Int))
    exact (decide_eq_false (by omega)).symm
  by_cases h1 : code < 37
  · refine hc_open ht hv (.inr rfl) hcBelow fun g hg => ?_
    simp only [List.mem_cons, List.not_mem_nil, or_false] at hg
    rcases hg with rfl | rfl | rfl
    · exact f1 _ rfl
    · exact f2 _ rfl
    · show true = decide (code < 37)
      exact (decide_eq_true h1).symm
  by_cases h2 : 49 < code
  · refine hc_open ht hv (.inr rfl) hcAbove fun g hg => ?_
    simp only [List.mem_cons, List.not_mem_nil, or_false] at hg
    rcases hg with rfl | rfl | rfl
    · exact f1 _ rfl
    · exact f2 _ rfl
    · show true = decide (49 < code)
      exact (decide_eq_true h2).symm
  have hl' : xs.length ≤ 20 := by omega
  rcases (show code = 37 ∨ code = 38 ∨ code = 39 ∨ code = 40 ∨ code = 41 ∨ code = 42 ∨ code = 43 ∨ code = 44 ∨ code = 45 ∨ code = 46 ∨ code = 47 ∨ code = 48 ∨ code = 49 by omega) with rfl | rfl | rfl | rfl | rfl | rfl | rfl | rfl | rfl | rfl | rfl | rfl | rfl
  · exact hc_one (c := 37) (k := 3) ht hv hx (by decide) hl' hc37_w hc37_r
  · by_cases h0 : xs.length = 0
    · refine hc_open ht hv (.inl rfl) hc38_r fun g hg => ?_
      simp only [List.mem_cons, List.not_mem_nil, or_false] at hg
      rcases hg with rfl | rfl
      · exact f1 _ rfl
      · show true = decide ((xs.length : Int) = 0)
        exact (decide_eq_true (by omega)).symm
    · refine hc_open ht hv (.inl rfl) hc38_w fun g hg => ?_
      simp only [List.mem_cons, List.not_mem_nil, or_false] at hg
      rcases hg with rfl | rfl | rfl
      · exact f1 _ rfl
      · show false = decide ((xs.length : Int) = 0)
        exact (decide_eq_false (by omega)).symm
      · exact f2 _ rfl
  · exact hc_one (c := 39) (k := 6) ht hv hx (by decide) hl' hc39_w hc39_r
  · exact hc_one (c := 40) (k := 1) ht hv hx (by decide) hl' hc40_w hc40_r
  · exact hc_one (c := 41) (k := 7) ht hv hx (by decide) hl' hc41_w hc41_r
  · exact hc_one (c := 42) (k := 3) ht hv hx (by decide) hl' hc42_w hc42_r
  · exact hc_one (c := 43) (k := 5) ht hv hx (by decide) hl' hc43_w hc43_r
  · exact hc_one (c := 44) (k := 1) ht hv hx (by decide) hl' hc44_w hc44_r
  · exact hc_one (c := 45) (k := 6) ht hv hx (by decide) hl' hc45_w hc45_r
  · exact hc_one (c := 46) (k := 3) ht hv hx (by decide) hl' hc46_w hc46_r
  · exact hc_one (c := 47) (k := 2) ht hv hx (by decide) hl' hc47_w hc47_r
  · exact hc_one (c := 48) (k := 1) ht hv hx (by decide) hl' hc48_w hc48_r
  · exact hc_one (c := 49) (k := 3) ht hv hx (by decide) hl' hc49_w hc49_r
end Ev
end Go.Proofs.YtbjllaknnpbkkaaGreatDoor
