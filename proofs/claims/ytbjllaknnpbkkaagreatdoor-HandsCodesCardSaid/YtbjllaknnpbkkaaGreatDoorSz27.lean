/-
  The symbolic evaluator: what is decided, by a list of facts; trees of cases.
-/
import Derived.Test.YtbjllaknnpbkkaaGreatDoorSz26
namespace Go.Proofs.YtbjllaknnpbkkaaGreatDoor
namespace Ev
open Go.RowKit

/-- A fact: of a below b (lt), or of a equal to b: it is so, or not. -/
structure Fact where
  lt : Bool
  a : SE
  b : SE
  q : Bool
def Fact.holds (ρ : Nat → Int) (f : Fact) : Prop := f.q = if f.lt then decide (f.a.val ρ < f.b.val ρ) else decide (f.a.val ρ = f.b.val ρ)

noncomputable def maxO (x : Option Int) (n : Int) : Option Int := Option.rec (motive := fun _ => Option Int) (some n) (fun m => bi (ltA m n) (some n) (some m)) x
noncomputable def minO (x : Option Int) (n : Int) : Option Int := Option.rec (motive := fun _ => Option Int) (some n) (fun m => bi (ltA n m) (some n) (some m)) x
noncomputable def litC {β : Type} (e : SE) (k : Int → β) (d : β) : β := match e with
  | .lit n => k n
  | _ => d
/-- At least; at most. -/
noncomputable def loF (e : SE) : List Fact → Option Int
  | [] => none
  | f :: r => match f.lt, f.q with
    | true, true => bi (seEq f.b e) (litC f.a (fun n => maxO (loF e r) (n + 1)) (loF e r)) (loF e r)
    | true, false => bi (seEq f.a e) (litC f.b (fun n => maxO (loF e r) n) (loF e r)) (loF e r)
    | false, true => bi (seEq f.a e) (litC f.b (fun n => maxO (loF e r) n) (loF e r)) (loF e r)
    | false, false => loF e r
noncomputable def hiF (e : SE) : List Fact → Option Int
  | [] => none
  | f :: r => match f.lt, f.q with
    | true, true => bi (seEq f.a e) (litC f.b (fun n => minO (hiF e r) (n - 1)) (hiF e r)) (hiF e r)
    | true, false => bi (seEq f.b e) (litC f.a (fun n => minO (hiF e r) n) (hiF e r)) (hiF e r)
    | false, true => bi (seEq f.a e) (litC f.b (fun n => minO (hiF e r) n) (hiF e r)) (hiF e r)
    | false, false => hiF e r
noncomputable def exact (lt : Bool) (a b : SE) : List Fact → Option Bool
  | [] => none
  | f :: r => bi (f.lt == lt && (seEq f.a a && seEq f.b b)) (some f.q) (exact lt a b r)
noncomputable def orO (x y : Option Bool) : Option Bool := Option.rec (motive := fun _ => Option Bool) y (fun b => some b) x
noncomputable def whenO (x : Option Int) (p : Int → Bool) (b : Bool) : Option Bool := Option.rec (motive := fun _ => Option Bool) none (fun n => bi (p n) (some b) none) x
noncomputable def whenB (x : Option Bool) (p : Bool) (b : Bool) : Option Bool := Option.rec (motive := fun _ => Option Bool) none (fun q => bi (q == p) (some b) none) x
noncomputable def ltF (fs : List Fact) (a b : SE) : Option Bool :=
  orO (exact true a b fs) (orO (litC b (fun n => orO (whenO (hiF a fs) (fun m => ltA m n) true) (whenO (loF a fs) (fun m => !ltA m n) false)) none)
    (orO (litC a (fun n => orO (whenO (loF b fs) (fun m => ltA n m) true) (whenO (hiF b fs) (fun m => !ltA n m) false)) none)
      (orO (whenB (exact true b a fs) true false) (orO (whenB (exact false a b fs) true false) (whenB (exact false b a fs) true false)))))
noncomputable def eqF (fs : List Fact) (a b : SE) : Option Bool :=
  orO (exact false a b fs) (orO (exact false b a fs) (orO (bi (seEq a b) (some true) none)
    (orO (litC b (fun n => orO (whenO (hiF a fs) (fun m => ltA m n) false) (whenO (loF a fs) (fun m => ltA n m) false)) none)
      (orO (litC a (fun n => orO (whenO (hiF b fs) (fun m => ltA m n) false) (whenO (loF b fs) (fun m => ltA n m) false)) none)
        (orO (whenB (exact true a b fs) true false) (whenB (exact true b a fs) true false))))))
noncomputable def orcF (fs : List Fact) : Orc := ⟨eqF fs, ltF fs, fun _ => false, .wrap, .bin⟩

section
variable {ρ : Nat → Int} {fs : List Fact}
theorem Fact.tt {a b : SE} (h : (⟨true, a, b, true⟩ : Fact).holds ρ) : a.val ρ < b.val ρ := of_decide_eq_true h.symm
theorem Fact.tf {a b : SE} (h : (⟨true, a, b, false⟩ : Fact).holds ρ) : ¬ a.val ρ < b.val ρ := of_decide_eq_false h.symm
theorem Fact.ft {a b : SE} (h : (⟨false, a, b, true⟩ : Fact).holds ρ) : a.val ρ = b.val ρ := of_decide_eq_true h.symm
theorem SE.lit_val (n : Int) : (SE.lit n).val ρ = n := rfl
theorem ltA_true {m n : Int} (h : ltA m n = true) : m < n := by rw [ltA_eq] at h; exact of_decide_eq_true h
theorem ltA_not {m n : Int} (h : (!ltA m n) = true) : ¬ m < n := by rw [ltA_eq] at h; simpa using h
theorem dec_f {p : Prop} [Decidable p] (h : ¬ p) : false = decide p := (decide_eq_false h).symm
theorem dec_t {p : Prop} [Decidable p] (h : p) : true = decide p := (decide_eq_true h).symm
theorem maxO_ok {x : Option Int} {n v m : Int} (h1 : ∀ k, x = some k → k ≤ v) (h2 : n ≤ v) (h : maxO x n = some m) : m ≤ v := by
  cases x with
  | none => cases h; exact h2
  | some k =>
    have h' : bi (ltA k n) (some n) (some k) = some m := h
    cases hb : ltA k n <;> rw [hb] at h' <;> cases h'
    · exact h1 _ rfl
    · exact h2
theorem minO_ok {x : Option Int} {n v m : Int} (h1 : ∀ k, x = some k → v ≤ k) (h2 : v ≤ n) (h : minO x n = some m) : v ≤ m := by
  cases x with
  | none => cases h; exact h2
  | some k =>
    have h' : bi (ltA n k) (some n) (some k) = some m := h
    cases hb : ltA n k <;> rw [hb] at h' <;> cases h'
    · exact h1 _ rfl
    · exact h2
theorem litC_some {β : Type} {e : SE} {k : Int → β} {d r : β} (h : litC e k d = r) : (∃ n, e = .lit n ∧ k n = r) ∨ d = r := by
  cases e <;> first | exact .inl ⟨_, rfl, h⟩ | exact .inr h
theorem loF_ok (e : SE) : ∀ {fs : List Fact}, (∀ f ∈ fs, f.holds ρ) → ∀ m, loF e fs = some m → m ≤ e.val ρ := by
  intro fs
  induction fs with
  | nil => intro _ m h; cases h
  | cons f r ih =>
    intro hf m h
    have ih := ih (fun f h => hf f (by simp [h]))
    have h0 := hf f (by simp)
    obtain ⟨lt, a, b, q⟩ := f
    simp only [loF] at h
    cases lt <;> cases q <;> simp only at h
    · exact ih m h
    · cases hs : seEq a e <;> rw [hs] at h
      · exact ih m h
      · have := seEq_ok hs
        subst this
        rcases litC_some h with ⟨n, rfl, h⟩ | h
        · exact maxO_ok ih (by have h1 := Fact.ft h0; simp only [SE.lit_val] at h1; omega) h
        · exact ih m h
    · cases hs : seEq a e <;> rw [hs] at h
      · exact ih m h
      · have := seEq_ok hs
        subst this
        rcases litC_some h with ⟨n, rfl, h⟩ | h
        · exact maxO_ok ih (by have h1 := Fact.tf h0; simp only [SE.lit_val] at h1; omega) h
        · exact ih m h
    · cases hs : seEq b e <;> rw [hs] at h
      · exact ih m h
      · have := seEq_ok hs
        subst this
        rcases litC_some h with ⟨n, rfl, h⟩ | h
        · exact maxO_ok ih (by have h1 := Fact.tt h0; simp only [SE.lit_val] at h1; omega) h
        · exact ih m h
theorem hiF_ok (e : SE) : ∀ {fs : List Fact}, (∀ f ∈ fs, f.holds ρ) → ∀ m, hiF e fs = some m → e.val ρ ≤ m := by
  intro fs
  induction fs with
  | nil => intro _ m h; cases h
  | cons f r ih =>
    intro hf m h
    have ih := ih (fun f h => hf f (by simp [h]))
    have h0 := hf f (by simp)
    obtain ⟨lt, a, b, q⟩ := f
    simp only [hiF] at h
    cases lt <;> cases q <;> simp only at h
    · exact ih m h
    · cases hs : seEq a e <;> rw [hs] at h
      · exact ih m h
      · have := seEq_ok hs
        subst this
        rcases litC_some h with ⟨n, rfl, h⟩ | h
        · exact minO_ok ih (by have h1 := Fact.ft h0; simp only [SE.lit_val] at h1; omega) h
        · exact ih m h
    · cases hs : seEq b e <;> rw [hs] at h
      · exact ih m h
      · have := seEq_ok hs
        subst this
        rcases litC_some h with ⟨n, rfl, h⟩ | h
        · exact minO_ok ih (by have h1 := Fact.tf h0; simp only [SE.lit_val] at h1; omega) h
        · exact ih m h
    · cases hs : seEq a e <;> rw [hs] at h
      · exact ih m h
      · have := seEq_ok hs
        subst this
        rcases litC_some h with ⟨n, rfl, h⟩ | h
        · exact minO_ok ih (by have h1 := Fact.tt h0; simp only [SE.lit_val] at h1; omega) h
        · exact ih m h
theorem exact_ok {lt : Bool} {a b : SE} : ∀ {fs : List Fact}, (∀ f ∈ fs, f.holds ρ) → ∀ q, exact lt a b fs = some q → q = if lt then decide (a.val ρ < b.val ρ) else decide (a.val ρ = b.val ρ) := by
  intro fs
  induction fs with
  | nil => intro _ q h; cases h
  | cons f r ih =>
    intro hf q h
    have ih := ih (fun f h => hf f (by simp [h]))
    have h0 := hf f (by simp)
    have h' : bi (f.lt == lt && (seEq f.a a && seEq f.b b)) (some f.q) (exact lt a b r) = some q := h
    cases hs : f.lt == lt && (seEq f.a a && seEq f.b b) with
    | false => rw [hs] at h'; exact ih q h'
    | true =>
      rw [hs] at h'
      cases h'
      simp only [Bool.and_eq_true, beq_iff_eq] at hs
      obtain ⟨h1, h2, h3⟩ := hs
      have := seEq_ok h2
      have := seEq_ok h3
      subst_vars
      exact h0
theorem orO_some {x y : Option Bool} {q : Bool} (h : orO x y = some q) : x = some q ∨ y = some q := by
  cases x with
  | none => exact .inr h
  | some b => exact .inl h
theorem whenO_some {x : Option Int} {p : Int → Bool} {b q : Bool} (h : whenO x p b = some q) : ∃ n, x = some n ∧ p n = true ∧ q = b := by
  cases x with
  | none => cases h
  | some n =>
    have h' : bi (p n) (some b) none = some q := h
    cases hp : p n <;> rw [hp] at h' <;> cases h'
    exact ⟨n, rfl, hp, rfl⟩
theorem whenB_some {x : Option Bool} {p b q : Bool} (h : whenB x p b = some q) : x = some p ∧ q = b := by
  cases x with
  | none => cases h
  | some n =>
    have h' : bi (n == p) (some b) none = some q := h
    cases hp : n == p <;> rw [hp] at h' <;> cases h'
    exact ⟨by rw [show n = p from by simpa using hp], rfl⟩
theorem orcF_ok (hf : ∀ f ∈ fs, f.holds ρ) : OrcOk (orcF fs) ρ := by
  refine ⟨?_, ?_, fun e h => Bool.noConfusion h, fun _ _ => rfl, fun _ _ _ _ => rfl⟩
  · intro a b q h
    rcases orO_some h with h | h
    · exact exact_ok hf q h
    rcases orO_some h with h | h
    · have := exact_ok hf q h
      simp only [Bool.false_eq_true, if_false] at this
      rw [this]
      exact decide_eq_decide.2 ⟨Eq.symm, Eq.symm⟩
    rcases orO_some h with h | h
    · cases hs : seEq a b <;> rw [hs] at h <;> cases h
      rw [seEq_ok hs]; simp
    rcases orO_some h with h | h
    · rcases litC_some h with ⟨n, rfl, h⟩ | h
      · rcases orO_some h with h | h
        · obtain ⟨m, h1, h2, rfl⟩ := whenO_some h
          have := hiF_ok a hf m h1
          first | exact dec_f (by simp only [SE.lit_val]; have := ltA_true h2; omega) | exact dec_t (by simp only [SE.lit_val]; have := ltA_true h2; omega) | exact dec_f (by simp only [SE.lit_val]; have := ltA_not h2; omega)
        · obtain ⟨m, h1, h2, rfl⟩ := whenO_some h
          have := loF_ok a hf m h1
          first | exact dec_f (by simp only [SE.lit_val]; have := ltA_true h2; omega) | exact dec_t (by simp only [SE.lit_val]; have := ltA_true h2; omega) | exact dec_f (by simp only [SE.lit_val]; have := ltA_not h2; omega)
      · cases h
    rcases orO_some h with h | h
    · rcases litC_some h with ⟨n, rfl, h⟩ | h
      · rcases orO_some h with h | h
        · obtain ⟨m, h1, h2, rfl⟩ := whenO_some h
          have := hiF_ok b hf m h1
          first | exact dec_f (by simp only [SE.lit_val]; have := ltA_true h2; omega) | exact dec_t (by simp only [SE.lit_val]; have := ltA_true h2; omega) | exact dec_f (by simp only [SE.lit_val]; have := ltA_not h2; omega)
        · obtain ⟨m, h1, h2, rfl⟩ := whenO_some h
          have := loF_ok b hf m h1
          first | exact dec_f (by simp only [SE.lit_val]; have := ltA_true h2; omega) | exact dec_t (by simp only [SE.lit_val]; have := ltA_true h2; omega) | exact dec_f (by simp only [SE.lit_val]; have := ltA_not h2; omega)
      · cases h
    rcases orO_some h with h | h
    · obtain ⟨h1, rfl⟩ := whenB_some h
      have := exact_ok hf _ h1
      first | exact dec_f (by have := of_decide_eq_true this.symm; omega) | exact dec_f (by have := of_decide_eq_true (show decide _ = true from this.symm); omega)
    · obtain ⟨h1, rfl⟩ := whenB_some h
      have := exact_ok hf _ h1
      first | exact dec_f (by have := of_decide_eq_true this.symm; omega) | exact dec_f (by have := of_decide_eq_true (show decide _ = true from this.symm); omega)
  · intro a b q h
    rcases orO_some h with h | h
    · exact exact_ok hf q h
    rcases orO_some h with h | h
    · rcases litC_some h with ⟨n, rfl, h⟩ | h
      · rcases orO_some h with h | h
        · obtain ⟨m, h1, h2, rfl⟩ := whenO_some h
          have := hiF_ok a hf m h1
          first | exact dec_f (by simp only [SE.lit_val]; have := ltA_true h2; omega) | exact dec_t (by simp only [SE.lit_val]; have := ltA_true h2; omega) | exact dec_f (by simp only [SE.lit_val]; have := ltA_not h2; omega)
        · obtain ⟨m, h1, h2, rfl⟩ := whenO_some h
          have := loF_ok a hf m h1
          first | exact dec_f (by simp only [SE.lit_val]; have := ltA_true h2; omega) | exact dec_t (by simp only [SE.lit_val]; have := ltA_true h2; omega) | exact dec_f (by simp only [SE.lit_val]; have := ltA_not h2; omega)
      · cases h
    rcases orO_some h with h | h
    · rcases litC_some h with ⟨n, rfl, h⟩ | h
      · rcases orO_some h with h | h
        · obtain ⟨m, h1, h2, rfl⟩ := whenO_some h
          have := loF_ok b hf m h1
          first | exact dec_f (by simp only [SE.lit_val]; have := ltA_true h2; omega) | exact dec_t (by simp only [SE.lit_val]; have := ltA_true h2; omega) | exact dec_f (by simp only [SE.lit_val]; have := ltA_not h2; omega)
        · obtain ⟨m, h1, h2, rfl⟩ := whenO_some h
          have := hiF_ok b hf m h1
          first | exact dec_f (by simp only [SE.lit_val]; have := ltA_true h2; omega) | exact dec_t (by simp only [SE.lit_val]; have := ltA_true h2; omega) | exact dec_f (by simp only [SE.lit_val]; have := ltA_not h2; omega)
      · cases h
    rcases orO_some h with h | h
    · obtain ⟨h1, rfl⟩ := whenB_some h
      have := exact_ok hf _ h1
      first | exact dec_f (by have := of_decide_eq_true this.symm; omega) | exact dec_f (by have := of_decide_eq_true (show decide _ = true from this.symm); omega)
    rcases orO_some h with h | h
    · obtain ⟨h1, rfl⟩ := whenB_some h
      have := exact_ok hf _ h1
      first | exact dec_f (by have := of_decide_eq_true this.symm; omega) | exact dec_f (by have := of_decide_eq_true (show decide _ = true from this.symm); omega)
    · obtain ⟨h1, rfl⟩ := whenB_some h
      have := exact_ok hf _ h1
      first | exact dec_f (by have := of_decide_eq_true this.symm; omega) | exact dec_f (by have := of_decide_eq_true (show decide _ = true from this.symm); omega)
end

/-- A tree of cases. -/
inductive Tree where
  | leaf
  | lt (a b : SE) (y n : Tree)
  | eq (a b : SE) (y n : Tree)
noncomputable def Tree.all (chk : List Fact → Bool) : Tree → List Fact → Bool
  | .leaf, fs => chk fs
  | .lt a b y n, fs => y.all chk (⟨true, a, b, true⟩ :: fs) && n.all chk (⟨true, a, b, false⟩ :: fs)
  | .eq a b y n, fs => y.all chk (⟨false, a, b, true⟩ :: fs) && n.all chk (⟨false, a, b, false⟩ :: fs)
theorem Tree.all_ok {chk : List Fact → Bool} (ρ : Nat → Int) : ∀ {t : Tree} {fs : List Fact}, t.all chk fs = true → (∀ f ∈ fs, f.holds ρ) → ∃ fs', chk fs' = true ∧ ∀ f ∈ fs', f.holds ρ
  | .leaf, fs, h, hf => ⟨fs, h, hf⟩
  | .lt a b y n, fs, h, hf => by
    simp only [Tree.all, Bool.and_eq_true] at h
    by_cases hc : a.val ρ < b.val ρ
    · refine Tree.all_ok ρ h.1 ?_
      intro f hm
      rcases List.mem_cons.1 hm with rfl | hm
      · simp [Fact.holds, hc]
      · exact hf f hm
    · refine Tree.all_ok ρ h.2 ?_
      intro f hm
      rcases List.mem_cons.1 hm with rfl | hm
      · simp [Fact.holds, hc]
      · exact hf f hm
  | .eq a b y n, fs, h, hf => by
    simp only [Tree.all, Bool.and_eq_true] at h
    by_cases hc : a.val ρ = b.val ρ
    · refine Tree.all_ok ρ h.1 ?_
      intro f hm
      rcases List.mem_cons.1 hm with rfl | hm
      · simp [Fact.holds, hc]
      · exact hf f hm
    · refine Tree.all_ok ρ h.2 ?_
      intro f hm
      rcases List.mem_cons.1 hm with rfl | hm
      · simp [Fact.holds, hc]
      · exact hf f hm
end Ev
end Go.Proofs.YtbjllaknnpbkkaaGreatDoor
