/-
  The symbolic evaluator: what is decided, by a list of facts; trees of cases.
  The symbolic evaluator: a closed call that is known to answer true, as a contract.
  The symbolic evaluator: intervals, and expressions made simpler as they are made.
-/
import Derived.Test.YtnjpdipombnigaaGreatDoorYk
namespace Go.Proofs.YtnjpdipombnigaaGreatDoor
namespace Ev
open Go.RowKit

/-- A fact: of a below b (lt), or of a equal to b: it is so, or not. -/
structure Fact where
  lt : Bool
  a : SE
  b : SE
  q : Bool
def Fact.holds (ρ : Nat → Int) (f : Fact) : Prop := f.q = if f.lt then decide (f.a.val ρ < f.b.val ρ) else decide (f.a.val ρ = f.b.val ρ)

noncomputable def maxO (x : Option Int) (n : Int) : Option Int := Option.rec (motive := fun _ => Option Int) (some n) (fun m => bi (ltA m n) (some n) (some m)) x
noncomputable def minO (x : Option Int) (n : Int) : Option Int := Option.rec (motive := fun _ => Option Int) (some n) (fun m => bi (ltA n m) (some n) (some m)) x
noncomputable def litC {β : Type} (e : SE) (k : Int → β) (d : β) : β := match e with
  | .lit n => k n
  | _ => d
/-- At least; at most. -/
noncomputable def loF (e : SE) : List Fact → Option Int
  | [] => none
  | f :: r => match f.lt, f.q with
    | true, true => bi (seEq f.b e) (litC f.a (fun n => maxO (loF e r) (n + 1)) (loF e r)) (loF e r)
    | true, false => bi (seEq f.a e) (litC f.b (fun n => maxO (loF e r) n) (loF e r)) (loF e r)
    | false, true => bi (seEq f.a e) (litC f.b (fun n => maxO (loF e r) n) (loF e r)) (loF e r)
    | false, false => loF e r
noncomputable def hiF (e : SE) : List Fact → Option Int
  | [] => none
  | f :: r => match f.lt, f.q with
    | true, true => bi (seEq f.a e) (litC f.b (fun n => minO (hiF e r) (n - 1)) (hiF e r)) (hiF e r)
    | true, false => bi (seEq f.b e) (litC f.a (fun n => minO (hiF e r) n) (hiF e r)) (hiF e r)
    | false, true => bi (seEq f.a e) (litC f.b (fun n => minO (hiF e r) n) (hiF e r)) (hiF e r)
    | false, false => hiF e r
noncomputable def exact (lt : Bool) (a b : SE) : List Fact → Option Bool
  | [] => none
  | f :: r => bi (f.lt == lt && (seEq f.a a && seEq f.b b)) (some f.q) (exact lt a b r)
noncomputable def orO (x y : Option Bool) : Option Bool := Option.rec (motive := fun _ => Option Bool) y (fun b => some b) x
noncomputable def whenO (x : Option Int) (p : Int → Bool) (b : Bool) : Option Bool := Option.rec (motive := fun _ => Option Bool) none (fun n => bi (p n) (some b) none) x
noncomputable def whenB (x : Option Bool) (p : Bool) (b : Bool) : Option Bool := Option.rec (motive := fun _ => Option Bool) none (fun q => bi (q == p) (some b) none) x
noncomputable def ltF (fs : List Fact) (a b : SE) : Option Bool :=
  orO (exact true a b fs) (orO (litC b (fun n => orO (whenO (hiF a fs) (fun m => ltA m n) true) (whenO (loF a fs) (fun m => !ltA m n) false)) none)
    (orO (litC a (fun n => orO (whenO (loF b fs) (fun m => ltA n m) true) (whenO (hiF b fs) (fun m => !ltA n m) false)) none)
      (orO (whenB (exact true b a fs) true false) (orO (whenB (exact false a b fs) true false) (whenB (exact false b a fs) true false)))))
noncomputable def eqF (fs : List Fact) (a b : SE) : Option Bool :=
  orO (exact false a b fs) (orO (exact false b a fs) (orO (bi (seEq a b) (some true) none)
    (orO (litC b (fun n => orO (whenO (hiF a fs) (fun m => ltA m n) false) (whenO (loF a fs) (fun m => ltA n m) false)) none)
      (orO (litC a (fun n => orO (whenO (hiF b fs) (fun m => ltA m n) false) (whenO (loF b fs) (fun m => ltA n m) false)) none)
        (orO (whenB (exact true a b fs) true false) (whenB (exact true b a fs) true false))))))
noncomputable def orcF (fs : List Fact) : Orc := ⟨eqF fs, ltF fs, fun _ => false, .wrap, .bin, [], []⟩

section
variable {ρ : Nat → Int} {fs : List Fact}
theorem Fact.tt {a b : SE} (h : (⟨true, a, b, true⟩ : Fact).holds ρ) : a.val ρ < b.val ρ := of_decide_eq_true h.symm
theorem Fact.tf {a b : SE} (h : (⟨true, a, b, false⟩ : Fact).holds ρ) : ¬ a.val ρ < b.val ρ := of_decide_eq_false h.symm
theorem Fact.ft {a b : SE} (h : (⟨false, a, b, true⟩ : Fact).holds ρ) : a.val ρ = b.val ρ := of_decide_eq_true h.symm
theorem SE.lit_val (n : Int) : (SE.lit n).val ρ = n := rfl
theorem ltA_true {m n : Int} (h : ltA m n = true) : m < n := by rw [ltA_eq] at h; exact of_decide_eq_true h
theorem ltA_not {m n : Int} (h : (!ltA m n) = true) : ¬ m < n := by rw [ltA_eq] at h; simpa using h
theorem dec_f {p : Prop} [Decidable p] (h : ¬ p) : false = decide p := (decide_eq_false h).symm
theorem dec_t {p : Prop} [Decidable p] (h : p) : true = decide p := (decide_eq_true h).symm
theorem maxO_ok {x : Option Int} {n v m : Int} (h1 : ∀ k, x = some k → k ≤ v) (h2 : n ≤ v) (h : maxO x n = some m) : m ≤ v := by
  cases x with
  | none => cases h; exact h2
  | some k =>
    have h' : bi (ltA k n) (some n) (some k) = some m := h
    cases hb : ltA k n <;> rw [hb] at h' <;> cases h'
    · exact h1 _ rfl
    · exact h2
theorem minO_ok {x : Option Int} {n v m : Int} (h1 : ∀ k, x = some k → v ≤ k) (h2 : v ≤ n) (h : minO x n = some m) : v ≤ m := by
  cases x with
  | none => cases h; exact h2
  | some k =>
    have h' : bi (ltA n k) (some n) (some k) = some m := h
    cases hb : ltA n k <;> rw [hb] at h' <;> cases h'
    · exact h1 _ rfl
    · exact h2
theorem litC_some {β : Type} {e : SE} {k : Int → β} {d r : β} (h : litC e k d = r) : (∃ n, e = .lit n ∧ k n = r) ∨ d = r := by
  cases e <;> first | exact .inl ⟨_, rfl, h⟩ | exact .inr h
theorem loF_ok (e : SE) : ∀ {fs : List Fact}, (∀ f ∈ fs, f.holds ρ) → ∀ m, loF e fs = some m → m ≤ e.val ρ := by
  intro fs
  induction fs with
  | nil => intro _ m h; cases h
  | cons f r ih =>
    intro hf m h
    have ih := ih (fun f h => hf f (by simp [h]))
    have h0 := hf f (by simp)
    obtain ⟨lt, a, b, q⟩ := f
    simp only [loF] at h
    cases lt <;> cases q <;> simp only at h
    · exact ih m h
    · cases hs : seEq a e <;> rw [hs] at h
      · exact ih m h
      · have := seEq_ok hs
        subst this
        rcases litC_some h with ⟨n, rfl, h⟩ | h
        · exact maxO_ok ih (by have h1 := Fact.ft h0; simp only [SE.lit_val] at h1; omega) h
        · exact ih m h
    · cases hs : seEq a e <;> rw [hs] at h
      · exact ih m h
      · have := seEq_ok hs
        subst this
        rcases litC_some h with ⟨n, rfl, h⟩ | h
        · exact maxO_ok ih (by have h1 := Fact.tf h0; simp only [SE.lit_val] at h1; omega) h
        · exact ih m h
    · cases hs : seEq b e <;> rw [hs] at h
      · exact ih m h
      · have := seEq_ok hs
        subst this
        rcases litC_some h with ⟨n, rfl, h⟩ | h
        · exact maxO_ok ih (by have h1 := Fact.tt h0; simp only [SE.lit_val] at h1; omega) h
        · exact ih m h
theorem hiF_ok (e : SE) : ∀ {fs : List Fact}, (∀ f ∈ fs, f.holds ρ) → ∀ m, hiF e fs = some m → e.val ρ ≤ m := by
  intro fs
  induction fs with
  | nil => intro _ m h; cases h
  | cons f r ih =>
    intro hf m h
    have ih := ih (fun f h => hf f (by simp [h]))
    have h0 := hf f (by simp)
    obtain ⟨lt, a, b, q⟩ := f
    simp only [hiF] at h
    cases lt <;> cases q <;> simp only at h
    · exact ih m h
    · cases hs : seEq a e <;> rw [hs] at h
      · exact ih m h
      · have := seEq_ok hs
        subst this
        rcases litC_some h with ⟨n, rfl, h⟩ | h
        · exact minO_ok ih (by have h1 := Fact.ft h0; simp only [SE.lit_val] at h1; omega) h
        · exact ih m h
    · cases hs : seEq b e <;> rw [hs] at h
      · exact ih m h
      · have := seEq_ok hs
        subst this
        rcases litC_some h with ⟨n, rfl, h⟩ | h
        · exact minO_ok ih (by have h1 := Fact.tf h0; simp only [SE.lit_val] at h1; omega) h
        · exact ih m h
    · cases hs : seEq a e <;> rw [hs] at h
      · exact ih m h
      · have := seEq_ok hs
        subst this
        rcases litC_some h with ⟨n, rfl, h⟩ | h
        · exact minO_ok ih (by have h1 := Fact.tt h0; simp only [SE.lit_val] at h1; omega) h
        · exact ih m h
theorem exact_ok {lt : Bool} {a b : SE} : ∀ {fs : List Fact}, (∀ f ∈ fs, f.holds ρ) → ∀ q, exact lt a b fs = some q → q = if lt then decide (a.val ρ < b.val ρ) else decide (a.val ρ = b.val ρ) := by
  intro fs
  induction fs with
  | nil => intro _ q h; cases h
  | cons f r ih =>
    intro hf q h
    have ih := ih (fun f h => hf f (by simp [h]))
    have h0 := hf f (by simp)
    have h' : bi (f.lt == lt && (seEq f.a a && seEq f.b b)) (some f.q) (exact lt a b r) = some q := h
    cases hs : f.lt == lt && (seEq f.a a && seEq f.b b) with
    | false => rw [hs] at h'; exact ih q h'
    | true =>
      rw [hs] at h'
      cases h'
      simp only [Bool.and_eq_true, beq_iff_eq] at hs
      obtain ⟨h1, h2, h3⟩ := hs
      have := seEq_ok h2
      have := seEq_ok h3
      subst_vars
      exact h0
theorem orO_some {x y : Option Bool} {q : Bool} (h : orO x y = some q) : x = some q ∨ y = some q := by
  cases x with
  | none => exact .inr h
  | some b => exact .inl h
theorem whenO_some {x : Option Int} {p : Int → Bool} {b q : Bool} (h : whenO x p b = some q) : ∃ n, x = some n ∧ p n = true ∧ q = b := by
  cases x with
  | none => cases h
  | some n =>
    have h' : bi (p n) (some b) none = some q := h
    cases hp : p n <;> rw [hp] at h' <;> cases h'
    exact ⟨n, rfl, hp, rfl⟩
theorem whenB_some {x : Option Bool} {p b q : Bool} (h : whenB x p b = some q) : x = some p ∧ q = b := by
  cases x with
  | none => cases h
  | some n =>
    have h' : bi (n == p) (some b) none = some q := h
    cases hp : n == p <;> rw [hp] at h' <;> cases h'
    exact ⟨by rw [show n = p from by simpa using hp], rfl⟩
theorem orcF_ok (hf : ∀ f ∈ fs, f.holds ρ) : OrcOk (orcF fs) ρ := by
  refine ⟨?_, ?_, fun e h => Bool.noConfusion h, fun _ _ => rfl, fun _ _ _ _ => rfl⟩
  · intro a b q h
    rcases orO_some h with h | h
    · exact exact_ok hf q h
    rcases orO_some h with h | h
    · have := exact_ok hf q h
      simp only [Bool.false_eq_true, if_false] at this
      rw [this]
      exact decide_eq_decide.2 ⟨Eq.symm, Eq.symm⟩
    rcases orO_some h with h | h
    · cases hs : seEq a b <;> rw [hs] at h <;> cases h
      rw [seEq_ok hs]; simp
    rcases orO_some h with h | h
    · rcases litC_some h with ⟨n, rfl, h⟩ | h
      · rcases orO_some h with h | h
        · obtain ⟨m, h1, h2, rfl⟩ := whenO_some h
          have := hiF_ok a hf m h1
          first | exact dec_f (by simp only [SE.lit_val]; have := ltA_true h2; omega) | exact dec_t (by simp only [SE.lit_val]; have := ltA_true h2; omega) | exact dec_f (by simp only [SE.lit_val]; have := ltA_not h2; omega)
        · obtain ⟨m, h1, h2, rfl⟩ := whenO_some h
          have := loF_ok a hf m h1
          first | exact dec_f (by simp only [SE.lit_val]; have := ltA_true h2; omega) | exact dec_t (by simp only [SE.lit_val]; have := ltA_true h2; omega) | exact dec_f (by simp only [SE.lit_val]; have := ltA_not h2; omega)
      · cases h
    rcases orO_some h with h | h
    · rcases litC_some h with ⟨n, rfl, h⟩ | h
      · rcases orO_some h with h | h
        · obtain ⟨m, h1, h2, rfl⟩ := whenO_some h
          have := hiF_ok b hf m h1
          first | exact dec_f (by simp only [SE.lit_val]; have := ltA_true h2; omega) | exact dec_t (by simp only [SE.lit_val]; have := ltA_true h2; omega) | exact dec_f (by simp only [SE.lit_val]; have := ltA_not h2; omega)
        · obtain ⟨m, h1, h2, rfl⟩ := whenO_some h
          have := loF_ok b hf m h1
          first | exact dec_f (by simp only [SE.lit_val]; have := ltA_true h2; omega) | exact dec_t (by simp only [SE.lit_val]; have := ltA_true h2; omega) | exact dec_f (by simp only [SE.lit_val]; have := ltA_not h2; omega)
      · cases h
    rcases orO_some h with h | h
    · obtain ⟨h1, rfl⟩ := whenB_some h
      have := exact_ok hf _ h1
      first | exact dec_f (by have := of_decide_eq_true this.symm; omega) | exact dec_f (by have := of_decide_eq_true (show decide _ = true from this.symm); omega)
    · obtain ⟨h1, rfl⟩ := whenB_some h
      have := exact_ok hf _ h1
      first | exact dec_f (by have := of_decide_eq_true this.symm; omega) | exact dec_f (by have := of_decide_eq_true (show decide _ = true from this.symm); omega)
  · intro a b q h
    rcases orO_some h with h | h
    · exact exact_ok hf q h
    rcases orO_some h with h | h
    · rcases litC_some h with ⟨n, rfl, h⟩ | h
      · rcases orO_some h with h | h
        · obtain ⟨m, h1, h2, rfl⟩ := whenO_some h
          have := hiF_ok a hf m h1
          first | exact dec_f (by simp only [SE.lit_val]; have := ltA_true h2; omega) | exact dec_t (by simp only [SE.lit_val]; have := ltA_true h2; omega) | exact dec_f (by simp only [SE.lit_val]; have := ltA_not h2; omega)
        · obtain ⟨m, h1, h2, rfl⟩ := whenO_some h
          have := loF_ok a hf m h1
          first | exact dec_f (by simp only [SE.lit_val]; have := ltA_true h2; omega) | exact dec_t (by simp only [SE.lit_val]; have := ltA_true h2; omega) | exact dec_f (by simp only [SE.lit_val]; have := ltA_not h2; omega)
      · cases h
    rcases orO_some h with h | h
    · rcases litC_some h with ⟨n, rfl, h⟩ | h
      · rcases orO_some h with h | h
        · obtain ⟨m, h1, h2, rfl⟩ := whenO_some h
          have := loF_ok b hf m h1
          first | exact dec_f (by simp only [SE.lit_val]; have := ltA_true h2; omega) | exact dec_t (by simp only [SE.lit_val]; have := ltA_true h2; omega) | exact dec_f (by simp only [SE.lit_val]; have := ltA_not h2; omega)
        · obtain ⟨m, h1, h2, rfl⟩ := whenO_some h
          have := hiF_ok b hf m h1
          first | exact dec_f (by simp only [SE.lit_val]; have := ltA_true h2; omega) | exact dec_t (by simp only [SE.lit_val]; have := ltA_true h2; omega) | exact dec_f (by simp only [SE.lit_val]; have := ltA_not h2; omega)
      · cases h
    rcases orO_some h with h | h
    · obtain ⟨h1, rfl⟩ := whenB_some h
      have := exact_ok hf _ h1
      first | exact dec_f (by have := of_decide_eq_true this.symm; omega) | exact dec_f (by have := of_decide_eq_true (show decide _ = true from this.symm); omega)
    rcases orO_some h with h | h
    · obtain ⟨h1, rfl⟩ := whenB_some h
      have := exact_ok hf _ h1
      first | exact dec_f (by have := of_decide_eq_true this.symm; omega) | exact dec_f (by have := of_decide_eq_true (show decide _ = true from this.symm); omega)
    · obtain ⟨h1, rfl⟩ := whenB_some h
      have := exact_ok hf _ h1
      first | exact dec_f (by have := of_decide_eq_true this.symm; omega) | exact dec_f (by have := of_decide_eq_true (show decide _ = true from this.symm); omega)
end

/-- A tree of cases. -/
inductive Tree where
  | leaf
  | lt (a b : SE) (y n : Tree)
  | eq (a b : SE) (y n : Tree)
noncomputable def Tree.all (chk : List Fact → Bool) : Tree → List Fact → Bool
  | .leaf, fs => chk fs
  | .lt a b y n, fs => y.all chk (⟨true, a, b, true⟩ :: fs) && n.all chk (⟨true, a, b, false⟩ :: fs)
  | .eq a b y n, fs => y.all chk (⟨false, a, b, true⟩ :: fs) && n.all chk (⟨false, a, b, false⟩ :: fs)
theorem Tree.all_ok {chk : List Fact → Bool} (ρ : Nat → Int) : ∀ {t : Tree} {fs : List Fact}, t.all chk fs = true → (∀ f ∈ fs, f.holds ρ) → ∃ fs', chk fs' = true ∧ ∀ f ∈ fs', f.holds ρ
  | .leaf, fs, h, hf => ⟨fs, h, hf⟩
  | .lt a b y n, fs, h, hf => by
    simp only [Tree.all, Bool.and_eq_true] at h
    by_cases hc : a.val ρ < b.val ρ
    · refine Tree.all_ok ρ h.1 ?_
      intro f hm
      rcases List.mem_cons.1 hm with rfl | hm
      · simp [Fact.holds, hc]
      · exact hf f hm
    · refine Tree.all_ok ρ h.2 ?_
      intro f hm
      rcases List.mem_cons.1 hm with rfl | hm
      · simp [Fact.holds, hc]
      · exact hf f hm
  | .eq a b y n, fs, h, hf => by
    simp only [Tree.all, Bool.and_eq_true] at h
    by_cases hc : a.val ρ = b.val ρ
    · refine Tree.all_ok ρ h.1 ?_
      intro f hm
      rcases List.mem_cons.1 hm with rfl | hm
      · simp [Fact.holds, hc]
      · exact hf f hm
    · refine Tree.all_ok ρ h.2 ?_
      intro f hm
      rcases List.mem_cons.1 hm with rfl | hm
      · simp [Fact.holds, hc]
      · exact hf f hm
end Ev
end Go.Proofs.YtnjpdipombnigaaGreatDoor
namespace Go.Proofs.YtnjpdipombnigaaGreatDoor
namespace Ev
open Go.RowKit

noncomputable def plainEq : AV → AV → Bool
  | .bool a, .bool b => a == b
  | .int k a, .int q b => kindEq k q && eqA a b
  | .str a, .str b => bytesEq a b
  | _, _ => false
noncomputable def plainsEq : List AV → List AV → Bool
  | [], [] => true
  | x :: l, y :: m => plainEq x y && plainsEq l m
  | _, _ => false
noncomputable def tabEq (o : Option AObj) (l : List AV) : Bool := match o with
  | some (.tab m) => plainsEq m l
  | _ => false
noncomputable def tabsIn (s : St) : List (Nat × List AV) → Bool
  | [] => true
  | p :: r => tabEq (s.h.get p.1) p.2 && (Nat.blt p.1 (nat_lit 64) && tabsIn s r)
noncomputable def seeAll (s : St) : List (Nat × List AV) → St
  | [] => s
  | p :: r => seeAll (s.see p.1) r
/-- A closed call that answers true wherever the tables are these. -/
noncomputable def knownTrue (tabs : List (Nat × List AV)) (args : List AV) (s : St) : R := match args with
  | [] => bc (tabsIn s tabs) (some (.bool true, seeAll s tabs))
  | _ => none
noncomputable def startT (tabs : List (Nat × List AV)) (O : Orc) : St := ⟨64, initH tabs, 0, 0, O⟩

theorem plainEq_ok {E E' : Env} {x y : AV} {v : Value} (h : plainEq x y = true) (hr : Rel E x v) : Rel E' y v := by
  cases x <;> cases y <;> first | (cases h; done) | skip
  · cases hr
    rename_i a b
    have e : a = b := by simpa [plainEq] using h
    subst e
    exact .bool _
  · cases hr
    simp only [plainEq, Bool.and_eq_true] at h
    have h1 := kindEq_ok h.1
    have h2 := h.2
    rw [eqA_eq] at h2
    have h3 := of_decide_eq_true h2
    subst h1
    subst h3
    exact .int _ _
  · cases hr
    have h' := h
    simp only [plainEq, bytesEq_eq] at h'
    rename_i a b
    have e : a = b := by simpa using h'
    subst e
    exact .str _
theorem plainsEq_ok {E E' : Env} : ∀ {l m : List AV} {ys : List Value}, plainsEq l m = true → RelL E l ys → RelL E' m ys
  | [], [], _, _, .nil => .nil
  | _ :: _, _ :: _, _, h, .cons hx ht => by
    simp only [plainsEq, Bool.and_eq_true] at h
    exact .cons (plainEq_ok h.1 hx) (plainsEq_ok h.2 ht)
  | [], _ :: _, _, h, _ => by cases h
  | _ :: _, [], _, h, _ => by cases h

theorem satT {w : World} {tabs : List (Nat × List AV)} (ok : TabsIn w tabs) {O : Orc} {ρ : Nat → Int} (ho : OrcOk O ρ) (hd : ∀ d ∈ O.defs, DefOk O.tabs ρ (fun _ => default) d := by intro d h; exact absurd h List.not_mem_nil) : Sat (fun _ => True) w.heap.size (env0 ρ tabs) (startT tabs O) w := by
  refine ⟨?_, ?_, Nat.le_refl _, ?_, ?_, ?_, ho, fun b hb => hb.elim, hd⟩
  · intro i j b C D _ hi hj
    have h1 := (env0_live hi).1
    have h2 := (env0_live hj).1
    omega
  · intro i b C hi
    obtain ⟨rfl, _, vs, hm⟩ := env0_live hi
    obtain ⟨_, c, e, f, hh, _⟩ := ok _ _ hm
    exact (Array.getElem?_eq_some_iff.1 hh).1
  · intro g hg
    simp only [env0]
    rw [if_pos hg]
    split
    · rfl
    · trivial
  · intro i hi _
    have hi' : 64 ≤ i := hi
    simp only [env0]
    rw [if_neg (by omega)]
  · intro i o _ hg
    obtain ⟨vs, hm, rfl⟩ := initH_get hg
    obtain ⟨hlt, c, e, f, hh, hr⟩ := ok _ _ hm
    refine ⟨i, 0, _, ?_, hh, ⟨c, e, f, rfl, hr _⟩, .inl rfl⟩
    simp only [env0]
    rw [if_pos hlt, if_pos]
    exact List.any_eq_true.2 ⟨(i, vs), hm, by simp⟩
theorem seeAll_step : ∀ (tabs : List (Nat × List AV)) (s : St), Step s (seeAll s tabs) ∧ (seeAll s tabs).h = s.h ∧ (seeAll s tabs).c = s.c ∧ (seeAll s tabs).w = s.w ∧ ∀ g l, (g, l) ∈ tabs → In (seeAll s tabs).l g
  | [], s => ⟨Step.refl _, rfl, rfl, rfl, fun _ _ h => by cases h⟩
  | p :: r, s => by
    obtain ⟨h1, h2, h3, h4, h5⟩ := seeAll_step r (s.see p.1)
    refine ⟨(Step.see _ _).trans h1, h2, h3, h4, fun g l hm => ?_⟩
    rcases List.mem_cons.1 hm with rfl | hm
    · exact h1.l _ (in_see _ _)
    · exact h5 g l hm
theorem tabsIn_ok {G : Nat → Prop} {B : Nat} {E : Env} {s : St} {w : World} (hs : Sat G B E s w) : ∀ {tabs : List (Nat × List AV)}, tabsIn s tabs = true → (∀ g l, (g, l) ∈ tabs → G g) → TabsIn w tabs
  | [], _, _ => fun _ _ h => by cases h
  | p :: r, h, hg => by
    simp only [tabsIn, Bool.and_eq_true] at h
    obtain ⟨h1, h2, h3⟩ := h
    have ih := tabsIn_ok hs h3 (fun g l hm => hg g l (by simp [hm]))
    intro g l hm
    rcases List.mem_cons.1 hm with rfl | hm
    · have hlt : g < 64 := by simpa using h2
      refine ⟨hlt, ?_⟩
      unfold tabEq at h1
      split at h1
      · rename_i m ho
        obtain ⟨b, C, ob, he, hh, hok, _⟩ := hs.fact g _ (hg g l (by simp)) ho
        obtain ⟨c, e, f, rfl, hr⟩ := hok
        have := hs.at_live he (hs.glob g hlt)
        subst this
        exact ⟨c, e, f, hh, fun E' => plainsEq_ok h1 hr⟩
      · cases h1
    · exact ih g l hm
theorem known_ok {P : Program} [IsProg P] {tabs : List (Nat × List AV)} {ctr : Ctr} (hctr : CtrOk P ctr) (hmix : P.follows .mixedOrders = true) (hnames : (P.funcs.toList.all fun fn => fn.name != "runtime.NumGoroutine") = true) {n : Nat} {f : FuncId}
    (hrun : okT ((ev P ctr n).call f [] (startT tabs noOrc)) = true) : ∀ {args : List AV} {s : St} {v : AV} {s' : St}, knownTrue tabs args s = some (v, s') → Step s s' ∧ ∀ {G : Nat → Prop} {B : Nat} {E : Env} {w : World} {args' : Array Value}, (∀ j, In s'.l j → G j) → Sat G B E s w → RelL E args args'.toList →
      CallRes P f args' w (RetOk G B s' v E w) := by
  intro args s v s' h
  unfold knownTrue at h
  split at h
  case h_2 => cases h
  obtain ⟨ht, h1⟩ := bc_some h
  cases h1
  obtain ⟨q1, q2, q3, q4, q5⟩ := seeAll_step tabs s
  refine ⟨q1, fun {G B E w args'} hG hs ha => ?_⟩
  have htabs := tabsIn_ok hs ht (fun g l hm => hG g (q5 g l hm))
  obtain ⟨s1, hs1⟩ := okT_some hrun
  have hn : ∀ (f : FuncId) (fn : Func), P.funcs[f]? = some fn → fn.name ≠ "runtime.NumGoroutine" := by
    intro f fn hf
    have := List.all_eq_true.1 hnames fn (by
      rw [← Array.getElem?_toList] at hf
      exact List.mem_of_getElem? hf)
    simpa using this
  have ha' : args' = #[] := by
    obtain ⟨l⟩ := args'
    cases ha
    rfl
  subst ha'
  obtain ⟨hent, hcalls⟩ := ((ev_ok hmix hctr hn n).call hs1).2 (fun _ _ => trivial) (satT htabs (noOrc_ok fun _ => 0)) (args' := #[]) .nil
  refine ⟨hent, hcalls.mono fun e w' he => ?_⟩
  obtain ⟨E', v', rfl, hv, _, hx⟩ := he
  cases hv
  obtain ⟨k1, k2⟩ := hs.later hx.below
  refine ⟨E, _, rfl, .bool true, ⟨k1.inj, k1.lt, k1.base, k1.glob, ?_, ?_, ?_, k1.prot, ?_⟩, k2 _⟩
  · rw [q3]; exact k1.fresh
  · rw [q2]; exact k1.fact
  · rw [q1.o]; exact k1.orc
  · rw [q1.o]; exact k1.defs
/-- One function of known answer. -/
noncomputable def ctr1 (f : FuncId) (g : List AV → St → R) : Ctr := fun f' => bi (Nat.beq f' f) (some g) none
theorem ctr1_ok {P : Program} [IsProg P] {f : FuncId} {g : List AV → St → R} (h : ∀ {args : List AV} {s : St} {v : AV} {s' : St}, g args s = some (v, s') → Step s s' ∧ ∀ {G : Nat → Prop} {B : Nat} {E : Env} {w : World} {args' : Array Value}, (∀ j, In s'.l j → G j) → Sat G B E s w → RelL E args args'.toList → CallRes P f args' w (RetOk G B s' v E w)) : CtrOk P (ctr1 f g) := by
  intro f' g' hf args s v s' hg
  have hf' : bi (Nat.beq f' f) (some g) none = some g' := hf
  cases hb : Nat.beq f' f with
  | false => rw [hb] at hf'; cases hf'
  | true =>
    rw [hb] at hf'
    cases hf'
    have : f' = f := by simpa using hb
    subst this
    exact h hg
theorem noCtr_ok {P : Program} [IsProg P] : CtrOk P (fun _ => none) := fun _ _ h => by cases h
theorem TabsIn_of_laid {P : Program} [IsProg P] {laid : List (String × DataW Unit)} {w : World} (h : laidMet P laid w) : TabsIn w (tabsOf P laid) := by
  obtain ⟨ps, hl, _⟩ := h
  intro g l hm
  obtain ⟨h1, c, e, f, hh, _⟩ := tabsOf_ok ⟨fun _ => .dead, fun _ => 0, fun _ => .same, fun _ => default, fun _ => False, fun _ => none⟩ hl g l hm
  refine ⟨h1, c, e, f, hh, fun E => ?_⟩
  obtain ⟨_, c', e', f', hh', hr'⟩ := tabsOf_ok E hl g l hm
  rw [hh] at hh'
  cases hh'
  exact hr'
end Ev
end Go.Proofs.YtnjpdipombnigaaGreatDoor
namespace Go.Proofs.YtnjpdipombnigaaGreatDoor
namespace Ev
open Go.RowKit

abbrev Ivl := Option (Int × Int)
noncomputable def inK (k : IntKind) (p : Int × Int) : Bool := eqA (wrapA k p.1) p.1 && eqA (wrapA k p.2) p.2
noncomputable def whenI (k : IntKind) (p : Int × Int) : Ivl := bi (inK k p) (some p) none
noncomputable def kIvl : IntKind → Ivl
  | .i8 => some (-128, 127) | .i16 => some (-32768, 32767) | .i32 => some (-2147483648, 2147483647) | .i64 => some (-9223372036854775808, 9223372036854775807)
  | .u8 => some (0, 255) | .u16 => some (0, 65535) | .u32 => some (0, 4294967295) | .u64 => some (0, 18446744073709551615)
noncomputable def orI (x y : Ivl) : Ivl := Option.rec (motive := fun _ => Ivl) y (fun b => some b) x
noncomputable def ivl2 (x y : Ivl) (f : Int × Int → Int × Int → Ivl) : Ivl := oc x fun p => oc y fun q => f p q
noncomputable def binIv (op : BinOp) (k : IntKind) (p q : Int × Int) : Ivl := match op with
  | .add => whenI k (p.1 + q.1, p.2 + q.2)
  | .sub => whenI k (p.1 - q.2, p.2 - q.1)
  | .mul => bi (ltA p.1 0 || ltA q.1 0) none (whenI k (p.1 * q.1, p.2 * q.2))
  | .rem => bi (ltA p.1 0 || ltA q.1 1) none (some (0, p.2))
  | .quo => bi (ltA p.1 0 || ltA q.1 1) none (whenI k (0, p.2))
  | .shr => bi (ltA p.1 0 || ltA q.1 0) none (some (0, p.2))
  | _ => none
/-- Bounds of a sum of multiples. -/
noncomputable def linI (fs : List Fact) : List (Nat × Int) → Ivl
  | [] => some (0, 0)
  | p :: r => oc (loF (.var p.1) fs) fun a => oc (hiF (.var p.1) fs) fun b => oc (linI fs r) fun q => bi (ltA p.2 0) (some (p.2 * b + q.1, p.2 * a + q.2)) (some (p.2 * a + q.1, p.2 * b + q.2))
noncomputable def ivl (fs : List Fact) : SE → Ivl
  | .lit n => some (n, n)
  | .var i => oc (loF (.var i) fs) fun a => oc (hiF (.var i) fs) fun b => some (a, b)
  | .wrap k a => orI (oc (ivl fs a) fun p => whenI k p) (kIvl k)
  | .bin op k a b => ivl2 (ivl fs a) (ivl fs b) (binIv op k)
  | .fn k _ _ => bi (Nat.beq k (nat_lit 0)) (some (0, 1000002)) (bi (Nat.beq k (nat_lit 1)) (some (32, 126)) (bi (Nat.beq k (nat_lit 2)) (some (0, 4294967295)) (bi (Nat.beq k (nat_lit 3)) (some (0, 255)) none)))
  | .lin n l => oc (linI fs l) fun q => some (n + q.1, n + q.2)
noncomputable def ltI (fs : List Fact) (a b : SE) : Option Bool := oc (ivl fs a) fun p => oc (ivl fs b) fun q => bi (ltA p.2 q.1) (some true) (bi (ltA p.1 q.2) none (some false))
noncomputable def eqI (fs : List Fact) (a b : SE) : Option Bool := oc (ivl fs a) fun p => oc (ivl fs b) fun q => bi (ltA p.2 q.1 || ltA q.2 p.1) (some false) none
noncomputable def smallI (fs : List Fact) (e : SE) : Bool := Option.rec (motive := fun _ => Bool) false (fun p => !ltA p.1 (-1000000000000000000) && !ltA 20000000000000000000 p.2) (ivl fs e)
noncomputable def fitsK (fs : List Fact) (k : IntKind) (e : SE) : Bool := Option.rec (motive := fun _ => Bool) false (fun p => inK k p) (ivl fs e)
noncomputable def wrapS (fs : List Fact) (k : IntKind) (e : SE) : SE := bi (fitsK fs k e) e (.wrap k e)
/-- Sums of multiples of variables, in their order. -/
noncomputable def toLin : SE → Option (Int × List (Nat × Int))
  | .lit n => some (n, [])
  | .var i => some (0, [(i, 1)])
  | .lin n l => some (n, l)
  | _ => none
noncomputable def mulL (c : Int) : List (Nat × Int) → List (Nat × Int)
  | [] => []
  | p :: r => (p.1, c * p.2) :: mulL c r
noncomputable def consL (p : Nat × Int) (l : List (Nat × Int)) : List (Nat × Int) := bi (eqA p.2 0) l (p :: l)
noncomputable def insL (p : Nat × Int) : List (Nat × Int) → List (Nat × Int)
  | [] => [p]
  | q :: r => bi (Nat.blt p.1 q.1) (p :: q :: r) (bi (Nat.beq p.1 q.1) (consL (p.1, p.2 + q.2) r) (q :: insL p r))
noncomputable def addL : List (Nat × Int) → List (Nat × Int) → List (Nat × Int)
  | [], m => m
  | p :: l, m => insL p (addL l m)
noncomputable def mkLin (n : Int) (l : List (Nat × Int)) : SE := match l with
  | [] => .lit n
  | [(i, c)] => bi (eqA n 0 && eqA c 1) (.var i) (.lin n [(i, c)])
  | l => .lin n l
noncomputable def subL (a b : Int × List (Nat × Int)) : Int × List (Nat × Int) := (a.1 - b.1, addL a.2 (mulL (-1) b.2))
noncomputable def linC (fs : List Fact) (k : IntKind) (e d : SE) : SE := bi (fitsK fs k e) e d
noncomputable def addS (fs : List Fact) (k : IntKind) (a b : SE) : SE := match toLin a, toLin b with
  | some x, some y => linC fs k (mkLin (x.1 + y.1) (addL x.2 y.2)) (.bin .add k a b)
  | _, _ => .bin .add k a b
noncomputable def subS (fs : List Fact) (k : IntKind) (a b : SE) : SE := match toLin a, toLin b with
  | some x, some y => linC fs k (mkLin (subL x y).1 (subL x y).2) (.bin .sub k a b)
  | _, _ => .bin .sub k a b
/-- Of a sum: is it above nothing? -/
noncomputable def sgnI (x : Ivl) : Option Bool := oc x fun p => bi (ltA 0 p.1) (some true) (bi (ltA 0 p.2) none (some false))
noncomputable def zerI (x : Ivl) : Option Bool := oc x fun p => bi (ltA 0 p.1 || ltA p.2 0) (some false) (bi (eqA p.1 0 && eqA p.2 0) (some true) none)
/-- By a fact on the same sum, or on its negative. -/
noncomputable def whenT (b : Bool) (q : Bool) : Option Bool := bi b (some q) none
noncomputable def sgnF (n : Int) (l : List (Nat × Int)) (f : Fact) : Option Bool := match toLin f.a, toLin f.b with
  | some x, some y => bi (linEq l (subL y x).2)
    (match f.lt, f.q with
      | true, true => whenT (!ltA n (subL y x).1) true
      | true, false => whenT (!ltA (subL y x).1 n) false
      | false, true => some (ltA (subL y x).1 n)
      | false, false => none)
    (bi (linEq l (subL x y).2)
      (match f.lt, f.q with
        | true, true => whenT (!ltA (subL x y).1 (n - 1)) false
        | true, false => whenT (ltA (subL x y).1 n) true
        | false, true => some (ltA (subL x y).1 n)
        | false, false => none)
      none)
  | _, _ => none
noncomputable def zerF (n : Int) (l : List (Nat × Int)) (f : Fact) : Option Bool := match toLin f.a, toLin f.b with
  | some x, some y => bi (linEq l (subL y x).2)
    (match f.lt, f.q with
      | true, true => whenT (!ltA n (subL y x).1) false
      | true, false => whenT (ltA n (subL y x).1) false
      | false, true => some (eqA (subL y x).1 n)
      | false, false => whenT (eqA (subL y x).1 n) false)
    (bi (linEq l (subL x y).2)
      (match f.lt, f.q with
        | true, true => whenT (!ltA (subL x y).1 n) false
        | true, false => whenT (ltA (subL x y).1 n) false
        | false, true => some (eqA (subL x y).1 n)
        | false, false => whenT (eqA (subL x y).1 n) false)
      none)
  | _, _ => none
noncomputable def anyF (g : Fact → Option Bool) : List Fact → Option Bool
  | [] => none
  | f :: r => orO (g f) (anyF g r)
noncomputable def ltL (fs : List Fact) (a b : SE) : Option Bool := match toLin a, toLin b with
  | some x, some y => orO (sgnI (ivl fs (mkLin (subL y x).1 (subL y x).2))) (anyF (sgnF (subL y x).1 (subL y x).2) fs)
  | _, _ => none
noncomputable def eqL (fs : List Fact) (a b : SE) : Option Bool := match toLin a, toLin b with
  | some x, some y => orO (zerI (ivl fs (mkLin (subL y x).1 (subL y x).2))) (anyF (zerF (subL y x).1 (subL y x).2) fs)
  | _, _ => none
noncomputable def isLit (m : Int) (e : SE) : Bool := litC e (fun n => eqA n m) false
/-- Terms that m doesn't divide. -/
noncomputable def keepL (m : Int) : List (Nat × Int) → List (Nat × Int)
  | [] => []
  | p :: r => bi (eqA (p.2.tmod m) 0) (keepL m r) (p :: keepL m r)
noncomputable def withinI (m : Int) (x : Ivl) : Bool := match x with
  | some p => !(ltA p.1 0) && ltA p.2 m
  | none => false
noncomputable def atLeast0 (x : Ivl) : Bool := match x with
  | some p => !(ltA p.1 0)
  | none => false
/-- A remainder of a sum of multiples. -/
noncomputable def remS (fs : List Fact) (k : IntKind) (a b : SE) : SE := match a, b with
  | .lin n l, .lit m => bi (withinI m (ivl fs (mkLin n (keepL m l))) && atLeast0 (ivl fs (.lin n l))) (mkLin n (keepL m l)) (.bin .rem k (.lin n l) (.lit m))
  | a, b => .bin .rem k a b
noncomputable def binS (fs : List Fact) (op : BinOp) (k : IntKind) (a b : SE) : SE := match op with
  | .add => bi (isLit 0 a && fitsK fs k b) b (bi (isLit 0 b && fitsK fs k a) a (addS fs k a b))
  | .sub => bi (isLit 0 b && fitsK fs k a) a (subS fs k a b)
  | .mul => bi (isLit 1 a && fitsK fs k b) b (bi (isLit 1 b && fitsK fs k a) a (.bin .mul k a b))
  | .rem => remS fs k a b
  | op => .bin op k a b
noncomputable def orcI (fs : List Fact) : Orc := ⟨fun a b => orO (orO (eqF fs a b) (eqI fs a b)) (eqL fs a b), fun a b => bi (seEq a b) (some false) (orO (orO (ltF fs a b) (ltI fs a b)) (ltL fs a b)), smallI fs, wrapS fs, binS fs, [], []⟩

section
variable {ρ : Nat → Int} {fs : List Fact}
theorem inK_ok {k : IntKind} {p : Int × Int} {x : Int} (h : inK k p = true) (h1 : p.1 ≤ x) (h2 : x ≤ p.2) : k.wrap x = x := by
  simp only [inK, wrapA_eq, eqA_eq, Bool.and_eq_true, decide_eq_true_eq] at h
  obtain ⟨a, b⟩ := p
  simp only at h h1 h2
  obtain ⟨h3, h4⟩ := h
  cases k <;> simp [IntKind.wrap, IntKind.bits, IntKind.signed] at h3 h4 ⊢ <;> (repeat (split at h3 <;> split at h4 <;> split)) <;> omega
def InI (x : Int) (o : Ivl) : Prop := ∀ p, o = some p → p.1 ≤ x ∧ x ≤ p.2
theorem whenI_ok {k : IntKind} {p : Int × Int} {x : Int} (h1 : p.1 ≤ x) (h2 : x ≤ p.2) : InI (k.wrap x) (whenI k p) := by
  intro q h
  have h' : bi (inK k p) (some p) none = some q := h
  cases hk : inK k p <;> rw [hk] at h' <;> cases h'
  rw [inK_ok hk h1 h2]
  exact ⟨h1, h2⟩
theorem kIvl_ok (k : IntKind) (x : Int) : InI (k.wrap x) (kIvl k) := by
  intro p h
  cases k <;> cases h <;> simp [IntKind.wrap, IntKind.bits, IntKind.signed] <;> (repeat' split) <;> omega
theorem oc_some' {α β : Type} {x : Option α} {f : α → Option β} {b : β} (h : oc x f = some b) : ∃ a, x = some a ∧ f a = some b := by
  cases x with
  | none => cases h
  | some a => exact ⟨a, rfl, h⟩
theorem or_false2 {a b : Bool} (h : (a || b) = false) : a = false ∧ b = false := by cases a <;> cases b <;> simp_all
theorem ltA_false {m n : Int} (h : ltA m n = false) : ¬ m < n := by rw [ltA_eq] at h; exact of_decide_eq_false h
theorem binIv_ok {op : BinOp} {k : IntKind} {p q : Int × Int} {x y : Int} (h1 : p.1 ≤ x) (h2 : x ≤ p.2) (h3 : q.1 ≤ y) (h4 : y ≤ q.2) : InI (opVal op k x y) (binIv op k p q) := by
  cases op <;> simp only [binIv] <;> first | (intro _ h; cases h; done) | skip
  case add => exact whenI_ok (by simp only; omega) (by simp only; omega)
  case sub => exact whenI_ok (by simp only; omega) (by simp only; omega)
  case mul =>
    cases hb : (ltA p.1 0 || ltA q.1 0) with
    | true => intro _ h; cases h
    | false =>
      obtain ⟨ha, hb⟩ := or_false2 hb
      have ha := ltA_false ha
      have hb := ltA_false hb
      exact whenI_ok (Int.mul_le_mul h1 h3 (by omega) (by omega)) (Int.mul_le_mul h2 h4 (by omega) (by omega))
  case quo =>
    cases hb : (ltA p.1 0 || ltA q.1 1) with
    | true => intro _ h; cases h
    | false =>
      obtain ⟨ha, hb⟩ := or_false2 hb
      have ha := ltA_false ha
      have hb := ltA_false hb
      have e : x.tdiv y = x / y := Int.tdiv_eq_ediv_of_nonneg (by omega)
      refine whenI_ok ?_ ?_
      · rw [e]; exact Int.ediv_nonneg (by omega) (by omega)
      · rw [e]; exact Int.le_trans (Int.ediv_le_self _ (by omega)) h2
  case rem =>
    cases hb : (ltA p.1 0 || ltA q.1 1) with
    | true => intro _ h; cases h
    | false =>
      obtain ⟨ha, hb⟩ := or_false2 hb
      have ha := ltA_false ha
      have hb := ltA_false hb
      intro r h
      cases h
      have e : x.tmod y = x % y := Int.tmod_eq_emod_of_nonneg (by omega)
      show (0 : Int) ≤ x.tmod y ∧ x.tmod y ≤ p.2
      rw [e]
      have h5 := Int.emod_nonneg x (show y ≠ 0 by omega)
      have h6 : x % y ≤ x := by
        have h7 : 0 ≤ y * (x / y) := Int.mul_nonneg (by omega) (Int.ediv_nonneg (by omega) (by omega))
        rw [Int.emod_def]; omega
      omega
  case shr =>
    cases hb : (ltA p.1 0 || ltA q.1 0) with
    | true => intro _ h; cases h
    | false =>
      obtain ⟨ha, hb⟩ := or_false2 hb
      have ha := ltA_false ha
      intro r h
      cases h
      have hp : (0 : Int) < 2 ^ (min y.toNat k.bits) := Int.pow_pos (by decide)
      have e : x.fdiv (2 ^ (min y.toNat k.bits)) = x / 2 ^ (min y.toNat k.bits) := Int.fdiv_eq_ediv_of_nonneg _ (Int.le_of_lt hp)
      show (0 : Int) ≤ x.fdiv (2 ^ (min y.toNat k.bits)) ∧ x.fdiv (2 ^ (min y.toNat k.bits)) ≤ p.2
      rw [e]
      exact ⟨Int.ediv_nonneg (by omega) (Int.le_of_lt hp), Int.le_trans (Int.ediv_le_self _ (by omega)) h2⟩
theorem linI_ok (hf : ∀ f ∈ fs, f.holds ρ) : ∀ (l : List (Nat × Int)) (p : Int × Int), linI fs l = some p → p.1 ≤ linV ρ l ∧ linV ρ l ≤ p.2
  | [], p, h => by cases h; exact ⟨Int.le_refl _, Int.le_refl _⟩
  | (i, c) :: r, p, h => by
    obtain ⟨a, h1, h⟩ := oc_some' (show oc (loF (.var i) fs) (fun a => oc (hiF (.var i) fs) fun b => oc (linI fs r) fun q => bi (ltA c 0) (some (c * b + q.1, c * a + q.2)) (some (c * a + q.1, c * b + q.2))) = some p from h)
    obtain ⟨b, h2, h⟩ := oc_some' h
    obtain ⟨q, h3, h⟩ := oc_some' h
    have ha : a ≤ ρ i := loF_ok _ hf _ h1
    have hb : ρ i ≤ b := hiF_ok _ hf _ h2
    have hq := linI_ok hf r q h3
    show p.1 ≤ c * ρ i + linV ρ r ∧ c * ρ i + linV ρ r ≤ p.2
    cases hc : ltA c 0 with
    | true =>
      rw [hc, bi_true] at h
      cases h
      have hc := ltA_true hc
      have m1 : c * b ≤ c * ρ i := Int.mul_le_mul_of_nonpos_left (by omega) hb
      have m2 : c * ρ i ≤ c * a := Int.mul_le_mul_of_nonpos_left (by omega) ha
      simp only
      omega
    | false =>
      rw [hc, bi_false] at h
      cases h
      have hc := ltA_false hc
      have m1 : c * a ≤ c * ρ i := Int.mul_le_mul_of_nonneg_left ha (by omega)
      have m2 : c * ρ i ≤ c * b := Int.mul_le_mul_of_nonneg_left hb (by omega)
      simp only
      omega
theorem ivl_ok (hf : ∀ f ∈ fs, f.holds ρ) : ∀ e : SE, InI (e.val ρ) (ivl fs e)
  | .lit n => by intro p h; cases h; simp [SE.val]
  | .var i => by
    intro p h
    obtain ⟨a, h1, h⟩ := oc_some' h
    obtain ⟨b, h2, h⟩ := oc_some' h
    cases h
    exact ⟨loF_ok _ hf _ h1, hiF_ok _ hf _ h2⟩
  | .wrap k a => by
    intro p h
    have h' : orI (oc (ivl fs a) fun p => whenI k p) (kIvl k) = some p := h
    cases ho : oc (ivl fs a) fun p => whenI k p with
    | none => rw [ho] at h'; exact kIvl_ok k _ p h'
    | some q =>
      rw [ho] at h'
      cases h'
      obtain ⟨r, h1, h2⟩ := oc_some' ho
      have := ivl_ok hf a r h1
      exact whenI_ok this.1 this.2 _ h2
  | .bin op k a b => by
    intro p h
    obtain ⟨x, h1, h⟩ := oc_some' (show oc (ivl fs a) _ = some p from h)
    obtain ⟨y, h2, h⟩ := oc_some' h
    have h3 := ivl_ok hf a x h1
    have h4 := ivl_ok hf b y h2
    exact binIv_ok h3.1 h3.2 h4.1 h4.2 p h
  | .fn k a b => by
    intro p h
    have h : bi (Nat.beq k 0) (some (0, 1000002)) (bi (Nat.beq k 1) (some (32, 126)) (bi (Nat.beq k 2) (some (0, 4294967295)) (bi (Nat.beq k 3) (some (0, 255)) none))) = some p := h
    cases h0 : Nat.beq k 0 with
    | true =>
      rw [h0, bi_true] at h
      cases h
      have h1 : k = 0 := by simpa using h0
      subst h1
      exact markV_range _ _
    | false =>
      rw [h0, bi_false] at h
      cases h1 : Nat.beq k 1 with
      | true =>
        rw [h1, bi_true] at h
        cases h
        have h1 : k = 1 := by simpa using h1
        subst h1
        show (32 : Int) ≤ ((32 + (a.val ρ).toNat % 95 : Nat) : Int) ∧ ((32 + (a.val ρ).toNat % 95 : Nat) : Int) ≤ 126
        omega
      | false =>
        rw [h1, bi_false] at h
        cases h2 : Nat.beq k 2 with
        | true =>
          rw [h2, bi_true] at h
          cases h
          have h2 : k = 2 := by simpa using h2
          subst h2
          show (0 : Int) ≤ (((a.val ρ).toNat % 4294967296 : Nat) : Int) ∧ (((a.val ρ).toNat % 4294967296 : Nat) : Int) ≤ 4294967295
          omega
        | false =>
          rw [h2, bi_false] at h
          cases h3 : Nat.beq k 3 with
          | true =>
            rw [h3, bi_true] at h
            cases h
            have h3 : k = 3 := by simpa using h3
            subst h3
            show (0 : Int) ≤ (((a.val ρ).toNat % 256 : Nat) : Int) ∧ (((a.val ρ).toNat % 256 : Nat) : Int) ≤ 255
            omega
          | false => rw [h3, bi_false] at h; cases h
  | .lin n l => by
    intro p h
    obtain ⟨q, h1, h⟩ := oc_some' (show oc (linI fs l) (fun q => some (n + q.1, n + q.2)) = some p from h)
    cases h
    have := linI_ok hf l q h1
    simp only [SE.val]
    omega
theorem ltI_ok (hf : ∀ f ∈ fs, f.holds ρ) {a b : SE} {q : Bool} (h : ltI fs a b = some q) : q = decide (a.val ρ < b.val ρ) := by
  obtain ⟨x, h1, h⟩ := oc_some' h
  obtain ⟨y, h2, h⟩ := oc_some' h
  have h3 := ivl_ok hf a x h1
  have h4 := ivl_ok hf b y h2
  have h' : bi (ltA x.2 y.1) (some true) (bi (ltA x.1 y.2) none (some false)) = some q := h
  cases hb : ltA x.2 y.1 <;> rw [hb] at h'
  · have h'' : bi (ltA x.1 y.2) none (some false) = some q := h'
    cases hc : ltA x.1 y.2 <;> rw [hc] at h'' <;> cases h''
    have := ltA_false hc
    exact dec_f (by omega)
  · cases h'
    have := ltA_true hb
    exact dec_t (by omega)
theorem eqI_ok (hf : ∀ f ∈ fs, f.holds ρ) {a b : SE} {q : Bool} (h : eqI fs a b = some q) : q = decide (a.val ρ = b.val ρ) := by
  obtain ⟨x, h1, h⟩ := oc_some' h
  obtain ⟨y, h2, h⟩ := oc_some' h
  have h3 := ivl_ok hf a x h1
  have h4 := ivl_ok hf b y h2
  have h' : bi (ltA x.2 y.1 || ltA y.2 x.1) (some false) none = some q := h
  cases hb : (ltA x.2 y.1 || ltA y.2 x.1) <;> rw [hb] at h' <;> cases h'
  rw [Bool.or_eq_true] at hb
  rcases hb with hb | hb
  · have := ltA_true hb; exact dec_f (by omega)
  · have := ltA_true hb; exact dec_f (by omega)
theorem fitsK_ok (hf : ∀ f ∈ fs, f.holds ρ) {k : IntKind} {e : SE} (h : fitsK fs k e = true) : k.wrap (e.val ρ) = e.val ρ := by
  have h' : Option.rec (motive := fun _ => Bool) false (fun p => inK k p) (ivl fs e) = true := h
  cases hi : ivl fs e with
  | none => rw [hi] at h'; cases h'
  | some p =>
    rw [hi] at h'
    have := ivl_ok hf e p hi
    exact inK_ok h' this.1 this.2
theorem isLit_ok {m : Int} {e : SE} (h : isLit m e = true) : e = .lit m := by
  rcases litC_some (show litC e (fun n => eqA n m) false = true from h) with ⟨n, rfl, h⟩ | h
  · have h : eqA n m = true := h
    rw [eqA_eq] at h; rw [of_decide_eq_true h]
  · cases h
theorem bi_ind {α : Type} {C : α → Prop} {b : Bool} {x y : α} (h1 : b = true → C x) (h2 : C y) : C (bi b x y) := by
  cases b
  · exact h2
  · exact h1 rfl
theorem toLin_ok {e : SE} {x : Int × List (Nat × Int)} (h : toLin e = some x) : e.val ρ = x.1 + linV ρ x.2 := by
  cases e <;> simp only [toLin] at h <;> first | (cases h; done) | skip
  · cases h; simp [SE.val, linV]
  · cases h; simp [SE.val, linV]
  · cases h; rfl
theorem mulL_ok (c : Int) : ∀ l : List (Nat × Int), linV ρ (mulL c l) = c * linV ρ l
  | [] => by simp [mulL, linV]
  | p :: r => by
    show c * p.2 * ρ p.1 + linV ρ (mulL c r) = c * (p.2 * ρ p.1 + linV ρ r)
    rw [mulL_ok c r, Int.mul_add, Int.mul_assoc]
theorem consL_ok (p : Nat × Int) (l : List (Nat × Int)) : linV ρ (consL p l) = p.2 * ρ p.1 + linV ρ l := by
  unfold consL
  cases hb : eqA p.2 0 with
  | true =>
    rw [bi_true]
    rw [eqA_eq] at hb
    have hb := of_decide_eq_true hb
    rw [hb]; omega
  | false => rfl
theorem insL_ok (p : Nat × Int) : ∀ l : List (Nat × Int), linV ρ (insL p l) = p.2 * ρ p.1 + linV ρ l
  | [] => rfl
  | q :: r => by
    have h : linV ρ (insL p (q :: r)) = linV ρ (bi (Nat.blt p.1 q.1) (p :: q :: r) (bi (Nat.beq p.1 q.1) (consL (p.1, p.2 + q.2) r) (q :: insL p r))) := rfl
    rw [h]
    cases h1 : Nat.blt p.1 q.1 with
    | true => rfl
    | false =>
      rw [bi_false]
      cases h2 : Nat.beq p.1 q.1 with
      | true =>
        rw [bi_true, consL_ok]
        have e : p.1 = q.1 := Nat.eq_of_beq_eq_true h2
        show (p.2 + q.2) * ρ p.1 + linV ρ r = p.2 * ρ p.1 + (q.2 * ρ q.1 + linV ρ r)
        rw [← e, Int.add_mul]; omega
      | false =>
        rw [bi_false]
        show q.2 * ρ q.1 + linV ρ (insL p r) = p.2 * ρ p.1 + (q.2 * ρ q.1 + linV ρ r)
        rw [insL_ok p r]; omega
theorem addL_ok : ∀ l m : List (Nat × Int), linV ρ (addL l m) = linV ρ l + linV ρ m
  | [], m => by simp [addL, linV]
  | p :: l, m => by
    show linV ρ (insL p (addL l m)) = p.2 * ρ p.1 + linV ρ l + linV ρ m
    rw [insL_ok, addL_ok l m]; omega
theorem mkLin_ok (n : Int) (l : List (Nat × Int)) : (mkLin n l).val ρ = n + linV ρ l := by
  unfold mkLin
  split
  · simp [SE.val, linV]
  · rename_i i c
    cases hb : (eqA n 0 && eqA c 1) with
    | true =>
      rw [bi_true]
      rw [Bool.and_eq_true, eqA_eq, eqA_eq] at hb
      have h1 := of_decide_eq_true hb.1
      have h2 := of_decide_eq_true hb.2
      subst h1
      subst h2
      simp [SE.val, linV]
    | false => rfl
  · rfl
theorem subL_ok (a b : Int × List (Nat × Int)) : (subL a b).1 + linV ρ (subL a b).2 = (a.1 + linV ρ a.2) - (b.1 + linV ρ b.2) := by
  show a.1 - b.1 + linV ρ (addL a.2 (mulL (-1) b.2)) = _
  rw [addL_ok, mulL_ok]; omega
theorem linC_ok (hf : ∀ f ∈ fs, f.holds ρ) {k : IntKind} {e d : SE} {v : Int} (h1 : e.val ρ = v) (h2 : d.val ρ = k.wrap v) : (linC fs k e d).val ρ = k.wrap v := by
  unfold linC
  cases hb : fitsK fs k e with
  | true => rw [bi_true]; have := fitsK_ok hf hb; rw [h1] at this; rw [h1, this]
  | false => exact h2
theorem addS_ok (hf : ∀ f ∈ fs, f.holds ρ) (k : IntKind) (a b : SE) : (addS fs k a b).val ρ = k.wrap (a.val ρ + b.val ρ) := by
  unfold addS
  split
  · rename_i x y hx hy
    refine linC_ok hf ?_ rfl
    rw [mkLin_ok, addL_ok, toLin_ok hx, toLin_ok hy]; omega
  · rfl
theorem subS_ok (hf : ∀ f ∈ fs, f.holds ρ) (k : IntKind) (a b : SE) : (subS fs k a b).val ρ = k.wrap (a.val ρ - b.val ρ) := by
  unfold subS
  split
  · rename_i x y hx hy
    refine linC_ok hf ?_ rfl
    rw [mkLin_ok, subL_ok, toLin_ok hx, toLin_ok hy]
  · rfl
theorem sgnI_ok {x : Ivl} {v : Int} {q : Bool} (hx : InI v x) (h : sgnI x = some q) : q = decide (0 < v) := by
  obtain ⟨p, h1, h⟩ := oc_some' (show oc x (fun p => bi (ltA 0 p.1) (some true) (bi (ltA 0 p.2) none (some false))) = some q from h)
  have hv := hx p h1
  cases hb : ltA 0 p.1 with
  | true => rw [hb, bi_true] at h; cases h; have := ltA_true hb; exact dec_t (by omega)
  | false =>
    rw [hb, bi_false] at h
    cases hc : ltA 0 p.2 with
    | true => rw [hc, bi_true] at h; cases h
    | false => rw [hc, bi_false] at h; cases h; have := ltA_false hc; exact dec_f (by omega)
theorem zerI_ok {x : Ivl} {v : Int} {q : Bool} (hx : InI v x) (h : zerI x = some q) : q = decide (v = 0) := by
  obtain ⟨p, h1, h⟩ := oc_some' (show oc x (fun p => bi (ltA 0 p.1 || ltA p.2 0) (some false) (bi (eqA p.1 0 && eqA p.2 0) (some true) none)) = some q from h)
  have hv := hx p h1
  cases hb : (ltA 0 p.1 || ltA p.2 0) with
  | true =>
    rw [hb, bi_true] at h; cases h
    rw [Bool.or_eq_true] at hb
    rcases hb with hb | hb
    · have := ltA_true hb; exact dec_f (by omega)
    · have := ltA_true hb; exact dec_f (by omega)
  | false =>
    rw [hb, bi_false] at h
    cases hc : (eqA p.1 0 && eqA p.2 0) with
    | true =>
      rw [hc, bi_true] at h; cases h
      rw [Bool.and_eq_true, eqA_eq, eqA_eq] at hc
      have h1 := of_decide_eq_true hc.1
      have h2 := of_decide_eq_true hc.2
      exact dec_t (by omega)
    | false => rw [hc, bi_false] at h; cases h
theorem whenT_some {b q r : Bool} (h : whenT b q = some r) : b = true ∧ r = q := by
  cases b with
  | false => cases h
  | true => cases h; exact ⟨rfl, rfl⟩
theorem eqA_dec (m n : Int) : eqA m n = decide (m = n) := eqA_eq m n
theorem fact_lin {f : Fact} (hf : f.holds ρ) {x y : Int × List (Nat × Int)} (hx : toLin f.a = some x) (hy : toLin f.b = some y) : f.q = if f.lt then decide (0 < (subL y x).1 + linV ρ (subL y x).2) else decide ((subL y x).1 + linV ρ (subL y x).2 = 0) := by
  have h := hf
  unfold Fact.holds at h
  rw [h, subL_ok, toLin_ok (ρ := ρ) hx, toLin_ok (ρ := ρ) hy]
  cases f.lt with
  | true => simp only [if_true]; exact decide_eq_decide.2 ⟨fun _ => by omega, fun _ => by omega⟩
  | false => simp only [Bool.false_eq_true, if_false]; exact decide_eq_decide.2 ⟨fun _ => by omega, fun _ => by omega⟩
theorem lin_neg {l : List (Nat × Int)} {x y : Int × List (Nat × Int)} (h : l = (subL x y).2) : (subL y x).1 + linV ρ (subL y x).2 = -((subL x y).1 + linV ρ l) := by
  rw [h, subL_ok, subL_ok]; omega
theorem sgnF_ok {f : Fact} (hf : f.holds ρ) {n : Int} {l : List (Nat × Int)} {q : Bool} (h : sgnF n l f = some q) : q = decide (0 < n + linV ρ l) := by
  unfold sgnF at h
  split at h
  case h_2 => cases h
  rename_i x y hx hy
  have hq := fact_lin hf hx hy
  cases h1 : linEq l (subL y x).2 with
  | true =>
    rw [h1, bi_true] at h
    have e := linEq_ok h1
    rw [← e] at hq
    split at h
    · rename_i hl hfq
      rw [hl, hfq] at hq
      obtain ⟨h2, rfl⟩ := whenT_some h
      have h2 := ltA_not h2
      have hq := of_decide_eq_true hq.symm
      exact dec_t (by omega)
    · rename_i hl hfq
      rw [hl, hfq] at hq
      obtain ⟨h2, rfl⟩ := whenT_some h
      have h2 := ltA_not h2
      have hq := of_decide_eq_false hq.symm
      exact dec_f (by omega)
    · rename_i hl hfq
      rw [hl, hfq] at hq
      cases h
      have hq := of_decide_eq_true (show decide _ = true from hq.symm)
      rw [ltA_eq]
      exact decide_eq_decide.2 ⟨fun _ => by omega, fun _ => by omega⟩
    · cases h
  | false =>
    rw [h1, bi_false] at h
    cases h2 : linEq l (subL x y).2 with
    | false => rw [h2, bi_false] at h; cases h
    | true =>
      rw [h2, bi_true] at h
      have e := linEq_ok h2
      rw [lin_neg (ρ := ρ) e] at hq
      split at h
      · rename_i hl hfq
        rw [hl, hfq] at hq
        obtain ⟨h2, rfl⟩ := whenT_some h
        have h2 := ltA_not h2
        have hq := of_decide_eq_true hq.symm
        exact dec_f (by omega)
      · rename_i hl hfq
        rw [hl, hfq] at hq
        obtain ⟨h2, rfl⟩ := whenT_some h
        have h2 := ltA_true h2
        have hq := of_decide_eq_false hq.symm
        exact dec_t (by omega)
      · rename_i hl hfq
        rw [hl, hfq] at hq
        cases h
        have hq := of_decide_eq_true (show decide _ = true from hq.symm)
        rw [ltA_eq]
        exact decide_eq_decide.2 ⟨fun _ => by omega, fun _ => by omega⟩
      · cases h
theorem zerF_ok {f : Fact} (hf : f.holds ρ) {n : Int} {l : List (Nat × Int)} {q : Bool} (h : zerF n l f = some q) : q = decide (n + linV ρ l = 0) := by
  unfold zerF at h
  split at h
  case h_2 => cases h
  rename_i x y hx hy
  have hq := fact_lin hf hx hy
  cases h1 : linEq l (subL y x).2 with
  | true =>
    rw [h1, bi_true] at h
    have e := linEq_ok h1
    rw [← e] at hq
    split at h
    · rename_i hl hfq
      rw [hl, hfq] at hq
      obtain ⟨h2, rfl⟩ := whenT_some h
      have h2 := ltA_not h2
      have hq := of_decide_eq_true hq.symm
      exact dec_f (by omega)
    · rename_i hl hfq
      rw [hl, hfq] at hq
      obtain ⟨h2, rfl⟩ := whenT_some h
      have h2 := ltA_true h2
      have hq := of_decide_eq_false hq.symm
      exact dec_f (by omega)
    · rename_i hl hfq
      rw [hl, hfq] at hq
      cases h
      have hq := of_decide_eq_true (show decide _ = true from hq.symm)
      rw [eqA_eq]
      exact decide_eq_decide.2 ⟨fun _ => by omega, fun _ => by omega⟩
    · rename_i hl hfq
      rw [hl, hfq] at hq
      obtain ⟨h2, rfl⟩ := whenT_some h
      rw [eqA_eq] at h2
      have h2 := of_decide_eq_true h2
      have hq := of_decide_eq_false (show decide _ = false from hq.symm)
      exact dec_f (by omega)
  | false =>
    rw [h1, bi_false] at h
    cases h2 : linEq l (subL x y).2 with
    | false => rw [h2, bi_false] at h; cases h
    | true =>
      rw [h2, bi_true] at h
      have e := linEq_ok h2
      rw [lin_neg (ρ := ρ) e] at hq
      split at h
      · rename_i hl hfq
        rw [hl, hfq] at hq
        obtain ⟨h2, rfl⟩ := whenT_some h
        have h2 := ltA_not h2
        have hq := of_decide_eq_true hq.symm
        exact dec_f (by omega)
      · rename_i hl hfq
        rw [hl, hfq] at hq
        obtain ⟨h2, rfl⟩ := whenT_some h
        have h2 := ltA_true h2
        have hq := of_decide_eq_false hq.symm
        exact dec_f (by omega)
      · rename_i hl hfq
        rw [hl, hfq] at hq
        cases h
        have hq := of_decide_eq_true (show decide _ = true from hq.symm)
        rw [eqA_eq]
        exact decide_eq_decide.2 ⟨fun _ => by omega, fun _ => by omega⟩
      · rename_i hl hfq
        rw [hl, hfq] at hq
        obtain ⟨h2, rfl⟩ := whenT_some h
        rw [eqA_eq] at h2
        have h2 := of_decide_eq_true h2
        have hq := of_decide_eq_false (show decide _ = false from hq.symm)
        exact dec_f (by omega)
theorem anyF_ok {g : Fact → Option Bool} {p : Bool} : ∀ {fs : List Fact}, (∀ f ∈ fs, f.holds ρ) → (∀ f q, f.holds ρ → g f = some q → q = p) → ∀ {q : Bool}, anyF g fs = some q → q = p
  | [], _, _, q, h => by cases h
  | f :: r, hf, hg, q, h => by
    rcases orO_some (show orO (g f) (anyF g r) = some q from h) with h | h
    · exact hg f q (hf f (List.mem_cons_self ..)) h
    · exact anyF_ok (fun f hm => hf f (List.mem_cons_of_mem _ hm)) hg h
theorem ltL_ok (hf : ∀ f ∈ fs, f.holds ρ) {a b : SE} {q : Bool} (h : ltL fs a b = some q) : q = decide (a.val ρ < b.val ρ) := by
  unfold ltL at h
  split at h
  case h_2 => cases h
  rename_i x y hx hy
  have key : q = decide (0 < (subL y x).1 + linV ρ (subL y x).2) := by
    rcases orO_some h with h | h
    · have := ivl_ok hf (mkLin (subL y x).1 (subL y x).2)
      rw [mkLin_ok] at this
      exact sgnI_ok this h
    · exact anyF_ok hf (fun f q hf h => sgnF_ok hf h) h
  rw [key, subL_ok, toLin_ok (ρ := ρ) hx, toLin_ok (ρ := ρ) hy]
  exact decide_eq_decide.2 ⟨fun _ => by omega, fun _ => by omega⟩
theorem eqL_ok (hf : ∀ f ∈ fs, f.holds ρ) {a b : SE} {q : Bool} (h : eqL fs a b = some q) : q = decide (a.val ρ = b.val ρ) := by
  unfold eqL at h
  split at h
  case h_2 => cases h
  rename_i x y hx hy
  have key : q = decide ((subL y x).1 + linV ρ (subL y x).2 = 0) := by
    rcases orO_some h with h | h
    · have := ivl_ok hf (mkLin (subL y x).1 (subL y x).2)
      rw [mkLin_ok] at this
      exact zerI_ok this h
    · exact anyF_ok hf (fun f q hf h => zerF_ok hf h) h
  rw [key, subL_ok, toLin_ok (ρ := ρ) hx, toLin_ok (ρ := ρ) hy]
  exact decide_eq_decide.2 ⟨fun _ => by omega, fun _ => by omega⟩
theorem keepL_ok (m : Int) : ∀ l : List (Nat × Int), ∃ t, linV ρ l = linV ρ (keepL m l) + m * t
  | [] => ⟨0, by simp [keepL]⟩
  | p :: r => by
    obtain ⟨t, ht⟩ := keepL_ok m r
    have h : linV ρ (p :: r) = p.2 * ρ p.1 + linV ρ r := rfl
    show ∃ t, linV ρ (p :: r) = linV ρ (bi (eqA (p.2.tmod m) 0) (keepL m r) (p :: keepL m r)) + m * t
    cases hb : eqA (p.2.tmod m) 0 with
    | true =>
      rw [eqA_eq, decide_eq_true_eq] at hb
      refine ⟨p.2.tdiv m * ρ p.1 + t, ?_⟩
      have h1 := Int.mul_tdiv_add_tmod p.2 m
      rw [hb, Int.add_zero] at h1
      rw [h, ht, bi_true, Int.mul_add, ← Int.mul_assoc, h1]
      omega
    | false =>
      refine ⟨t, ?_⟩
      rw [h, ht, bi_false]
      show _ = p.2 * ρ p.1 + linV ρ (keepL m r) + m * t
      omega
theorem remS_ok (hf : ∀ f ∈ fs, f.holds ρ) (k : IntKind) (a b : SE) : (remS fs k a b).val ρ = opVal .rem k (a.val ρ) (b.val ρ) := by
  unfold remS
  split
  · rename_i n l m
    refine bi_ind (C := fun e : SE => e.val ρ = _) (fun h => ?_) rfl
    rw [Bool.and_eq_true] at h
    obtain ⟨h1, h2⟩ := h
    unfold withinI at h1
    split at h1
    case h_2 => cases h1
    rename_i p hp
    unfold atLeast0 at h2
    split at h2
    case h_2 => cases h2
    rename_i q hq
    have i1 := ivl_ok hf _ p hp
    have i2 := ivl_ok hf _ q hq
    rw [mkLin_ok] at i1 ⊢
    have e2 : (SE.lin n l).val ρ = n + linV ρ l := rfl
    rw [e2] at i2
    simp only [ltA_eq, Bool.and_eq_true, Bool.not_eq_true', decide_eq_true_eq, decide_eq_false_iff_not] at h1 h2
    obtain ⟨t, ht⟩ := keepL_ok (ρ := ρ) m l
    show n + linV ρ (keepL m l) = (n + linV ρ l).tmod m
    rw [Int.tmod_eq_emod_of_nonneg (by omega), ht, ← Int.add_assoc, Int.add_mul_emod_self_left, Int.emod_eq_of_lt (by omega) (by omega)]
  · rfl
theorem binS_ok (hf : ∀ f ∈ fs, f.holds ρ) (op : BinOp) (k : IntKind) (a b : SE) : (binS fs op k a b).val ρ = opVal op k (a.val ρ) (b.val ρ) := by
  cases op <;> simp only [binS] <;> first | rfl | skip
  case add =>
    refine bi_ind (C := fun e : SE => e.val ρ = _) (fun h => ?_) (bi_ind (C := fun e : SE => e.val ρ = _) (fun h => ?_) (addS_ok hf k a b))
    · rw [Bool.and_eq_true] at h
      rw [isLit_ok h.1]
      simp only [opVal, SE.val, Int.zero_add, fitsK_ok hf h.2]
    · rw [Bool.and_eq_true] at h
      rw [isLit_ok h.1]
      simp only [opVal, SE.val, Int.add_zero, fitsK_ok hf h.2]
  case sub =>
    refine bi_ind (C := fun e : SE => e.val ρ = _) (fun h => ?_) (subS_ok hf k a b)
    rw [Bool.and_eq_true] at h
    rw [isLit_ok h.1]
    simp only [opVal, SE.val, Int.sub_zero, fitsK_ok hf h.2]
  case mul =>
    refine bi_ind (C := fun e : SE => e.val ρ = _) (fun h => ?_) (bi_ind (C := fun e : SE => e.val ρ = _) (fun h => ?_) rfl)
    · rw [Bool.and_eq_true] at h
      rw [isLit_ok h.1]
      simp only [opVal, SE.val, Int.one_mul, fitsK_ok hf h.2]
    · rw [Bool.and_eq_true] at h
      rw [isLit_ok h.1]
      simp only [opVal, SE.val, Int.mul_one, fitsK_ok hf h.2]
  case rem => exact remS_ok hf k a b
theorem orcI_ok (hf : ∀ f ∈ fs, f.holds ρ) : OrcOk (orcI fs) ρ := by
  refine ⟨?_, ?_, ?_, ?_, binS_ok hf⟩
  · intro a b q h
    rcases orO_some h with h | h
    · rcases orO_some h with h | h
      · exact (orcF_ok hf).eq _ _ _ h
      · exact eqI_ok hf h
    · exact eqL_ok hf h
  · intro a b q h
    have h' : bi (seEq a b) (some false) (orO (orO (ltF fs a b) (ltI fs a b)) (ltL fs a b)) = some q := h
    cases hs : seEq a b <;> rw [hs] at h'
    · rcases orO_some h' with h | h
      · rcases orO_some h with h | h
        · exact (orcF_ok hf).lt _ _ _ h
        · exact ltI_ok hf h
      · exact ltL_ok hf h
    · cases h'
      rw [seEq_ok hs]
      exact dec_f (Int.lt_irrefl _)
  · intro e h
    have h' : Option.rec (motive := fun _ => Bool) false (fun p => !ltA p.1 (-1000000000000000000) && !ltA 20000000000000000000 p.2) (ivl fs e) = true := h
    cases hi : ivl fs e with
    | none => rw [hi] at h'; cases h'
    | some p =>
      rw [hi] at h'
      have := ivl_ok hf e p hi
      rw [Bool.and_eq_true] at h'
      have h1 := ltA_not h'.1
      have h2 := ltA_not h'.2
      omega
  · intro k e
    refine bi_ind (C := fun x : SE => x.val ρ = _) (fun h => ?_) rfl
    exact (fitsK_ok hf h).symm
end
end Ev
end Go.Proofs.YtnjpdipombnigaaGreatDoor
