/-
  The symbolic evaluator: intervals, and expressions made simpler as they are made.
-/
import Derived.Test.YtpklliedmplpdaaGreatDoorSy28
namespace Go.Proofs.YtpklliedmplpdaaGreatDoor
namespace Ev
open Go.RowKit

abbrev Ivl := Option (Int × Int)
noncomputable def inK (k : IntKind) (p : Int × Int) : Bool := eqA (wrapA k p.1) p.1 && eqA (wrapA k p.2) p.2
noncomputable def whenI (k : IntKind) (p : Int × Int) : Ivl := bi (inK k p) (some p) none
noncomputable def kIvl : IntKind → Ivl
  | .i8 => some (-128, 127) | .i16 => some (-32768, 32767) | .i32 => some (-2147483648, 2147483647) | .i64 => some (-9223372036854775808, 9223372036854775807)
  | .u8 => some (0, 255) | .u16 => some (0, 65535) | .u32 => some (0, 4294967295) | .u64 => some (0, 18446744073709551615)
noncomputable def orI (x y : Ivl) : Ivl := Option.rec (motive := fun _ => Ivl) y (fun b => some b) x
noncomputable def ivl2 (x y : Ivl) (f : Int × Int → Int × Int → Ivl) : Ivl := oc x fun p => oc y fun q => f p q
noncomputable def binIv (op : BinOp) (k : IntKind) (p q : Int × Int) : Ivl := match op with
  | .add => whenI k (p.1 + q.1, p.2 + q.2)
  | .sub => whenI k (p.1 - q.2, p.2 - q.1)
  | .mul => bi (ltA p.1 0 || ltA q.1 0) none (whenI k (p.1 * q.1, p.2 * q.2))
  | .rem => bi (ltA p.1 0 || ltA q.1 1) none (some (0, p.2))
  | .quo => bi (ltA p.1 0 || ltA q.1 1) none (whenI k (0, p.2))
  | _ => none
noncomputable def ivl (fs : List Fact) : SE → Ivl
  | .lit n => some (n, n)
  | .var i => oc (loF (.var i) fs) fun a => oc (hiF (.var i) fs) fun b => some (a, b)
  | .wrap k a => orI (oc (ivl fs a) fun p => whenI k p) (kIvl k)
  | .bin op k a b => ivl2 (ivl fs a) (ivl fs b) (binIv op k)
  | .fn k _ _ => bc (Nat.beq k (nat_lit 0)) (some (0, 1000002))
noncomputable def ltI (fs : List Fact) (a b : SE) : Option Bool := oc (ivl fs a) fun p => oc (ivl fs b) fun q => bi (ltA p.2 q.1) (some true) (bi (ltA p.1 q.2) none (some false))
noncomputable def eqI (fs : List Fact) (a b : SE) : Option Bool := oc (ivl fs a) fun p => oc (ivl fs b) fun q => bi (ltA p.2 q.1 || ltA q.2 p.1) (some false) none
noncomputable def smallI (fs : List Fact) (e : SE) : Bool := Option.rec (motive := fun _ => Bool) false (fun p => !ltA p.1 (-1000000000000000000) && !ltA 20000000000000000000 p.2) (ivl fs e)
noncomputable def fitsK (fs : List Fact) (k : IntKind) (e : SE) : Bool := Option.rec (motive := fun _ => Bool) false (fun p => inK k p) (ivl fs e)
noncomputable def wrapS (fs : List Fact) (k : IntKind) (e : SE) : SE := bi (fitsK fs k e) e (.wrap k e)
noncomputable def isLit (m : Int) (e : SE) : Bool := litC e (fun n => eqA n m) false
noncomputable def binS (fs : List Fact) (op : BinOp) (k : IntKind) (a b : SE) : SE := match op with
  | .add => bi (isLit 0 a && fitsK fs k b) b (bi (isLit 0 b && fitsK fs k a) a (.bin .add k a b))
  | .sub => bi (isLit 0 b && fitsK fs k a) a (.bin .sub k a b)
  | .mul => bi (isLit 1 a && fitsK fs k b) b (bi (isLit 1 b && fitsK fs k a) a (.bin .mul k a b))
  | op => .bin op k a b
noncomputable def orcI (fs : List Fact) : Orc := ⟨fun a b => orO (eqF fs a b) (eqI fs a b), fun a b => bi (seEq a b) (some false) (orO (ltF fs a b) (ltI fs a b)), smallI fs, wrapS fs, binS fs⟩

section
variable {ρ : Nat → Int} {fs : List Fact}
theorem inK_ok {k : IntKind} {p : Int × Int} {x : Int} (h : inK k p = true) (h1 : p.1 ≤ x) (h2 : x ≤ p.2) : k.wrap x = x := by
  simp only [inK, wrapA_eq, eqA_eq, Bool.and_eq_true, decide_eq_true_eq] at h
  obtain ⟨a, b⟩ := p
  simp only at h h1 h2
  obtain ⟨h3, h4⟩ := h
  cases k <;> simp [IntKind.wrap, IntKind.bits, IntKind.signed] at h3 h4 ⊢ <;> (repeat (split at h3 <;> split at h4 <;> split)) <;> omega
def InI (x : Int) (o : Ivl) : Prop := ∀ p, o = some p → p.1 ≤ x ∧ x ≤ p.2
theorem whenI_ok {k : IntKind} {p : Int × Int} {x : Int} (h1 : p.1 ≤ x) (h2 : x ≤ p.2) : InI (k.wrap x) (whenI k p) := by
  intro q h
  have h' : bi (inK k p) (some p) none = some q := h
  cases hk : inK k p <;> rw [hk] at h' <;> cases h'
  rw [inK_ok hk h1 h2]
  exact ⟨h1, h2⟩
theorem kIvl_ok (k : IntKind) (x : Int) : InI (k.wrap x) (kIvl k) := by
  intro p h
  cases k <;> cases h <;> simp [IntKind.wrap, IntKind.bits, IntKind.signed] <;> (repeat' split) <;> omega
theorem oc_some' {α β : Type} {x : Option α} {f : α → Option β} {b : β} (h : oc x f = some b) : ∃ a, x = some a ∧ f a = some b := by
  cases x with
  | none => cases h
  | some a => exact ⟨a, rfl, h⟩
theorem or_false2 {a b : Bool} (h : (a || b) = false) : a = false ∧ b = false := by cases a <;> cases b <;> simp_all
theorem ltA_false {m n : Int} (h : ltA m n = false) : ¬ m < n := by rw [ltA_eq] at h; exact of_decide_eq_false h
theorem binIv_ok {op : BinOp} {k : IntKind} {p q : Int × Int} {x y : Int} (h1 : p.1 ≤ x) (h2 : x ≤ p.2) (h3 : q.1 ≤ y) (h4 : y ≤ q.2) : InI (opVal op k x y) (binIv op k p q) := by
  cases op <;> simp only [binIv] <;> first | (intro _ h; cases h; done) | skip
  case add => exact whenI_ok (by simp only; omega) (by simp only; omega)
  case sub => exact whenI_ok (by simp only; omega) (by simp only; omega)
  case mul =>
    cases hb : (ltA p.1 0 || ltA q.1 0) with
    | true => intro _ h; cases h
    | false =>
      obtain ⟨ha, hb⟩ := or_false2 hb
      have ha := ltA_false ha
      have hb := ltA_false hb
      exact whenI_ok (Int.mul_le_mul h1 h3 (by omega) (by omega)) (Int.mul_le_mul h2 h4 (by omega) (by omega))
  case quo =>
    cases hb : (ltA p.1 0 || ltA q.1 1) with
    | true => intro _ h; cases h
    | false =>
      obtain ⟨ha, hb⟩ := or_false2 hb
      have ha := ltA_false ha
      have hb := ltA_false hb
      have e : x.tdiv y = x / y := Int.tdiv_eq_ediv_of_nonneg (by omega)
      refine whenI_ok ?_ ?_
      · rw [e]; exact Int.ediv_nonneg (by omega) (by omega)
      · rw [e]; exact Int.le_trans (Int.ediv_le_self _ (by omega)) h2
  case rem =>
    cases hb : (ltA p.1 0 || ltA q.1 1) with
    | true => intro _ h; cases h
    | false =>
      obtain ⟨ha, hb⟩ := or_false2 hb
      have ha := ltA_false ha
      have hb := ltA_false hb
      intro r h
      cases h
      have e : x.tmod y = x % y := Int.tmod_eq_emod_of_nonneg (by omega)
      show (0 : Int) ≤ x.tmod y ∧ x.tmod y ≤ p.2
      rw [e]
      have h5 := Int.emod_nonneg x (show y ≠ 0 by omega)
      have h6 : x % y ≤ x := by
        have h7 : 0 ≤ y * (x / y) := Int.mul_nonneg (by omega) (Int.ediv_nonneg (by omega) (by omega))
        rw [Int.emod_def]; omega
      omega
theorem ivl_ok (hf : ∀ f ∈ fs, f.holds ρ) : ∀ e : SE, InI (e.val ρ) (ivl fs e)
  | .lit n => by intro p h; cases h; simp [SE.val]
  | .var i => by
    intro p h
    obtain ⟨a, h1, h⟩ := oc_some' h
    obtain ⟨b, h2, h⟩ := oc_some' h
    cases h
    exact ⟨loF_ok _ hf _ h1, hiF_ok _ hf _ h2⟩
  | .wrap k a => by
    intro p h
    have h' : orI (oc (ivl fs a) fun p => whenI k p) (kIvl k) = some p := h
    cases ho : oc (ivl fs a) fun p => whenI k p with
    | none => rw [ho] at h'; exact kIvl_ok k _ p h'
    | some q =>
      rw [ho] at h'
      cases h'
      obtain ⟨r, h1, h2⟩ := oc_some' ho
      have := ivl_ok hf a r h1
      exact whenI_ok this.1 this.2 _ h2
  | .bin op k a b => by
    intro p h
    obtain ⟨x, h1, h⟩ := oc_some' (show oc (ivl fs a) _ = some p from h)
    obtain ⟨y, h2, h⟩ := oc_some' h
    have h3 := ivl_ok hf a x h1
    have h4 := ivl_ok hf b y h2
    exact binIv_ok h3.1 h3.2 h4.1 h4.2 p h
  | .fn k a b => by
    intro p h
    obtain ⟨h1, h2⟩ := bc_some h
    cases h2
    have h1 : k = 0 := by simpa using h1
    subst h1
    exact markV_range _ _
theorem ltI_ok (hf : ∀ f ∈ fs, f.holds ρ) {a b : SE} {q : Bool} (h : ltI fs a b = some q) : q = decide (a.val ρ < b.val ρ) := by
  obtain ⟨x, h1, h⟩ := oc_some' h
  obtain ⟨y, h2, h⟩ := oc_some' h
  have h3 := ivl_ok hf a x h1
  have h4 := ivl_ok hf b y h2
  have h' : bi (ltA x.2 y.1) (some true) (bi (ltA x.1 y.2) none (some false)) = some q := h
  cases hb : ltA x.2 y.1 <;> rw [hb] at h'
  · have h'' : bi (ltA x.1 y.2) none (some false) = some q := h'
    cases hc : ltA x.1 y.2 <;> rw [hc] at h'' <;> cases h''
    have := ltA_false hc
    exact dec_f (by omega)
  · cases h'
    have := ltA_true hb
    exact dec_t (by omega)
theorem eqI_ok (hf : ∀ f ∈ fs, f.holds ρ) {a b : SE} {q : Bool} (h : eqI fs a b = some q) : q = decide (a.val ρ = b.val ρ) := by
  obtain ⟨x, h1, h⟩ := oc_some' h
  obtain ⟨y, h2, h⟩ := oc_some' h
  have h3 := ivl_ok hf a x h1
  have h4 := ivl_ok hf b y h2
  have h' : bi (ltA x.2 y.1 || ltA y.2 x.1) (some false) none = some q := h
  cases hb : (ltA x.2 y.1 || ltA y.2 x.1) <;> rw [hb] at h' <;> cases h'
  rw [Bool.or_eq_true] at hb
  rcases hb with hb | hb
  · have := ltA_true hb; exact dec_f (by omega)
  · have := ltA_true hb; exact dec_f (by omega)
theorem fitsK_ok (hf : ∀ f ∈ fs, f.holds ρ) {k : IntKind} {e : SE} (h : fitsK fs k e = true) : k.wrap (e.val ρ) = e.val ρ := by
  have h' : Option.rec (motive := fun _ => Bool) false (fun p => inK k p) (ivl fs e) = true := h
  cases hi : ivl fs e with
  | none => rw [hi] at h'; cases h'
  | some p =>
    rw [hi] at h'
    have := ivl_ok hf e p hi
    exact inK_ok h' this.1 this.2
theorem isLit_ok {m : Int} {e : SE} (h : isLit m e = true) : e = .lit m := by
  rcases litC_some (show litC e (fun n => eqA n m) false = true from h) with ⟨n, rfl, h⟩ | h
  · have h : eqA n m = true := h
    rw [eqA_eq] at h; rw [of_decide_eq_true h]
  · cases h
theorem bi_ind {α : Type} {C : α → Prop} {b : Bool} {x y : α} (h1 : b = true → C x) (h2 : C y) : C (bi b x y) := by
  cases b
  · exact h2
  · exact h1 rfl
theorem binS_ok (hf : ∀ f ∈ fs, f.holds ρ) (op : BinOp) (k : IntKind) (a b : SE) : (binS fs op k a b).val ρ = opVal op k (a.val ρ) (b.val ρ) := by
  cases op <;> simp only [binS] <;> first | rfl | skip
  case add =>
    refine bi_ind (C := fun e : SE => e.val ρ = _) (fun h => ?_) (bi_ind (C := fun e : SE => e.val ρ = _) (fun h => ?_) rfl)
    · rw [Bool.and_eq_true] at h
      rw [isLit_ok h.1]
      simp only [opVal, SE.val, Int.zero_add, fitsK_ok hf h.2]
    · rw [Bool.and_eq_true] at h
      rw [isLit_ok h.1]
      simp only [opVal, SE.val, Int.add_zero, fitsK_ok hf h.2]
  case sub =>
    refine bi_ind (C := fun e : SE => e.val ρ = _) (fun h => ?_) rfl
    rw [Bool.and_eq_true] at h
    rw [isLit_ok h.1]
    simp only [opVal, SE.val, Int.sub_zero, fitsK_ok hf h.2]
  case mul =>
    refine bi_ind (C := fun e : SE => e.val ρ = _) (fun h => ?_) (bi_ind (C := fun e : SE => e.val ρ = _) (fun h => ?_) rfl)
    · rw [Bool.and_eq_true] at h
      rw [isLit_ok h.1]
      simp only [opVal, SE.val, Int.one_mul, fitsK_ok hf h.2]
    · rw [Bool.and_eq_true] at h
      rw [isLit_ok h.1]
      simp only [opVal, SE.val, Int.mul_one, fitsK_ok hf h.2]
theorem orcI_ok (hf : ∀ f ∈ fs, f.holds ρ) : OrcOk (orcI fs) ρ := by
  refine ⟨?_, ?_, ?_, ?_, binS_ok hf⟩
  · intro a b q h
    rcases orO_some h with h | h
    · exact (orcF_ok hf).eq _ _ _ h
    · exact eqI_ok hf h
  · intro a b q h
    have h' : bi (seEq a b) (some false) (orO (ltF fs a b) (ltI fs a b)) = some q := h
    cases hs : seEq a b <;> rw [hs] at h'
    · rcases orO_some h' with h | h
      · exact (orcF_ok hf).lt _ _ _ h
      · exact ltI_ok hf h
    · cases h'
      rw [seEq_ok hs]
      exact dec_f (Int.lt_irrefl _)
  · intro e h
    have h' : Option.rec (motive := fun _ => Bool) false (fun p => !ltA p.1 (-1000000000000000000) && !ltA 20000000000000000000 p.2) (ivl fs e) = true := h
    cases hi : ivl fs e with
    | none => rw [hi] at h'; cases h'
    | some p =>
      rw [hi] at h'
      have := ivl_ok hf e p hi
      rw [Bool.and_eq_true] at h'
      have h1 := ltA_not h'.1
      have h2 := ltA_not h'.2
      omega
  · intro k e
    refine bi_ind (C := fun x : SE => x.val ρ = _) (fun h => ?_) rfl
    exact (fitsK_ok hf h).symm
end
end Ev
end Go.Proofs.YtpklliedmplpdaaGreatDoor
