/-
  The symbolic evaluator: intervals, and expressions made simpler as they are made.
-/
import Derived.Test.YtbjllaknnpbkkaaGreatDoorSz28
namespace Go.Proofs.YtbjllaknnpbkkaaGreatDoor
namespace Ev
open Go.RowKit

abbrev Ivl := Option (Int × Int)
noncomputable def inK (k : IntKind) (p : Int × Int) : Bool := eqA (wrapA k p.1) p.1 && eqA (wrapA k p.2) p.2
noncomputable def whenI (k : IntKind) (p : Int × Int) : Ivl := bi (inK k p) (some p) none
noncomputable def kIvl : IntKind → Ivl
  | .i8 => some (-128, 127) | .i16 => some (-32768, 32767) | .i32 => some (-2147483648, 2147483647) | .i64 => some (-9223372036854775808, 9223372036854775807)
  | .u8 => some (0, 255) | .u16 => some (0, 65535) | .u32 => some (0, 4294967295) | .u64 => some (0, 18446744073709551615)
noncomputable def orI (x y : Ivl) : Ivl := Option.rec (motive := fun _ => Ivl) y (fun b => some b) x
noncomputable def ivl2 (x y : Ivl) (f : Int × Int → Int × Int → Ivl) : Ivl := oc x fun p => oc y fun q => f p q
noncomputable def binIv (op : BinOp) (k : IntKind) (p q : Int × Int) : Ivl := match op with
  | .add => whenI k (p.1 + q.1, p.2 + q.2)
  | .sub => whenI k (p.1 - q.2, p.2 - q.1)
  | .mul => bi (ltA p.1 0 || ltA q.1 0) none (whenI k (p.1 * q.1, p.2 * q.2))
  | .rem => bi (ltA p.1 0 || ltA q.1 1) none (some (0, p.2))
  | .quo => bi (ltA p.1 0 || ltA q.1 1) none (whenI k (0, p.2))
  | .shr => bi (ltA p.1 0 || ltA q.1 0) none (some (0, p.2))
  | _ => none
/-- Bounds of a sum of multiples. -/
noncomputable def linI (fs : List Fact) : List (Nat × Int) → Ivl
  | [] => some (0, 0)
  | p :: r => oc (loF (.var p.1) fs) fun a => oc (hiF (.var p.1) fs) fun b => oc (linI fs r) fun q => bi (ltA p.2 0) (some (p.2 * b + q.1, p.2 * a + q.2)) (some (p.2 * a + q.1, p.2 * b + q.2))
noncomputable def ivl (fs : List Fact) : SE → Ivl
  | .lit n => some (n, n)
  | .var i => oc (loF (.var i) fs) fun a => oc (hiF (.var i) fs) fun b => some (a, b)
  | .wrap k a => orI (oc (ivl fs a) fun p => whenI k p) (kIvl k)
  | .bin op k a b => ivl2 (ivl fs a) (ivl fs b) (binIv op k)
  | .fn k _ _ => bc (Nat.beq k (nat_lit 0)) (some (0, 1000002))
  | .lin n l => oc (linI fs l) fun q => some (n + q.1, n + q.2)
noncomputable def ltI (fs : List Fact) (a b : SE) : Option Bool := oc (ivl fs a) fun p => oc (ivl fs b) fun q => bi (ltA p.2 q.1) (some true) (bi (ltA p.1 q.2) none (some false))
noncomputable def eqI (fs : List Fact) (a b : SE) : Option Bool := oc (ivl fs a) fun p => oc (ivl fs b) fun q => bi (ltA p.2 q.1 || ltA q.2 p.1) (some false) none
noncomputable def smallI (fs : List Fact) (e : SE) : Bool := Option.rec (motive := fun _ => Bool) false (fun p => !ltA p.1 (-1000000000000000000) && !ltA 20000000000000000000 p.2) (ivl fs e)
noncomputable def fitsK (fs : List Fact) (k : IntKind) (e : SE) : Bool := Option.rec (motive := fun _ => Bool) false (fun p => inK k p) (ivl fs e)
noncomputable def wrapS (fs : List Fact) (k : IntKind) (e : SE) : SE := bi (fitsK fs k e) e (.wrap k e)
/-- Sums of multiples of variables, in their order. -/
noncomputable def toLin : SE → Option (Int × List (Nat × Int))
  | .lit n => some (n, [])
  | .var i => some (0, [(i, 1)])
  | .lin n l => some (n, l)
  | _ => none
noncomputable def mulL (c : Int) : List (Nat × Int) → List (Nat × Int)
  | [] => []
  | p :: r => (p.1, c * p.2) :: mulL c r
noncomputable def consL (p : Nat × Int) (l : List (Nat × Int)) : List (Nat × Int) := bi (eqA p.2 0) l (p :: l)
noncomputable def insL (p : Nat × Int) : List (Nat × Int) → List (Nat × Int)
  | [] => [p]
  | q :: r => bi (Nat.blt p.1 q.1) (p :: q :: r) (bi (Nat.beq p.1 q.1) (consL (p.1, p.2 + q.2) r) (q :: insL p r))
noncomputable def addL : List (Nat × Int) → List (Nat × Int) → List (Nat × Int)
  | [], m => m
  | p :: l, m => insL p (addL l m)
noncomputable def mkLin (n : Int) (l : List (Nat × Int)) : SE := match l with
  | [] => .lit n
  | [(i, c)] => bi (eqA n 0 && eqA c 1) (.var i) (.lin n [(i, c)])
  | l => .lin n l
noncomputable def subL (a b : Int × List (Nat × Int)) : Int × List (Nat × Int) := (a.1 - b.1, addL a.2 (mulL (-1) b.2))
noncomputable def linC (fs : List Fact) (k : IntKind) (e d : SE) : SE := bi (fitsK fs k e) e d
noncomputable def addS (fs : List Fact) (k : IntKind) (a b : SE) : SE := match toLin a, toLin b with
  | some x, some y => linC fs k (mkLin (x.1 + y.1) (addL x.2 y.2)) (.bin .add k a b)
  | _, _ => .bin .add k a b
noncomputable def subS (fs : List Fact) (k : IntKind) (a b : SE) : SE := match toLin a, toLin b with
  | some x, some y => linC fs k (mkLin (subL x y).1 (subL x y).2) (.bin .sub k a b)
  | _, _ => .bin .sub k a b
/-- Of a sum: is it above nothing? -/
noncomputable def sgnI (x : Ivl) : Option Bool := oc x fun p => bi (ltA 0 p.1) (some true) (bi (ltA 0 p.2) none (some false))
noncomputable def zerI (x : Ivl) : Option Bool := oc x fun p => bi (ltA 0 p.1 || ltA p.2 0) (some false) (bi (eqA p.1 0 && eqA p.2 0) (some true) none)
/-- By a fact on the same sum, or on its negative. -/
noncomputable def whenT (b : Bool) (q : Bool) : Option Bool := bi b (some q) none
noncomputable def sgnF (n : Int) (l : List (Nat × Int)) (f : Fact) : Option Bool := match toLin f.a, toLin f.b with
  | some x, some y => bi (linEq l (subL y x).2)
    (match f.lt, f.q with
      | true, true => whenT (!ltA n (subL y x).1) true
      | true, false => whenT (!ltA (subL y x).1 n) false
      | false, true => some (ltA (subL y x).1 n)
      | false, false => none)
    (bi (linEq l (subL x y).2)
      (match f.lt, f.q with
        | true, true => whenT (!ltA (subL x y).1 (n - 1)) false
        | true, false => whenT (ltA (subL x y).1 n) true
        | false, true => some (ltA (subL x y).1 n)
        | false, false => none)
      none)
  | _, _ => none
noncomputable def zerF (n : Int) (l : List (Nat × Int)) (f : Fact) : Option Bool := match toLin f.a, toLin f.b with
  | some x, some y => bi (linEq l (subL y x).2)
    (match f.lt, f.q with
      | true, true => whenT (!ltA n (subL y x).1) false
      | true, false => whenT (ltA n (subL y x).1) false
      | false, true => some (eqA (subL y x).1 n)
      | false, false => whenT (eqA (subL y x).1 n) false)
    (bi (linEq l (subL x y).2)
      (match f.lt, f.q with
        | true, true => whenT (!ltA (subL x y).1 n) false
        | true, false => whenT (ltA (subL x y).1 n) false
        | false, true => some (eqA (subL x y).1 n)
        | false, false => whenT (eqA (subL x y).1 n) false)
      none)
  | _, _ => none
noncomputable def anyF (g : Fact → Option Bool) : List Fact → Option Bool
  | [] => none
  | f :: r => orO (g f) (anyF g r)
noncomputable def ltL (fs : List Fact) (a b : SE) : Option Bool := match toLin a, toLin b with
  | some x, some y => orO (sgnI (ivl fs (mkLin (subL y x).1 (subL y x).2))) (anyF (sgnF (subL y x).1 (subL y x).2) fs)
  | _, _ => none
noncomputable def eqL (fs : List Fact) (a b : SE) : Option Bool := match toLin a, toLin b with
  | some x, some y => orO (zerI (ivl fs (mkLin (subL y x).1 (subL y x).2))) (anyF (zerF (subL y x).1 (subL y x).2) fs)
  | _, _ => none
noncomputable def isLit (m : Int) (e : SE) : Bool := litC e (fun n => eqA n m) false
noncomputable def binS (fs : List Fact) (op : BinOp) (k : IntKind) (a b : SE) : SE := match op with
  | .add => bi (isLit 0 a && fitsK fs k b) b (bi (isLit 0 b && fitsK fs k a) a (addS fs k a b))
  | .sub => bi (isLit 0 b && fitsK fs k a) a (subS fs k a b)
  | .mul => bi (isLit 1 a && fitsK fs k b) b (bi (isLit 1 b && fitsK fs k a) a (.bin .mul k a b))
  | op => .bin op k a b
noncomputable def orcI (fs : List Fact) : Orc := ⟨fun a b => orO (orO (eqF fs a b) (eqI fs a b)) (eqL fs a b), fun a b => bi (seEq a b) (some false) (orO (orO (ltF fs a b) (ltI fs a b)) (ltL fs a b)), smallI fs, wrapS fs, binS fs⟩

section
variable {ρ : Nat → Int} {fs : List Fact}
theorem inK_ok {k : IntKind} {p : Int × Int} {x : Int} (h : inK k p = true) (h1 : p.1 ≤ x) (h2 : x ≤ p.2) : k.wrap x = x := by
  simp only [inK, wrapA_eq, eqA_eq, Bool.and_eq_true, decide_eq_true_eq] at h
  obtain ⟨a, b⟩ := p
  simp only at h h1 h2
  obtain ⟨h3, h4⟩ := h
  cases k <;> simp [IntKind.wrap, IntKind.bits, IntKind.signed] at h3 h4 ⊢ <;> (repeat (split at h3 <;> split at h4 <;> split)) <;> omega
def InI (x : Int) (o : Ivl) : Prop := ∀ p, o = some p → p.1 ≤ x ∧ x ≤ p.2
theorem whenI_ok {k : IntKind} {p : Int × Int} {x : Int} (h1 : p.1 ≤ x) (h2 : x ≤ p.2) : InI (k.wrap x) (whenI k p) := by
  intro q h
  have h' : bi (inK k p) (some p) none = some q := h
  cases hk : inK k p <;> rw [hk] at h' <;> cases h'
  rw [inK_ok hk h1 h2]
  exact ⟨h1, h2⟩
theorem kIvl_ok (k : IntKind) (x : Int) : InI (k.wrap x) (kIvl k) := by
  intro p h
  cases k <;> cases h <;> simp [IntKind.wrap, IntKind.bits, IntKind.signed] <;> (repeat' split) <;> omega
theorem oc_some' {α β : Type} {x : Option α} {f : α → Option β} {b : β} (h : oc x f = some b) : ∃ a, x = some a ∧ f a = some b := by
  cases x with
  | none => cases h
  | some a => exact ⟨a, rfl, h⟩
theorem or_false2 {a b : Bool} (h : (a || b) = false) : a = false ∧ b = false := by cases a <;> cases b <;> simp_all
theorem ltA_false {m n : Int} (h : ltA m n = false) : ¬ m < n := by rw [ltA_eq] at h; exact of_decide_eq_false h
theorem binIv_ok {op : BinOp} {k : IntKind} {p q : Int × Int} {x y : Int} (h1 : p.1 ≤ x) (h2 : x ≤ p.2) (h3 : q.1 ≤ y) (h4 : y ≤ q.2) : InI (opVal op k x y) (binIv op k p q) := by
  cases op <;> simp only [binIv] <;> first | (intro _ h; cases h; done) | skip
  case add => exact whenI_ok (by simp only; omega) (by simp only; omega)
  case sub => exact whenI_ok (by simp only; omega) (by simp only; omega)
  case mul =>
    cases hb : (ltA p.1 0 || ltA q.1 0) with
    | true => intro _ h; cases h
    | false =>
      obtain ⟨ha, hb⟩ := or_false2 hb
      have ha := ltA_false ha
      have hb := ltA_false hb
      exact whenI_ok (Int.mul_le_mul h1 h3 (by omega) (by omega)) (Int.mul_le_mul h2 h4 (by omega) (by omega))
  case quo =>
    cases hb : (ltA p.1 0 || ltA q.1 1) with
    | true => intro _ h; cases h
    | false =>
      obtain ⟨ha, hb⟩ := or_false2 hb
      have ha := ltA_false ha
      have hb := ltA_false hb
      have e : x.tdiv y = x / y := Int.tdiv_eq_ediv_of_nonneg (by omega)
      refine whenI_ok ?_ ?_
      · rw [e]; exact Int.ediv_nonneg (by omega) (by omega)
      · rw [e]; exact Int.le_trans (Int.ediv_le_self _ (by omega)) h2
  case rem =>
    cases hb : (ltA p.1 0 || ltA q.1 1) with
    | true => intro _ h; cases h
    | false =>
      obtain ⟨ha, hb⟩ := or_false2 hb
      have ha := ltA_false ha
      have hb := ltA_false hb
      intro r h
      cases h
      have e : x.tmod y = x % y := Int.tmod_eq_emod_of_nonneg (by omega)
      show (0 : Int) ≤ x.tmod y ∧ x.tmod y ≤ p.2
      rw [e]
      have h5 := Int.emod_nonneg x (show y ≠ 0 by omega)
      have h6 : x % y ≤ x := by
        have h7 : 0 ≤ y * (x / y) := Int.mul_nonneg (by omega) (Int.ediv_nonneg (by omega) (by omega))
        rw [Int.emod_def]; omega
      omega
  case shr =>
    cases hb : (ltA p.1 0 || ltA q.1 0) with
    | true => intro _ h; cases h
    | false =>
      obtain ⟨ha, hb⟩ := or_false2 hb
      have ha := ltA_false ha
      intro r h
      cases h
      have hp : (0 : Int) < 2 ^ (min y.toNat k.bits) := Int.pow_pos (by decide)
      have e : x.fdiv (2 ^ (min y.toNat k.bits)) = x / 2 ^ (min y.toNat k.bits) := Int.fdiv_eq_ediv_of_nonneg _ (Int.le_of_lt hp)
      show (0 : Int) ≤ x.fdiv (2 ^ (min y.toNat k.bits)) ∧ x.fdiv (2 ^ (min y.toNat k.bits)) ≤ p.2
      rw [e]
      exact ⟨Int.ediv_nonneg (by omega) (Int.le_of_lt hp), Int.le_trans (Int.ediv_le_self _ (by omega)) h2⟩
theorem linI_ok (hf : ∀ f ∈ fs, f.holds ρ) : ∀ (l : List (Nat × Int)) (p : Int × Int), linI fs l = some p → p.1 ≤ linV ρ l ∧ linV ρ l ≤ p.2
  | [], p, h => by cases h; exact ⟨Int.le_refl _, Int.le_refl _⟩
  | (i, c) :: r, p, h => by
    obtain ⟨a, h1, h⟩ := oc_some' (show oc (loF (.var i) fs) (fun a => oc (hiF (.var i) fs) fun b => oc (linI fs r) fun q => bi (ltA c 0) (some (c * b + q.1, c * a + q.2)) (some (c * a + q.1, c * b + q.2))) = some p from h)
    obtain ⟨b, h2, h⟩ := oc_some' h
    obtain ⟨q, h3, h⟩ := oc_some' h
    have ha : a ≤ ρ i := loF_ok _ hf _ h1
    have hb : ρ i ≤ b := hiF_ok _ hf _ h2
    have hq := linI_ok hf r q h3
    show p.1 ≤ c * ρ i + linV ρ r ∧ c * ρ i + linV ρ r ≤ p.2
    cases hc : ltA c 0 with
    | true =>
      rw [hc, bi_true] at h
      cases h
      have hc := ltA_true hc
      have m1 : c * b ≤ c * ρ i := Int.mul_le_mul_of_nonpos_left (by omega) hb
      have m2 : c * ρ i ≤ c * a := Int.mul_le_mul_of_nonpos_left (by omega) ha
      simp only
      omega
    | false =>
      rw [hc, bi_false] at h
      cases h
      have hc := ltA_false hc
      have m1 : c * a ≤ c * ρ i := Int.mul_le_mul_of_nonneg_left ha (by omega)
      have m2 : c * ρ i ≤ c * b := Int.mul_le_mul_of_nonneg_left hb (by omega)
      simp only
      omega
theorem ivl_ok (hf : ∀ f ∈ fs, f.holds ρ) : ∀ e : SE, InI (e.val ρ) (ivl fs e)
  | .lit n => by intro p h; cases h; simp [SE.val]
  | .var i => by
    intro p h
    obtain ⟨a, h1, h⟩ := oc_some' h
    obtain ⟨b, h2, h⟩ := oc_some' h
    cases h
    exact ⟨loF_ok _ hf _ h1, hiF_ok _ hf _ h2⟩
  | .wrap k a => by
    intro p h
    have h' : orI (oc (ivl fs a) fun p => whenI k p) (kIvl k) = some p := h
    cases ho : oc (ivl fs a) fun p => whenI k p with
    | none => rw [ho] at h'; exact kIvl_ok k _ p h'
    | some q =>
      rw [ho] at h'
      cases h'
      obtain ⟨r, h1, h2⟩ := oc_some' ho
      have := ivl_ok hf a r h1
      exact whenI_ok this.1 this.2 _ h2
  | .bin op k a b => by
    intro p h
    obtain ⟨x, h1, h⟩ := oc_some' (show oc (ivl fs a) _ = some p from h)
    obtain ⟨y, h2, h⟩ := oc_some' h
    have h3 := ivl_ok hf a x h1
    have h4 := ivl_ok hf b y h2
    exact binIv_ok h3.1 h3.2 h4.1 h4.2 p h
  | .fn k a b => by
    intro p h
    obtain ⟨h1, h2⟩ := bc_some h
    cases h2
    have h1 : k = 0 := by simpa using h1
    subst h1
    exact markV_range _ _
  | .lin n l => by
    intro p h
    obtain ⟨q, h1, h⟩ := oc_some' (show oc (linI fs l) (fun q => some (n + q.1, n + q.2)) = some p from h)
    cases h
    have := linI_ok hf l q h1
    simp only [SE.val]
    omega
theorem ltI_ok (hf : ∀ f ∈ fs, f.holds ρ) {a b : SE} {q : Bool} (h : ltI fs a b = some q) : q = decide (a.val ρ < b.val ρ) := by
  obtain ⟨x, h1, h⟩ := oc_some' h
  obtain ⟨y, h2, h⟩ := oc_some' h
  have h3 := ivl_ok hf a x h1
  have h4 := ivl_ok hf b y h2
  have h' : bi (ltA x.2 y.1) (some true) (bi (ltA x.1 y.2) none (some false)) = some q := h
  cases hb : ltA x.2 y.1 <;> rw [hb] at h'
  · have h'' : bi (ltA x.1 y.2) none (some false) = some q := h'
    cases hc : ltA x.1 y.2 <;> rw [hc] at h'' <;> cases h''
    have := ltA_false hc
    exact dec_f (by omega)
  · cases h'
    have := ltA_true hb
    exact dec_t (by omega)
theorem eqI_ok (hf : ∀ f ∈ fs, f.holds ρ) {a b : SE} {q : Bool} (h : eqI fs a b = some q) : q = decide (a.val ρ = b.val ρ) := by
  obtain ⟨x, h1, h⟩ := oc_some' h
  obtain ⟨y, h2, h⟩ := oc_some' h
  have h3 := ivl_ok hf a x h1
  have h4 := ivl_ok hf b y h2
  have h' : bi (ltA x.2 y.1 || ltA y.2 x.1) (some false) none = some q := h
  cases hb : (ltA x.2 y.1 || ltA y.2 x.1) <;> rw [hb] at h' <;> cases h'
  rw [Bool.or_eq_true] at hb
  rcases hb with hb | hb
  · have := ltA_true hb; exact dec_f (by omega)
  · have := ltA_true hb; exact dec_f (by omega)
theorem fitsK_ok (hf : ∀ f ∈ fs, f.holds ρ) {k : IntKind} {e : SE} (h : fitsK fs k e = true) : k.wrap (e.val ρ) = e.val ρ := by
  have h' : Option.rec (motive := fun _ => Bool) false (fun p => inK k p) (ivl fs e) = true := h
  cases hi : ivl fs e with
  | none => rw [hi] at h'; cases h'
  | some p =>
    rw [hi] at h'
    have := ivl_ok hf e p hi
    exact inK_ok h' this.1 this.2
theorem isLit_ok {m : Int} {e : SE} (h : isLit m e = true) : e = .lit m := by
  rcases litC_some (show litC e (fun n => eqA n m) false = true from h) with ⟨n, rfl, h⟩ | h
  · have h : eqA n m = true := h
    rw [eqA_eq] at h; rw [of_decide_eq_true h]
  · cases h
theorem bi_ind {α : Type} {C : α → Prop} {b : Bool} {x y : α} (h1 : b = true → C x) (h2 : C y) : C (bi b x y) := by
  cases b
  · exact h2
  · exact h1 rfl
theorem toLin_ok {e : SE} {x : Int × List (Nat × Int)} (h : toLin e = some x) : e.val ρ = x.1 + linV ρ x.2 := by
  cases e <;> simp only [toLin] at h <;> first | (cases h; done) | skip
  · cases h; simp [SE.val, linV]
  · cases h; simp [SE.val, linV]
  · cases h; rfl
theorem mulL_ok (c : Int) : ∀ l : List (Nat × Int), linV ρ (mulL c l) = c * linV ρ l
  | [] => by simp [mulL, linV]
  | p :: r => by
    show c * p.2 * ρ p.1 + linV ρ (mulL c r) = c * (p.2 * ρ p.1 + linV ρ r)
    rw [mulL_ok c r, Int.mul_add, Int.mul_assoc]
theorem consL_ok (p : Nat × Int) (l : List (Nat × Int)) : linV ρ (consL p l) = p.2 * ρ p.1 + linV ρ l := by
  unfold consL
  cases hb : eqA p.2 0 with
  | true =>
    rw [bi_true]
    rw [eqA_eq] at hb
    have hb := of_decide_eq_true hb
    rw [hb]; omega
  | false => rfl
theorem insL_ok (p : Nat × Int) : ∀ l : List (Nat × Int), linV ρ (insL p l) = p.2 * ρ p.1 + linV ρ l
  | [] => rfl
  | q :: r => by
    have h : linV ρ (insL p (q :: r)) = linV ρ (bi (Nat.blt p.1 q.1) (p :: q :: r) (bi (Nat.beq p.1 q.1) (consL (p.1, p.2 + q.2) r) (q :: insL p r))) := rfl
    rw [h]
    cases h1 : Nat.blt p.1 q.1 with
    | true => rfl
    | false =>
      rw [bi_false]
      cases h2 : Nat.beq p.1 q.1 with
      | true =>
        rw [bi_true, consL_ok]
        have e : p.1 = q.1 := Nat.eq_of_beq_eq_true h2
        show (p.2 + q.2) * ρ p.1 + linV ρ r = p.2 * ρ p.1 + (q.2 * ρ q.1 + linV ρ r)
        rw [← e, Int.add_mul]; omega
      | false =>
        rw [bi_false]
        show q.2 * ρ q.1 + linV ρ (insL p r) = p.2 * ρ p.1 + (q.2 * ρ q.1 + linV ρ r)
        rw [insL_ok p r]; omega
theorem addL_ok : ∀ l m : List (Nat × Int), linV ρ (addL l m) = linV ρ l + linV ρ m
  | [], m => by simp [addL, linV]
  | p :: l, m => by
    show linV ρ (insL p (addL l m)) = p.2 * ρ p.1 + linV ρ l + linV ρ m
    rw [insL_ok, addL_ok l m]; omega
theorem mkLin_ok (n : Int) (l : List (Nat × Int)) : (mkLin n l).val ρ = n + linV ρ l := by
  unfold mkLin
  split
  · simp [SE.val, linV]
  · rename_i i c
    cases hb : (eqA n 0 && eqA c 1) with
    | true =>
      rw [bi_true]
      rw [Bool.and_eq_true, eqA_eq, eqA_eq] at hb
      have h1 := of_decide_eq_true hb.1
      have h2 := of_decide_eq_true hb.2
      subst h1
      subst h2
      simp [SE.val, linV]
    | false => rfl
  · rfl
theorem subL_ok (a b : Int × List (Nat × Int)) : (subL a b).1 + linV ρ (subL a b).2 = (a.1 + linV ρ a.2) - (b.1 + linV ρ b.2) := by
  show a.1 - b.1 + linV ρ (addL a.2 (mulL (-1) b.2)) = _
  rw [addL_ok, mulL_ok]; omega
theorem linC_ok (hf : ∀ f ∈ fs, f.holds ρ) {k : IntKind} {e d : SE} {v : Int} (h1 : e.val ρ = v) (h2 : d.val ρ = k.wrap v) : (linC fs k e d).val ρ = k.wrap v := by
  unfold linC
  cases hb : fitsK fs k e with
  | true => rw [bi_true]; have := fitsK_ok hf hb; rw [h1] at this; rw [h1, this]
  | false => exact h2
theorem addS_ok (hf : ∀ f ∈ fs, f.holds ρ) (k : IntKind) (a b : SE) : (addS fs k a b).val ρ = k.wrap (a.val ρ + b.val ρ) := by
  unfold addS
  split
  · rename_i x y hx hy
    refine linC_ok hf ?_ rfl
    rw [mkLin_ok, addL_ok, toLin_ok hx, toLin_ok hy]; omega
  · rfl
theorem subS_ok (hf : ∀ f ∈ fs, f.holds ρ) (k : IntKind) (a b : SE) : (subS fs k a b).val ρ = k.wrap (a.val ρ - b.val ρ) := by
  unfold subS
  split
  · rename_i x y hx hy
    refine linC_ok hf ?_ rfl
    rw [mkLin_ok, subL_ok, toLin_ok hx, toLin_ok hy]
  · rfl
theorem sgnI_ok {x : Ivl} {v : Int} {q : Bool} (hx : InI v x) (h : sgnI x = some q) : q = decide (0 < v) := by
  obtain ⟨p, h1, h⟩ := oc_some' (show oc x (fun p => bi (ltA 0 p.1) (some true) (bi (ltA 0 p.2) none (some false))) = some q from h)
  have hv := hx p h1
  cases hb : ltA 0 p.1 with
  | true => rw [hb, bi_true] at h; cases h; have := ltA_true hb; exact dec_t (by omega)
  | false =>
    rw [hb, bi_false] at h
    cases hc : ltA 0 p.2 with
    | true => rw [hc, bi_true] at h; cases h
    | false => rw [hc, bi_false] at h; cases h; have := ltA_false hc; exact dec_f (by omega)
theorem zerI_ok {x : Ivl} {v : Int} {q : Bool} (hx : InI v x) (h : zerI x = some q) : q = decide (v = 0) := by
  obtain ⟨p, h1, h⟩ := oc_some' (show oc x (fun p => bi (ltA 0 p.1 || ltA p.2 0) (some false) (bi (eqA p.1 0 && eqA p.2 0) (some true) none)) = some q from h)
  have hv := hx p h1
  cases hb : (ltA 0 p.1 || ltA p.2 0) with
  | true =>
    rw [hb, bi_true] at h; cases h
    rw [Bool.or_eq_true] at hb
    rcases hb with hb | hb
    · have := ltA_true hb; exact dec_f (by omega)
    · have := ltA_true hb; exact dec_f (by omega)
  | false =>
    rw [hb, bi_false] at h
    cases hc : (eqA p.1 0 && eqA p.2 0) with
    | true =>
      rw [hc, bi_true] at h; cases h
      rw [Bool.and_eq_true, eqA_eq, eqA_eq] at hc
      have h1 := of_decide_eq_true hc.1
      have h2 := of_decide_eq_true hc.2
      exact dec_t (by omega)
    | false => rw [hc, bi_false] at h; cases h
theorem whenT_some {b q r : Bool} (h : whenT b q = some r) : b = true ∧ r = q := by
  cases b with
  | false => cases h
  | true => cases h; exact ⟨rfl, rfl⟩
theorem eqA_dec (m n : Int) : eqA m n = decide (m = n) := eqA_eq m n
theorem fact_lin {f : Fact} (hf : f.holds ρ) {x y : Int × List (Nat × Int)} (hx : toLin f.a = some x) (hy : toLin f.b = some y) : f.q = if f.lt then decide (0 < (subL y x).1 + linV ρ (subL y x).2) else decide ((subL y x).1 + linV ρ (subL y x).2 = 0) := by
  have h := hf
  unfold Fact.holds at h
  rw [h, subL_ok, toLin_ok (ρ := ρ) hx, toLin_ok (ρ := ρ) hy]
  cases f.lt with
  | true => simp only [if_true]; exact decide_eq_decide.2 ⟨fun _ => by omega, fun _ => by omega⟩
  | false => simp only [Bool.false_eq_true, if_false]; exact decide_eq_decide.2 ⟨fun _ => by omega, fun _ => by omega⟩
theorem lin_neg {l : List (Nat × Int)} {x y : Int × List (Nat × Int)} (h : l = (subL x y).2) : (subL y x).1 + linV ρ (subL y x).2 = -((subL x y).1 + linV ρ l) := by
  rw [h, subL_ok, subL_ok]; omega
theorem sgnF_ok {f : Fact} (hf : f.holds ρ) {n : Int} {l : List (Nat × Int)} {q : Bool} (h : sgnF n l f = some q) : q = decide (0 < n + linV ρ l) := by
  unfold sgnF at h
  split at h
  case h_2 => cases h
  rename_i x y hx hy
  have hq := fact_lin hf hx hy
  cases h1 : linEq l (subL y x).2 with
  | true =>
    rw [h1, bi_true] at h
    have e := linEq_ok h1
    rw [← e] at hq
    split at h
    · rename_i hl hfq
      rw [hl, hfq] at hq
      obtain ⟨h2, rfl⟩ := whenT_some h
      have h2 := ltA_not h2
      have hq := of_decide_eq_true hq.symm
      exact dec_t (by omega)
    · rename_i hl hfq
      rw [hl, hfq] at hq
      obtain ⟨h2, rfl⟩ := whenT_some h
      have h2 := ltA_not h2
      have hq := of_decide_eq_false hq.symm
      exact dec_f (by omega)
    · rename_i hl hfq
      rw [hl, hfq] at hq
      cases h
      have hq := of_decide_eq_true (show decide _ = true from hq.symm)
      rw [ltA_eq]
      exact decide_eq_decide.2 ⟨fun _ => by omega, fun _ => by omega⟩
    · cases h
  | false =>
    rw [h1, bi_false] at h
    cases h2 : linEq l (subL x y).2 with
    | false => rw [h2, bi_false] at h; cases h
    | true =>
      rw [h2, bi_true] at h
      have e := linEq_ok h2
      rw [lin_neg (ρ := ρ) e] at hq
      split at h
      · rename_i hl hfq
        rw [hl, hfq] at hq
        obtain ⟨h2, rfl⟩ := whenT_some h
        have h2 := ltA_not h2
        have hq := of_decide_eq_true hq.symm
        exact dec_f (by omega)
      · rename_i hl hfq
        rw [hl, hfq] at hq
        obtain ⟨h2, rfl⟩ := whenT_some h
        have h2 := ltA_true h2
        have hq := of_decide_eq_false hq.symm
        exact dec_t (by omega)
      · rename_i hl hfq
        rw [hl, hfq] at hq
        cases h
        have hq := of_decide_eq_true (show decide _ = true from hq.symm)
        rw [ltA_eq]
        exact decide_eq_decide.2 ⟨fun _ => by omega, fun _ => by omega⟩
      · cases h
theorem zerF_ok {f : Fact} (hf : f.holds ρ) {n : Int} {l : List (Nat × Int)} {q : Bool} (h : zerF n l f = some q) : q = decide (n + linV ρ l = 0) := by
  unfold zerF at h
  split at h
  case h_2 => cases h
  rename_i x y hx hy
  have hq := fact_lin hf hx hy
  cases h1 : linEq l (subL y x).2 with
  | true =>
    rw [h1, bi_true] at h
    have e := linEq_ok h1
    rw [← e] at hq
    split at h
    · rename_i hl hfq
      rw [hl, hfq] at hq
      obtain ⟨h2, rfl⟩ := whenT_some h
      have h2 := ltA_not h2
      have hq := of_decide_eq_true hq.symm
      exact dec_f (by omega)
    · rename_i hl hfq
      rw [hl, hfq] at hq
      obtain ⟨h2, rfl⟩ := whenT_some h
      have h2 := ltA_true h2
      have hq := of_decide_eq_false hq.symm
      exact dec_f (by omega)
    · rename_i hl hfq
      rw [hl, hfq] at hq
      cases h
      have hq := of_decide_eq_true (show decide _ = true from hq.symm)
      rw [eqA_eq]
      exact decide_eq_decide.2 ⟨fun _ => by omega, fun _ => by omega⟩
    · rename_i hl hfq
      rw [hl, hfq] at hq
      obtain ⟨h2, rfl⟩ := whenT_some h
      rw [eqA_eq] at h2
      have h2 := of_decide_eq_true h2
      have hq := of_decide_eq_false (show decide _ = false from hq.symm)
      exact dec_f (by omega)
  | false =>
    rw [h1, bi_false] at h
    cases h2 : linEq l (subL x y).2 with
    | false => rw [h2, bi_false] at h; cases h
    | true =>
      rw [h2, bi_true] at h
      have e := linEq_ok h2
      rw [lin_neg (ρ := ρ) e] at hq
      split at h
      · rename_i hl hfq
        rw [hl, hfq] at hq
        obtain ⟨h2, rfl⟩ := whenT_some h
        have h2 := ltA_not h2
        have hq := of_decide_eq_true hq.symm
        exact dec_f (by omega)
      · rename_i hl hfq
        rw [hl, hfq] at hq
        obtain ⟨h2, rfl⟩ := whenT_some h
        have h2 := ltA_true h2
        have hq := of_decide_eq_false hq.symm
        exact dec_f (by omega)
      · rename_i hl hfq
        rw [hl, hfq] at hq
        cases h
        have hq := of_decide_eq_true (show decide _ = true from hq.symm)
        rw [eqA_eq]
        exact decide_eq_decide.2 ⟨fun _ => by omega, fun _ => by omega⟩
      · rename_i hl hfq
        rw [hl, hfq] at hq
        obtain ⟨h2, rfl⟩ := whenT_some h
        rw [eqA_eq] at h2
        have h2 := of_decide_eq_true h2
        have hq := of_decide_eq_false (show decide _ = false from hq.symm)
        exact dec_f (by omega)
theorem anyF_ok {g : Fact → Option Bool} {p : Bool} : ∀ {fs : List Fact}, (∀ f ∈ fs, f.holds ρ) → (∀ f q, f.holds ρ → g f = some q → q = p) → ∀ {q : Bool}, anyF g fs = some q → q = p
  | [], _, _, q, h => by cases h
  | f :: r, hf, hg, q, h => by
    rcases orO_some (show orO (g f) (anyF g r) = some q from h) with h | h
    · exact hg f q (hf f (List.mem_cons_self ..)) h
    · exact anyF_ok (fun f hm => hf f (List.mem_cons_of_mem _ hm)) hg h
theorem ltL_ok (hf : ∀ f ∈ fs, f.holds ρ) {a b : SE} {q : Bool} (h : ltL fs a b = some q) : q = decide (a.val ρ < b.val ρ) := by
  unfold ltL at h
  split at h
  case h_2 => cases h
  rename_i x y hx hy
  have key : q = decide (0 < (subL y x).1 + linV ρ (subL y x).2) := by
    rcases orO_some h with h | h
    · have := ivl_ok hf (mkLin (subL y x).1 (subL y x).2)
      rw [mkLin_ok] at this
      exact sgnI_ok this h
    · exact anyF_ok hf (fun f q hf h => sgnF_ok hf h) h
  rw [key, subL_ok, toLin_ok (ρ := ρ) hx, toLin_ok (ρ := ρ) hy]
  exact decide_eq_decide.2 ⟨fun _ => by omega, fun _ => by omega⟩
theorem eqL_ok (hf : ∀ f ∈ fs, f.holds ρ) {a b : SE} {q : Bool} (h : eqL fs a b = some q) : q = decide (a.val ρ = b.val ρ) := by
  unfold eqL at h
  split at h
  case h_2 => cases h
  rename_i x y hx hy
  have key : q = decide ((subL y x).1 + linV ρ (subL y x).2 = 0) := by
    rcases orO_some h with h | h
    · have := ivl_ok hf (mkLin (subL y x).1 (subL y x).2)
      rw [mkLin_ok] at this
      exact zerI_ok this h
    · exact anyF_ok hf (fun f q hf h => zerF_ok hf h) h
  rw [key, subL_ok, toLin_ok (ρ := ρ) hx, toLin_ok (ρ := ρ) hy]
  exact decide_eq_decide.2 ⟨fun _ => by omega, fun _ => by omega⟩
theorem binS_ok (hf : ∀ f ∈ fs, f.holds ρ) (op : BinOp) (k : IntKind) (a b : SE) : (binS fs op k a b).val ρ = opVal op k (a.val ρ) (b.val ρ) := by
  cases op <;> simp only [binS] <;> first | rfl | skip
  case add =>
    refine bi_ind (C := fun e : SE => e.val ρ = _) (fun h => ?_) (bi_ind (C := fun e : SE => e.val ρ = _) (fun h => ?_) (addS_ok hf k a b))
    · rw [Bool.and_eq_true] at h
      rw [isLit_ok h.1]
      simp only [opVal, SE.val, Int.zero_add, fitsK_ok hf h.2]
    · rw [Bool.and_eq_true] at h
      rw [isLit_ok h.1]
      simp only [opVal, SE.val, Int.add_zero, fitsK_ok hf h.2]
  case sub =>
    refine bi_ind (C := fun e : SE => e.val ρ = _) (fun h => ?_) (subS_ok hf k a b)
    rw [Bool.and_eq_true] at h
    rw [isLit_ok h.1]
    simp only [opVal, SE.val, Int.sub_zero, fitsK_ok hf h.2]
  case mul =>
    refine bi_ind (C := fun e : SE => e.val ρ = _) (fun h => ?_) (bi_ind (C := fun e : SE => e.val ρ = _) (fun h => ?_) rfl)
    · rw [Bool.and_eq_true] at h
      rw [isLit_ok h.1]
      simp only [opVal, SE.val, Int.one_mul, fitsK_ok hf h.2]
    · rw [Bool.and_eq_true] at h
      rw [isLit_ok h.1]
      simp only [opVal, SE.val, Int.mul_one, fitsK_ok hf h.2]
theorem orcI_ok (hf : ∀ f ∈ fs, f.holds ρ) : OrcOk (orcI fs) ρ := by
  refine ⟨?_, ?_, ?_, ?_, binS_ok hf⟩
  · intro a b q h
    rcases orO_some h with h | h
    · rcases orO_some h with h | h
      · exact (orcF_ok hf).eq _ _ _ h
      · exact eqI_ok hf h
    · exact eqL_ok hf h
  · intro a b q h
    have h' : bi (seEq a b) (some false) (orO (orO (ltF fs a b) (ltI fs a b)) (ltL fs a b)) = some q := h
    cases hs : seEq a b <;> rw [hs] at h'
    · rcases orO_some h' with h | h
      · rcases orO_some h with h | h
        · exact (orcF_ok hf).lt _ _ _ h
        · exact ltI_ok hf h
      · exact ltL_ok hf h
    · cases h'
      rw [seEq_ok hs]
      exact dec_f (Int.lt_irrefl _)
  · intro e h
    have h' : Option.rec (motive := fun _ => Bool) false (fun p => !ltA p.1 (-1000000000000000000) && !ltA 20000000000000000000 p.2) (ivl fs e) = true := h
    cases hi : ivl fs e with
    | none => rw [hi] at h'; cases h'
    | some p =>
      rw [hi] at h'
      have := ivl_ok hf e p hi
      rw [Bool.and_eq_true] at h'
      have h1 := ltA_not h'.1
      have h2 := ltA_not h'.2
      omega
  · intro k e
    refine bi_ind (C := fun x : SE => x.val ρ = _) (fun h => ?_) rfl
    exact (fitsK_ok hf h).symm
end
end Ev
end Go.Proofs.YtbjllaknnpbkkaaGreatDoor
