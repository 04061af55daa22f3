/-
  The evaluator: laws of the tries, of the marks; what an abstract value stands for; when a world has the facts of a state.
-/
import Derived.Test.YtbjllaknnpbkkaaGreatDoorSz2
import Derived.CallsIn
import Derived.OrdersIn
import Derived.Below
import Derived.Laws.CopyRow
import Derived.Laws.Cells
import Derived.RangeFuncLeaves
import Derived.RangeFuncRecord
import Derived.RangeFuncIn
import Derived.Lib.ItoaNum
namespace Go.Proofs.YtbjllaknnpbkkaaGreatDoor
namespace Ev
open Go.RowKit

def opVal (op : BinOp) (k : IntKind) (x y : Int) : Int := match op with
  | .add => k.wrap (x + y)
  | .sub => k.wrap (x - y)
  | .mul => k.wrap (x * y)
  | .and => k.wrap (BitVec.ofInt k.bits x &&& BitVec.ofInt k.bits y).toNat
  | .or => k.wrap (BitVec.ofInt k.bits x ||| BitVec.ofInt k.bits y).toNat
  | .xor => k.wrap (BitVec.ofInt k.bits x ^^^ BitVec.ofInt k.bits y).toNat
  | .andNot => k.wrap (BitVec.ofInt k.bits x &&& ~~~ BitVec.ofInt k.bits y).toNat
  | .quo => k.wrap (x.tdiv y)
  | .rem => x.tmod y
  | .shl => k.wrap (x * 2 ^ (min y.toNat k.bits))
  | .shr => x.fdiv (2 ^ (min y.toNat k.bits))
  | _ => 0
/-- The mark of n like bytes. -/
def markV (p : Int) : Nat → Int
  | 0 => 0
  | k + 1 => (31 * markV p k + p) % 1000003
theorem markV_range (p : Int) (k : Nat) : 0 ≤ markV p k ∧ markV p k ≤ 1000002 := by
  cases k with
  | zero => simp [markV]
  | succ k => simp only [markV]; omega
/-- Functions that stand in expressions. -/
def fnVal (k : Nat) (x y : Int) : Int := match k with
  | 0 => markV x y.toNat
  | _ => 0
/-- A sum of multiples. -/
def linV (ρ : Nat → Int) : List (Nat × Int) → Int
  | [] => 0
  | p :: r => p.2 * ρ p.1 + linV ρ r
def SE.val (ρ : Nat → Int) : SE → Int
  | .var i => ρ i
  | .lit n => n
  | .wrap k a => k.wrap (a.val ρ)
  | .bin op k a b => opVal op k (a.val ρ) (b.val ρ)
  | .fn k a b => fnVal k (a.val ρ) (b.val ρ)
  | .lin n l => n + linV ρ l
/-- What is taken for decided is so. -/
structure OrcOk (O : Orc) (ρ : Nat → Int) : Prop where
  eq : ∀ a b q, O.eq a b = some q → q = decide (a.val ρ = b.val ρ)
  lt : ∀ a b q, O.lt a b = some q → q = decide (a.val ρ < b.val ρ)
  small : ∀ e, O.small e = true → -1000000000000000000 ≤ e.val ρ ∧ e.val ρ ≤ 20000000000000000000
  wrap : ∀ k e, (O.wrap k e).val ρ = k.wrap (e.val ρ)
  bin : ∀ op k a b, (O.bin op k a b).val ρ = opVal op k (a.val ρ) (b.val ρ)
theorem noOrc_ok (ρ : Nat → Int) : OrcOk noOrc ρ := by
  refine ⟨?_, ?_, ?_, fun _ _ => rfl, fun _ _ _ _ => rfl⟩
  · intro a b q h; cases h
  · intro a b q h; cases h
  · intro e h; cases h

section tries
variable {α : Type}
theorem force_eq {γ : Type} (n : Nat) (k : Nat → γ) : force n k = k n := by cases n <;> rfl
theorem pick_same {β : Type} (n : N β) (f : β → β) (d : Nat) (hd : d < 8) : (pick d).get ((pick d).set n f) = f ((pick d).get n) := by
  obtain ⟨c0, c1, c2, c3, c4, c5, c6, c7⟩ := n
  have hd' : d = 0 ∨ d = 1 ∨ d = 2 ∨ d = 3 ∨ d = 4 ∨ d = 5 ∨ d = 6 ∨ d = 7 := by omega
  rcases hd' with rfl | rfl | rfl | rfl | rfl | rfl | rfl | rfl <;> rfl
theorem pick_ne {β : Type} (n : N β) (f : β → β) (d e : Nat) (hd : d < 8) (he : e < 8) (hne : d ≠ e) : (pick d).get ((pick e).set n f) = (pick d).get n := by
  obtain ⟨c0, c1, c2, c3, c4, c5, c6, c7⟩ := n
  have hd' : d = 0 ∨ d = 1 ∨ d = 2 ∨ d = 3 ∨ d = 4 ∨ d = 5 ∨ d = 6 ∨ d = 7 := by omega
  have he' : e = 0 ∨ e = 1 ∨ e = 2 ∨ e = 3 ∨ e = 4 ∨ e = 5 ∨ e = 6 ∨ e = 7 := by omega
  rcases hd' with rfl | rfl | rfl | rfl | rfl | rfl | rfl | rfl <;> rcases he' with rfl | rfl | rfl | rfl | rfl | rfl | rfl | rfl <;> first | rfl | exact absurd rfl hne
theorem pick_all {β : Type} (x : β) (d : Nat) (hd : d < 8) : (pick d).get (all8 x) = x := by
  have hd' : d = 0 ∨ d = 1 ∨ d = 2 ∨ d = 3 ∨ d = 4 ∨ d = 5 ∨ d = 6 ∨ d = 7 := by omega
  rcases hd' with rfl | rfl | rfl | rfl | rfl | rfl | rfl | rfl <;> rfl
theorem pick_by {β γ : Type} (d : Nat) (k : (N β → β) → (N β → (β → β) → N β) → γ) : (pick d).by k = k (pick d).get (pick d).set := by
  generalize pick d = p
  cases p
  rfl
theorem pathLo_eq (k : Nat) : pathLo α k = .mk (fun t => T.rec (motive := fun _ => Option α) (fun lo _ => (pick (k % 8)).get ((pick (k / 8 % 8)).get lo)) t)
    (fun t x => T.rec (motive := fun _ => T α) (fun lo hi => .mk ((pick (k / 8 % 8)).set lo fun t => (pick (k % 8)).set t fun _ => x) hi) t) := by
  unfold pathLo
  simp only [force_eq, pick_by]
  rfl
theorem pathHi_eq (k : Nat) : pathHi α k = .mk (fun t => T.rec (motive := fun _ => Option α) (fun _ hi => (pick (k % 8)).get ((pick (k / 8 % 8)).get ((pick (k / 64 % 8)).get ((pick (k / 512 % 8)).get ((pick (k / 4096 % 8)).get ((pick (k / 32768 % 8)).get hi)))))) t)
    (fun t x => T.rec (motive := fun _ => T α) (fun lo hi => .mk lo ((pick (k / 32768 % 8)).set hi fun t => (pick (k / 4096 % 8)).set t fun t => (pick (k / 512 % 8)).set t fun t => (pick (k / 64 % 8)).set t fun t => (pick (k / 8 % 8)).set t fun t => (pick (k % 8)).set t fun _ => x)) t) := by
  unfold pathHi
  simp only [force_eq, pick_by]
  rfl
theorem bi_blt {γ : Type} (k n : Nat) (x y : γ) : bi (Nat.blt k n) x y = if k < n then x else y := by
  by_cases h : k < n
  · rw [if_pos h, show Nat.blt k n = true from by rw [Nat.blt_eq]; exact h]; rfl
  · rw [if_neg h]
    cases hb : Nat.blt k n with
    | false => rfl
    | true => rw [Nat.blt_eq] at hb; exact absurd hb h
theorem path_eq (k : Nat) : path α k = if k < 64 then pathLo α k else if k < 262144 then pathHi α k else .mk (fun _ => none) (fun t _ => t) := by
  show bi (Nat.blt k 64) (pathLo α k) (bi (Nat.blt k 262144) (pathHi α k) (.mk (fun _ => none) (fun t _ => t))) = _
  rw [bi_blt, bi_blt]
theorem T.get_e (k : Nat) : (T.e : T α).get k = none := by
  unfold T.get
  rw [path_eq]
  split
  · rw [pathLo_eq]
    show (pick (k % 8)).get ((pick (k / 8 % 8)).get (all8 (all8 none))) = none
    rw [pick_all _ _ (by omega), pick_all _ _ (by omega)]
  · split
    · rw [pathHi_eq]
      show (pick (k % 8)).get ((pick (k / 8 % 8)).get ((pick (k / 64 % 8)).get ((pick (k / 512 % 8)).get ((pick (k / 4096 % 8)).get ((pick (k / 32768 % 8)).get (all8 (all8 (all8 (all8 (all8 (all8 none))))))))))) = none
      rw [pick_all _ _ (by omega), pick_all _ _ (by omega), pick_all _ _ (by omega), pick_all _ _ (by omega), pick_all _ _ (by omega), pick_all _ _ (by omega)]
    · rfl
theorem T.force_eq {β : Type} (t : T α) (k : T α → β) : t.force k = k t := by cases t; rfl
theorem T.put_ne (t : T α) (k j : Nat) (x : Option α) (hne : j ≠ k) : (t.put k x).get j = t.get j := by
  unfold T.put T.get
  obtain ⟨lo, hi⟩ := t
  rw [path_eq, path_eq]
  by_cases hk : k < 64
  · rw [if_pos hk, pathLo_eq]
    by_cases hj : j < 64
    · rw [if_pos hj, pathLo_eq]
      simp only
      by_cases h1 : j / 8 % 8 = k / 8 % 8
      · rw [h1, pick_same _ _ _ (by omega), pick_ne _ _ _ _ (by omega) (by omega) (by omega)]
      · rw [pick_ne _ _ _ _ (by omega) (by omega) h1]
    · rw [if_neg hj]
      split
      · rw [pathHi_eq]
      · rfl
  · rw [if_neg hk]
    by_cases hk2 : k < 262144
    · rw [if_pos hk2, pathHi_eq]
      by_cases hj : j < 64
      · rw [if_pos hj, pathLo_eq]
      · rw [if_neg hj]
        by_cases hj2 : j < 262144
        · rw [if_pos hj2, pathHi_eq]
          simp only
          by_cases h5 : j / 32768 % 8 = k / 32768 % 8
          · rw [h5, pick_same _ _ _ (by omega)]
            by_cases h4 : j / 4096 % 8 = k / 4096 % 8
            · rw [h4, pick_same _ _ _ (by omega)]
              by_cases h3 : j / 512 % 8 = k / 512 % 8
              · rw [h3, pick_same _ _ _ (by omega)]
                by_cases h2 : j / 64 % 8 = k / 64 % 8
                · rw [h2, pick_same _ _ _ (by omega)]
                  by_cases h1 : j / 8 % 8 = k / 8 % 8
                  · rw [h1, pick_same _ _ _ (by omega), pick_ne _ _ _ _ (by omega) (by omega) (by omega)]
                  · rw [pick_ne _ _ _ _ (by omega) (by omega) h1]
                · rw [pick_ne _ _ _ _ (by omega) (by omega) h2]
              · rw [pick_ne _ _ _ _ (by omega) (by omega) h3]
            · rw [pick_ne _ _ _ _ (by omega) (by omega) h4]
          · rw [pick_ne _ _ _ _ (by omega) (by omega) h5]
        · rw [if_neg hj2]
    · rw [if_neg hk2]
theorem T.put_eq (t : T α) (k : Nat) (x : Option α) : (t.put k x).get k = x ∨ (t.put k x).get k = none := by
  unfold T.put T.get
  obtain ⟨lo, hi⟩ := t
  rw [path_eq]
  by_cases hk : k < 64
  · left
    rw [if_pos hk, pathLo_eq]
    simp only
    rw [pick_same _ _ _ (by omega), pick_same _ _ _ (by omega)]
  · rw [if_neg hk]
    by_cases hk2 : k < 262144
    · left
      rw [if_pos hk2, pathHi_eq]
      simp only
      rw [pick_same _ _ _ (by omega), pick_same _ _ _ (by omega), pick_same _ _ _ (by omega), pick_same _ _ _ (by omega), pick_same _ _ _ (by omega), pick_same _ _ _ (by omega)]
    · right
      rw [if_neg hk2]
theorem T.put_some {t : T α} {k j : Nat} {x : Option α} {y : α} (h : (t.put k x).get j = some y) : (j = k ∧ x = some y) ∨ (j ≠ k ∧ t.get j = some y) := by
  by_cases hj : j = k
  · subst hj
    rcases t.put_eq j x with h' | h' <;> rw [h'] at h
    · exact .inl ⟨rfl, h⟩
    · cases h
  · exact .inr ⟨hj, by rw [← t.put_ne k j x hj]; exact h⟩
end tries

theorem oc_some {α β : Type} {x : Option α} {k : α → Option β} {r : β} (h : oc x k = some r) : ∃ a, x = some a ∧ k a = some r := by
  cases x with
  | none => cases h
  | some a => exact ⟨a, rfl, h⟩
theorem oc2_some {α β γ : Type} {x : Option (α × β)} {k : α → β → Option γ} {r : γ} (h : oc2 x k = some r) : ∃ a b, x = some (a, b) ∧ k a b = some r := by
  cases x with
  | none => cases h
  | some p => exact ⟨p.1, p.2, rfl, h⟩
theorem bc_some {β : Type} {b : Bool} {k : Option β} {r : β} (h : bc b k = some r) : b = true ∧ k = some r := by
  cases b with
  | false => cases h
  | true => exact ⟨rfl, h⟩
theorem bi_true {β : Type} (x y : β) : bi true x y = x := rfl
theorem bi_false {β : Type} (x y : β) : bi false x y = y := rfl
theorem St.force_eq {α : Type} (s : St) (k : St → α) : s.force k = k s := by
  obtain ⟨c, h, l, w, o⟩ := s
  simp only [St.force, Ev.force_eq, T.force_eq]

/-- The bits of a mark. -/
def In (m j : Nat) : Prop := m.testBit j = true
theorem in_bit (i j : Nat) : In (bit i) j ↔ i = j := by
  have : bit i = 2 ^ i := by show 1 <<< i = _; simp [Nat.shiftLeft_eq]
  unfold In
  rw [this, Nat.testBit_two_pow]
  simp
theorem in_lor (a b j : Nat) : In (Nat.lor a b) j ↔ In a j ∨ In b j := by
  show (a ||| b).testBit j = true ↔ _
  rw [Nat.testBit_or]
  simp [In]
theorem not_in_zero (j : Nat) : ¬ In 0 j := by simp [In]

/-- From a state to a later one: marks grow; what isn't marked as written is as it was. -/
structure Step (s s' : St) : Prop where
  l : ∀ j, In s.l j → In s'.l j
  w : ∀ j, In s.w j → In s'.w j
  wl : (∀ j, In s.w j → In s.l j) → ∀ j, In s'.w j → In s'.l j
  h : ∀ j, ¬ In s'.w j → s'.h.get j = s.h.get j
  o : s'.o = s.o

theorem Step.refl (s : St) : Step s s := ⟨fun _ h => h, fun _ h => h, fun h => h, fun _ _ => rfl, rfl⟩
theorem Step.trans {a b c : St} (h : Step a b) (k : Step b c) : Step a c :=
  ⟨fun j x => k.l j (h.l j x), fun j x => k.w j (h.w j x), fun x => k.wl (h.wl x), fun j x => (k.h j x).trans (h.h j (fun y => x (k.w j y))), k.o.trans h.o⟩
theorem Step.see (s : St) (i : Nat) : Step s (s.see i) :=
  ⟨fun j x => (in_lor _ _ _).2 (.inl x), fun j x => x, fun x j y => (in_lor _ _ _).2 (.inl (x j y)), fun _ _ => rfl, rfl⟩
theorem Step.set (s : St) (i : Nat) (o : Option AObj) : Step s (s.set i o) := by
  refine ⟨fun j x => (in_lor _ _ _).2 (.inl x), fun j x => (in_lor _ _ _).2 (.inl x), fun x j y => ?_, fun j y => ?_, rfl⟩
  · exact (in_lor _ _ _).2 (((in_lor _ _ _).1 y).imp (x j) id)
  · exact T.put_ne _ _ _ _ (fun e => y ((in_lor _ _ _).2 (.inr ((in_bit _ _).2 e.symm))))
theorem Step.new (s : St) (o : AObj) : Step s (s.new o) := by
  refine ⟨fun j x => (in_lor _ _ _).2 (.inl x), fun j x => (in_lor _ _ _).2 (.inl x), fun x j y => ?_, fun j y => ?_, rfl⟩
  · exact (in_lor _ _ _).2 (((in_lor _ _ _).1 y).imp (x j) id)
  · exact T.put_ne _ _ _ _ (fun e => y ((in_lor _ _ _).2 (.inr ((in_bit _ _).2 e.symm))))

/-- What an id stands for. -/
inductive Slot where
  | unborn
  | live (b C : Nat)
  | dead
def Slot.at : Slot → Nat → Prop
  | .unborn, _ => False
  | .live b _, b' => b' = b
  | .dead, _ => True
/-- A row that came in: its block, and where in it the row begins. -/
def Slot.row : Slot → Nat → Nat → Prop
  | .unborn, _, _ => False
  | .live b C, b', C' => b' = b ∧ C' = C
  | .dead, _, _ => True
def Slot.le : Slot → Slot → Prop
  | .unborn, _ => True
  | .live b C, .live b' C' => b = b' ∧ C = C'
  | .live _ _, .dead => True
  | .live _ _, .unborn => False
  | .dead, .dead => True
  | .dead, _ => False
theorem Slot.le_refl (x : Slot) : x.le x := by cases x <;> simp [Slot.le]
theorem Slot.le_trans {x y z : Slot} (h : x.le y) (k : y.le z) : x.le z := by
  cases x <;> cases y <;> cases z <;> simp_all [Slot.le]
theorem Slot.at_le {x y : Slot} {b : Nat} (h : x.le y) (k : x.at b) : y.at b := by
  cases x <;> cases y <;> simp_all [Slot.le, Slot.at]
theorem Slot.row_le {x y : Slot} {b C : Nat} (h : x.le y) (k : x.row b C) : y.row b C := by
  cases x <;> cases y <;> simp_all [Slot.le, Slot.row]
/-- A map's numbers, as they are told, and those of the world: below n they may be any; from n on they run side by side. -/
structure Stamps where
  n : Nat
  k : Nat
  f : Nat → Nat
  lt : ∀ i, i < n → f i < k
  up : ∀ j, f (n + j) = k + j
  inj : ∀ i j, f i = f j → i = j
theorem Stamps.lt_iff (S : Stamps) {a b : Nat} (h : S.n ≤ b) : S.f a < S.f b ↔ a < b := by
  obtain ⟨j, rfl⟩ := Nat.exists_eq_add_of_le h
  rw [S.up]
  by_cases ha : a < S.n
  · have := S.lt a ha; constructor <;> intro _ <;> omega
  · obtain ⟨i, rfl⟩ := Nat.exists_eq_add_of_le (Nat.le_of_not_lt ha)
    rw [S.up]; omega
theorem Stamps.succ (S : Stamps) {a : Nat} (h : S.n ≤ a) : S.f (a + 1) = S.f a + 1 := by
  obtain ⟨j, rfl⟩ := Nat.exists_eq_add_of_le h
  rw [S.up, Nat.add_assoc, S.up]; omega
def Stamps.same : Stamps := ⟨0, 0, fun i => i, fun i h => absurd h (Nat.not_lt_zero i), fun j => rfl, fun _ _ h => h⟩
/-- What the ids stand for; what came in; the orders of maps. -/
structure Env where
  slot : Nat → Slot
  ρ : Nat → Int
  st : Nat → Stamps
instance : CoeFun Env (fun _ => Nat → Slot) := ⟨Env.slot⟩
structure Env.le (E E' : Env) : Prop where
  s : ∀ i, (E i).le (E' i)
  ρ : E'.ρ = E.ρ
  st : ∀ t, E t = .dead → E'.st t = E.st t
instance {E E' : Env} : CoeFun (E.le E') (fun _ => ∀ i, (E i).le (E' i)) := ⟨Env.le.s⟩
theorem Env.le_refl (E : Env) : E.le E := ⟨fun _ => Slot.le_refl _, rfl, fun _ _ => rfl⟩
theorem Slot.le_dead {x y : Slot} (h : x.le y) (k : x = .dead) : y = .dead := by subst k; cases y <;> first | exact h.elim | rfl
theorem Env.le_trans {A B C : Env} (h : A.le B) (k : B.le C) : A.le C := ⟨fun i => Slot.le_trans (h i) (k i), k.ρ.trans h.ρ, fun t ht => (k.st t (Slot.le_dead (h t) ht)).trans (h.st t ht)⟩

/-- A slice's capacity. -/
def capOk (x : Slot) (cap : Option Nat) (dr len c : Nat) : Prop :=
  match cap with
  | some c' => c = c'
  | none => len ≤ c ∧ match x with
    | .unborn => False
    | .live _ C => c = C - dr
    | .dead => True
theorem capOk_le {x y : Slot} {cap : Option Nat} {dr len c : Nat} (h : x.le y) (k : capOk x cap dr len c) : capOk y cap dr len c := by
  cases cap <;> cases x <;> cases y <;> simp_all [Slot.le, capOk] <;> omega

/-- A text in pieces. -/
def Pc.val (ρ : Nat → Int) : Pc → List UInt8
  | .lit l => l
  | .dec e => (Lib.itoa (e.val ρ)).take 32
  | .byt e => [UInt8.ofNat (e.val ρ).toNat]
  | .opq b n m => (List.range (min (n.val ρ).toNat m)).map fun j => UInt8.ofNat (ρ (b + j)).toNat
def psVal (ρ : Nat → Int) : List Pc → List UInt8
  | [] => []
  | p :: r => p.val ρ ++ psVal ρ r
def bytesV (l : List UInt8) : List Value := l.map fun b => Value.int .u8 b.toNat

mutual
inductive Rel (E : Env) : AV → Value → Prop
  | bool (b : Bool) : Rel E (.bool b) (.bool b)
  | int (k : IntKind) (n : Int) : Rel E (.int k n) (.int k n)
  | sint (k : IntKind) (e : SE) : Rel E (.sint k e) (.int k (e.val E.ρ))
  | str (s : List UInt8) : Rel E (.str s) (.string ⟨s.toArray⟩)
  | nilptr : Rel E .nilptr (.pointer none)
  | ptr {i off b : Nat} (h : (E i).at b) : Rel E (.ptr i off) (.pointer (some ⟨b, off, none⟩))
  | nilslice : Rel E .nilslice (.slice none 0 0)
  | slice {i off len dr b c : Nat} {cap : Option Nat} (h : (E i).at b) (hc : capOk (E i) cap dr len c) : Rel E (.slice i off len cap dr) (.slice (some ⟨b, off, none⟩) len c)
  | eslice {a : Addr} {c : Nat} : Rel E .eslice (.slice (some a) 0 c)
  | nilmap : Rel E .nilmap (.map none)
  | map {i b : Nat} (h : (E i).at b) : Rel E (.map i) (.map (some b))
  | func {f : FuncId} {p q : List AV} {p' q' : Array Value} (hp : RelL E p p'.toList) (hq : RelL E q q'.toList) : Rel E (.func f p q) (.func (.func f) p' q')
  | nilFunc : Rel E .nilFunc .nilFunc
  | yield {i b : Nat} (h : (E i).at b) : Rel E (.yield i) (.func (.yield b) #[] #[])
  | iface {t : TypeId} {v : AV} {v' : Value} (h : Rel E v v') : Rel E (.iface t v) (.iface t v')
  | nilIface : Rel E .nilIface .nilIface
  | agg {l : List AV} {a : Array Value} (h : RelL E l a.toList) : Rel E (.agg l) (.agg a)
  | tuple {l : List AV} {a : Array Value} (h : RelL E l a.toList) : Rel E (.tuple l) (.tuple a)
  | pstr (ps : List Pc) : Rel E (.pstr ps) (.string ⟨(psVal E.ρ ps).toArray⟩)
  | plen (ps : List Pc) : Rel E (.plen ps) (.int .i64 ((psVal E.ρ ps).length : Nat))
  | bslice {i b c : Nat} {ps : List Pc} (h : (E i).at b) (hc : capOk (E i) none 0 (psVal E.ρ ps).length c) : Rel E (.bslice i ps) (.slice (some ⟨b, 0, none⟩) (psVal E.ρ ps).length c)
  | fslice {i b : Nat} {n : SE} (h : (E i).at b) : Rel E (.fslice i n) (.slice (some ⟨b, 0, none⟩) (n.val E.ρ).toNat (n.val E.ρ).toNat)
  | aptr {i off b C : Nat} (h : (E i).row b C) : Rel E (.aptr i off) (.pointer (some ⟨b, C + off, none⟩))
  | oslice {n : SE} {a : Option Addr} {k c : Nat} (h : n.val E.ρ = (k : Int)) : Rel E (.oslice n) (.slice a k c)
  | aslice {i off n b C c : Nat} (h : (E i).row b C) (hc : n ≤ c) : Rel E (.aslice i off n) (.slice (some ⟨b, C + off, none⟩) n c)
inductive RelL (E : Env) : List AV → List Value → Prop
  | nil : RelL E [] []
  | cons {x : AV} {y : Value} {l : List AV} {m : List Value} (h : Rel E x y) (t : RelL E l m) : RelL E (x :: l) (y :: m)
end

mutual
theorem Rel.mono {E E' : Env} (h : E.le E') : ∀ {x : AV} {y : Value}, Rel E x y → Rel E' x y
  | _, _, .bool b => .bool b
  | _, _, .int k n => .int k n
  | _, _, .sint k e => by rw [← h.ρ]; exact .sint k e
  | _, _, .str s => .str s
  | _, _, .nilptr => .nilptr
  | _, _, .ptr k => .ptr (Slot.at_le (h _) k)
  | _, _, .nilslice => .nilslice
  | _, _, .slice k c => .slice (Slot.at_le (h _) k) (capOk_le (h _) c)
  | _, _, .eslice => .eslice
  | _, _, .nilmap => .nilmap
  | _, _, .map k => .map (Slot.at_le (h _) k)
  | _, _, .func p q => .func (RelL.mono h p) (RelL.mono h q)
  | _, _, .nilFunc => .nilFunc
  | _, _, .yield k => .yield (Slot.at_le (h _) k)
  | _, _, .iface k => .iface (Rel.mono h k)
  | _, _, .nilIface => .nilIface
  | _, _, .agg k => .agg (RelL.mono h k)
  | _, _, .tuple k => .tuple (RelL.mono h k)
  | _, _, .pstr ps => by rw [← h.ρ]; exact .pstr ps
  | _, _, .plen ps => by rw [← h.ρ]; exact .plen ps
  | _, _, .bslice k c => by
    rw [← h.ρ] at c ⊢
    exact .bslice (Slot.at_le (h _) k) (capOk_le (h _) c)
  | _, _, .fslice k => by
    rw [← h.ρ]
    exact .fslice (Slot.at_le (h _) k)
  | _, _, .aptr k => .aptr (Slot.row_le (h _) k)
  | _, _, .aslice k c => .aslice (Slot.row_le (h _) k) c
  | _, _, .oslice k => .oslice (by rw [h.ρ]; exact k)
theorem RelL.mono {E E' : Env} (h : E.le E') : ∀ {x : List AV} {y : List Value}, RelL E x y → RelL E' x y
  | _, _, .nil => .nil
  | _, _, .cons k t => .cons (Rel.mono h k) (RelL.mono h t)
end

theorem RelL.length {E : Env} : ∀ {l : List AV} {m : List Value}, RelL E l m → l.length = m.length
  | _, _, .nil => rfl
  | _, _, .cons _ t => by simp [t.length]
theorem RelL.append {E : Env} : ∀ {l l' : List AV} {m m' : List Value}, RelL E l m → RelL E l' m' → RelL E (l ++ l') (m ++ m')
  | _, _, _, _, .nil, k => k
  | _, _, _, _, .cons h t, k => .cons h (t.append k)
theorem Rel.one {E : Env} {x : AV} {y : Value} (h : Rel E x y) : y.oneCell' = x.one := by cases h <;> rfl
theorem Rel.cells {E : Env} {x : AV} {y : Value} (h : Rel E x y) : RelL E x.cells y.cells.toList := by
  cases h <;> first | assumption | exact .cons (by constructor <;> assumption) .nil

/-- Temporaries. -/
def TRel (E : Env) (nt : Nat) (a : T AV) (tmps : Array Value) : Prop := tmps.size = nt ∧ ∀ t v, a.get t = some v → ∃ x, tmps[t]? = some x ∧ Rel E v x
theorem TRel.mono {E E' : Env} (h : E.le E') {nt : Nat} {a : T AV} {tmps : Array Value} (k : TRel E nt a tmps) : TRel E' nt a tmps :=
  ⟨k.1, fun t v ht => let ⟨x, hx, hr⟩ := k.2 t v ht; ⟨x, hx, hr.mono h⟩⟩

inductive RelE (E : Env) : List Ent → List MapEntry → Prop
  | nil : RelE E [] []
  | cons {x : Ent} {y : MapEntry} {l : List Ent} {m : List MapEntry} (hk : Rel E x.key y.key) (hv : Rel E x.val y.val) (hb : x.born = y.born) (t : RelE E l m) : RelE E (x :: l) (y :: m)
theorem RelE.mono {E E' : Env} (h : E.le E') : ∀ {x : List Ent} {y : List MapEntry}, RelE E x y → RelE E' x y
  | _, _, .nil => .nil
  | _, _, .cons k v b t => .cons (k.mono h) (v.mono h) b (t.mono h)

/-- A map's entries, under other numbers. -/
inductive RelS (E : Env) (S : Stamps) : List Ent → List MapEntry → Prop
  | nil : RelS E S [] []
  | cons {x : Ent} {y : MapEntry} {l : List Ent} {m : List MapEntry} (hk : Rel E x.key y.key) (hv : Rel E x.val y.val) (hb : y.born = S.f x.born) (t : RelS E S l m) : RelS E S (x :: l) (y :: m)
theorem RelS.mono {E E' : Env} {S : Stamps} (h : E.le E') : ∀ {x : List Ent} {y : List MapEntry}, RelS E S x y → RelS E' S x y
  | _, _, .nil => .nil
  | _, _, .cons k v b t => .cons (k.mono h) (v.mono h) b (t.mono h)
/-- A map of which no order is known. -/
structure AnyMap (E : Env) (es : List Ent) (K t : Nat) (a : Array MapEntry) : Prop where
  tag : E t = .dead
  le : (E.st t).n ≤ K
  lt : ∀ e ∈ es, e.born < K
  once : (es.map Ent.born).Nodup
  rel : ∃ l, l.Perm a.toList ∧ RelS E (E.st t) es l
theorem AnyMap.mono {E E' : Env} (h : E.le E') {es : List Ent} {K t : Nat} {a : Array MapEntry} (k : AnyMap E es K t a) : AnyMap E' es K t a := by
  have hst := h.st t k.tag
  obtain ⟨l, hp, hr⟩ := k.rel
  exact ⟨Slot.le_dead (h t) k.tag, by rw [hst]; exact k.le, k.lt, k.once, l, hp, by rw [hst]; exact hr.mono h⟩

/-- A block as an object says. -/
def OkObj (E : Env) (i : Nat) : AObj → Obj → Prop
  | .cells vs e fz none, o => ∃ c f, o = .cells c e f ∧ RelL E vs c.toList ∧ ∀ off, off < c.size → f.1 ≤ off → off < f.2 → fz.1 ≤ off ∧ off < fz.2
  | .cells vs e fz (some z), o => ∃ c f xs rest b C, o = .cells c e f ∧ c.toList = xs ++ rest ∧ RelL E vs xs ∧ E i = .live b C ∧ c.size = C * z ∧ ∀ off, off < c.size → f.1 ≤ off → off < f.2 → fz.1 ≤ off ∧ off < fz.2
  | .tab vs, o => ∃ c e f, o = .cells c e f ∧ RelL E vs c.toList
  | .part vs, o => ∃ c e f xs rest, o = .cells c e f ∧ c.toList = xs ++ rest ∧ RelL E vs xs
  | .map es clock, o => ∃ a, o = .map a clock ∧ RelE E es a.toList
  | .iter m since seen stepped, o => ∃ m', o = .mapIter m' since seen.toArray stepped ∧ (match m with | none => m' = none | some k => ∃ b, m' = some b ∧ (E k).at b)
  | .umap es K t, o => ∃ a, o = .map a ((E.st t).f K) ∧ AnyMap E es K t a
  | .uiter m since seen stepped t, o => ∃ b, o = .mapIter (some b) ((E.st t).f since) (seen.map (E.st t).f).toArray ((E.st t).f stepped) ∧ (E m).at b ∧ E t = .dead ∧ (E.st t).n ≤ since ∧ (E.st t).n ≤ stepped
  | .siter l pos, o => o = .stringIter ⟨l.toArray⟩ pos
  | .loop st pend nt a ps as bo d, o => ∃ l : Loop, o = .loop l ∧ l.state = st ∧ l.pending = pend ∧ l.params.toList = ps ∧ l.assign = as ∧ l.body = bo ∧ TRel E nt a l.tmps ∧ (E d).at l.defers
  | .defd b, o => o = .deferred (if b then some [] else none)
  | .buf ps e, o => ∃ c f rest b C, o = .cells c e f ∧ c.toList = bytesV (psVal E.ρ ps) ++ rest ∧ E i = .live b C ∧ c.size = C ∧ ∀ off, off < c.size → f.1 ≤ off → off < f.2 → False
  | .flat n v e, o => o = .cells (Array.replicate (n.val E.ρ).toNat (.int .u8 (v.val E.ρ))) e (0, 0)
  | .row vs, o => ∃ c e f b C xs rest, o = .cells c e f ∧ E i = .live b C ∧ c.toList.drop C = xs ++ rest ∧ RelL E vs xs
def AObj.fixed : AObj → Bool
  | .tab _ => true
  | .flat _ _ _ => true
  | .row _ => true
  | _ => false
/-- As long as its own id lives on. -/
theorem OkObj.mono {E E' : Env} (h : E.le E') {i : Nat} {o : AObj} {ob : Obj} (hi : ∀ b C, E i = .live b C → E' i = .live b C) (k : OkObj E i o ob) : OkObj E' i o ob := by
  cases o with
  | cells vs e fz op =>
    cases op with
    | none => obtain ⟨c, f, rfl, hr, hf⟩ := k; exact ⟨c, f, rfl, hr.mono h, hf⟩
    | some z => obtain ⟨c, f, xs, rest, b, C, rfl, hx, hr, he, hs, hf⟩ := k; exact ⟨c, f, xs, rest, b, C, rfl, hx, hr.mono h, hi _ _ he, hs, hf⟩
  | tab vs => obtain ⟨c, e, f, rfl, hr⟩ := k; exact ⟨c, e, f, rfl, hr.mono h⟩
  | part vs => obtain ⟨c, e, f, xs, rest, rfl, hx, hr⟩ := k; exact ⟨c, e, f, xs, rest, rfl, hx, hr.mono h⟩
  | map es clock => obtain ⟨a, rfl, hr⟩ := k; exact ⟨a, rfl, hr.mono h⟩
  | iter m since seen stepped =>
    obtain ⟨m', rfl, hm⟩ := k
    refine ⟨m', rfl, ?_⟩
    cases m with
    | none => exact hm
    | some j => obtain ⟨b, hb, ha⟩ := hm; exact ⟨b, hb, Slot.at_le (h j) ha⟩
  | umap es K t =>
    obtain ⟨a, rfl, hr⟩ := k
    exact ⟨a, by rw [h.st t hr.tag], hr.mono h⟩
  | uiter m since seen stepped t =>
    obtain ⟨b, rfl, hm, ht, h1, h2⟩ := k
    have hst := h.st t ht
    exact ⟨b, by rw [hst], Slot.at_le (h m) hm, Slot.le_dead (h t) ht, by rw [hst]; exact h1, by rw [hst]; exact h2⟩
  | siter l pos => exact k
  | loop st pend nt a ps as bo d => obtain ⟨l, h1, h2, h3, h4, h5, h6, h7, h8⟩ := k; exact ⟨l, h1, h2, h3, h4, h5, h6, h7.mono h, Slot.at_le (h d) h8⟩
  | defd b => exact k
  | buf ps e => obtain ⟨c, f, rest, b, C, rfl, hx, he, hs, hf⟩ := k; exact ⟨c, f, rest, b, C, rfl, by rw [h.ρ]; exact hx, hi _ _ he, hs, hf⟩
  | flat n v e => show _ = _; rw [h.ρ]; exact k
  | row vs => obtain ⟨c, e, f, b, C, xs, rest, rfl, he, hx, hr⟩ := k; exact ⟨c, e, f, b, C, xs, rest, rfl, hi _ _ he, hx, hr.mono h⟩

/-- The world has the facts of a state, on the ids of G; B: the blocks below are none of the state's own. -/
structure Sat (G : Nat → Prop) (B : Nat) (E : Env) (s : St) (w : World) : Prop where
  inj : ∀ i j b C D, B ≤ b → E i = .live b C → E j = .live b D → i = j
  lt : ∀ i b C, E i = .live b C → b < w.heap.size
  base : B ≤ w.heap.size
  glob : ∀ g, g < 64 → (E g).at g
  fresh : ∀ i, s.c ≤ i → G i → E i = .unborn
  fact : ∀ i o, G i → s.h.get i = some o → ∃ b C ob, E i = .live b C ∧ w.heap[b]? = some ob ∧ OkObj E i o ob ∧ (o.fixed = true ∨ B ≤ b)
  orc : OrcOk s.o E.ρ

/-- From a world to a later one. -/
structure Ext (B W : Nat) (E E' : Env) (w w' : World) : Prop where
  le : E.le E'
  keep : ∀ j, ¬ In W j → E' j = E j
  block : ∀ j b C, ¬ In W j → E j = .live b C → w'.heap[b]? = w.heap[b]?
  below : Below B w w'
theorem Ext.refl (B W : Nat) (E : Env) (w : World) : Ext B W E E w w := ⟨E.le_refl, fun _ _ => rfl, fun _ _ _ _ _ => rfl, Below.refl _ _⟩
theorem Ext.trans {B W W' : Nat} {A C D : Env} {a c d : World} (h : Ext B W A C a c) (k : Ext B W' C D c d) (hw : ∀ j, In W j → In W' j) : Ext B W' A D a d := by
  refine ⟨Env.le_trans h.le k.le, fun j hj => (k.keep j hj).trans (h.keep j (fun x => hj (hw j x))), fun j b X hj he => ?_, h.below.trans k.below⟩
  have h1 : ¬ In W j := fun x => hj (hw j x)
  exact (k.block j b X hj ((h.keep j h1).trans he)).trans (h.block j b X h1 he)
theorem Ext.more {B W W' : Nat} {A C : Env} {a c : World} (h : Ext B W A C a c) (hw : ∀ j, In W j → In W' j) : Ext B W' A C a c :=
  ⟨h.le, fun j hj => h.keep j (fun x => hj (hw j x)), fun j b X hj => h.block j b X (fun x => hj (hw j x)), h.below⟩

end Ev
end Go.Proofs.YtbjllaknnpbkkaaGreatDoor
