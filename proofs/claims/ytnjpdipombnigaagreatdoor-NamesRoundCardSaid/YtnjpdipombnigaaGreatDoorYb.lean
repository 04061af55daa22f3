/-
  The evaluator: laws of the tries, of the marks; what an abstract value stands for; when a world has the facts of a state.
  The evaluator: reading, writing, making blocks, under the facts of a state.
  The evaluator: operands; operations that touch no block.
-/
import Derived.Test.YtnjpdipombnigaaGreatDoorYa
import Derived.CallsIn
import Derived.OrdersIn
import Derived.Below
import Derived.Laws.CopyRow
import Derived.Laws.Cells
import Derived.RangeFuncLeaves
import Derived.RangeFuncRecord
import Derived.RangeFuncIn
import Derived.Lib.ItoaNum
import Derived.Laws.StructEq
import Derived.Laws.Concat
import Derived.Laws.Strings
import Derived.Laws.Entries
namespace Go.Proofs.YtnjpdipombnigaaGreatDoor
namespace Ev
open Go.RowKit

def opVal (op : BinOp) (k : IntKind) (x y : Int) : Int := match op with
  | .add => k.wrap (x + y)
  | .sub => k.wrap (x - y)
  | .mul => k.wrap (x * y)
  | .and => k.wrap (BitVec.ofInt k.bits x &&& BitVec.ofInt k.bits y).toNat
  | .or => k.wrap (BitVec.ofInt k.bits x ||| BitVec.ofInt k.bits y).toNat
  | .xor => k.wrap (BitVec.ofInt k.bits x ^^^ BitVec.ofInt k.bits y).toNat
  | .andNot => k.wrap (BitVec.ofInt k.bits x &&& ~~~ BitVec.ofInt k.bits y).toNat
  | .quo => k.wrap (x.tdiv y)
  | .rem => x.tmod y
  | .shl => k.wrap (x * 2 ^ (min y.toNat k.bits))
  | .shr => x.fdiv (2 ^ (min y.toNat k.bits))
  | _ => 0
/-- The mark of n like bytes. -/
def markV (p : Int) : Nat → Int
  | 0 => 0
  | k + 1 => (31 * markV p k + p) % 1000003
theorem markV_range (p : Int) (k : Nat) : 0 ≤ markV p k ∧ markV p k ≤ 1000002 := by
  cases k with
  | zero => simp [markV]
  | succ k => simp only [markV]; omega
/-- Functions that stand in expressions. -/
def fnVal (k : Nat) (x y : Int) : Int := match k with
  | 0 => markV x y.toNat
  | 1 => ((32 + x.toNat % 95 : Nat) : Int)
  | 2 => ((x.toNat % 4294967296 : Nat) : Int)
  | 3 => ((x.toNat % 256 : Nat) : Int)
  | _ => 0
/-- A sum of multiples. -/
def linV (ρ : Nat → Int) : List (Nat × Int) → Int
  | [] => 0
  | p :: r => p.2 * ρ p.1 + linV ρ r
def SE.val (ρ : Nat → Int) : SE → Int
  | .var i => ρ i
  | .lit n => n
  | .wrap k a => k.wrap (a.val ρ)
  | .bin op k a b => opVal op k (a.val ρ) (b.val ρ)
  | .fn k a b => fnVal k (a.val ρ) (b.val ρ)
  | .lin n l => n + linV ρ l
/-- What is taken for decided is so. -/
structure OrcOk (O : Orc) (ρ : Nat → Int) : Prop where
  eq : ∀ a b q, O.eq a b = some q → q = decide (a.val ρ = b.val ρ)
  lt : ∀ a b q, O.lt a b = some q → q = decide (a.val ρ < b.val ρ)
  small : ∀ e, O.small e = true → -1000000000000000000 ≤ e.val ρ ∧ e.val ρ ≤ 20000000000000000000
  wrap : ∀ k e, (O.wrap k e).val ρ = k.wrap (e.val ρ)
  bin : ∀ op k a b, (O.bin op k a b).val ρ = opVal op k (a.val ρ) (b.val ρ)
theorem noOrc_ok (ρ : Nat → Int) : OrcOk noOrc ρ := by
  refine ⟨?_, ?_, ?_, fun _ _ => rfl, fun _ _ _ _ => rfl⟩
  · intro a b q h; cases h
  · intro a b q h; cases h
  · intro e h; cases h

section tries
variable {α : Type}
theorem force_eq {γ : Type} (n : Nat) (k : Nat → γ) : force n k = k n := by cases n <;> rfl
theorem pick_same {β : Type} (n : N β) (f : β → β) (d : Nat) (hd : d < 8) : (pick d).get ((pick d).set n f) = f ((pick d).get n) := by
  obtain ⟨c0, c1, c2, c3, c4, c5, c6, c7⟩ := n
  have hd' : d = 0 ∨ d = 1 ∨ d = 2 ∨ d = 3 ∨ d = 4 ∨ d = 5 ∨ d = 6 ∨ d = 7 := by omega
  rcases hd' with rfl | rfl | rfl | rfl | rfl | rfl | rfl | rfl <;> rfl
theorem pick_ne {β : Type} (n : N β) (f : β → β) (d e : Nat) (hd : d < 8) (he : e < 8) (hne : d ≠ e) : (pick d).get ((pick e).set n f) = (pick d).get n := by
  obtain ⟨c0, c1, c2, c3, c4, c5, c6, c7⟩ := n
  have hd' : d = 0 ∨ d = 1 ∨ d = 2 ∨ d = 3 ∨ d = 4 ∨ d = 5 ∨ d = 6 ∨ d = 7 := by omega
  have he' : e = 0 ∨ e = 1 ∨ e = 2 ∨ e = 3 ∨ e = 4 ∨ e = 5 ∨ e = 6 ∨ e = 7 := by omega
  rcases hd' with rfl | rfl | rfl | rfl | rfl | rfl | rfl | rfl <;> rcases he' with rfl | rfl | rfl | rfl | rfl | rfl | rfl | rfl <;> first | rfl | exact absurd rfl hne
theorem pick_all {β : Type} (x : β) (d : Nat) (hd : d < 8) : (pick d).get (all8 x) = x := by
  have hd' : d = 0 ∨ d = 1 ∨ d = 2 ∨ d = 3 ∨ d = 4 ∨ d = 5 ∨ d = 6 ∨ d = 7 := by omega
  rcases hd' with rfl | rfl | rfl | rfl | rfl | rfl | rfl | rfl <;> rfl
theorem pick_by {β γ : Type} (d : Nat) (k : (N β → β) → (N β → (β → β) → N β) → γ) : (pick d).by k = k (pick d).get (pick d).set := by
  generalize pick d = p
  cases p
  rfl
theorem pathLo_eq (k : Nat) : pathLo α k = .mk (fun t => T.rec (motive := fun _ => Option α) (fun lo _ => (pick (k % 8)).get ((pick (k / 8 % 8)).get lo)) t)
    (fun t x => T.rec (motive := fun _ => T α) (fun lo hi => .mk ((pick (k / 8 % 8)).set lo fun t => (pick (k % 8)).set t fun _ => x) hi) t) := by
  unfold pathLo
  simp only [force_eq, pick_by]
  rfl
theorem pathHi_eq (k : Nat) : pathHi α k = .mk (fun t => T.rec (motive := fun _ => Option α) (fun _ hi => (pick (k % 8)).get ((pick (k / 8 % 8)).get ((pick (k / 64 % 8)).get ((pick (k / 512 % 8)).get ((pick (k / 4096 % 8)).get ((pick (k / 32768 % 8)).get hi)))))) t)
    (fun t x => T.rec (motive := fun _ => T α) (fun lo hi => .mk lo ((pick (k / 32768 % 8)).set hi fun t => (pick (k / 4096 % 8)).set t fun t => (pick (k / 512 % 8)).set t fun t => (pick (k / 64 % 8)).set t fun t => (pick (k / 8 % 8)).set t fun t => (pick (k % 8)).set t fun _ => x)) t) := by
  unfold pathHi
  simp only [force_eq, pick_by]
  rfl
theorem bi_blt {γ : Type} (k n : Nat) (x y : γ) : bi (Nat.blt k n) x y = if k < n then x else y := by
  by_cases h : k < n
  · rw [if_pos h, show Nat.blt k n = true from by rw [Nat.blt_eq]; exact h]; rfl
  · rw [if_neg h]
    cases hb : Nat.blt k n with
    | false => rfl
    | true => rw [Nat.blt_eq] at hb; exact absurd hb h
theorem path_eq (k : Nat) : path α k = if k < 64 then pathLo α k else if k < 262144 then pathHi α k else .mk (fun _ => none) (fun t _ => t) := by
  show bi (Nat.blt k 64) (pathLo α k) (bi (Nat.blt k 262144) (pathHi α k) (.mk (fun _ => none) (fun t _ => t))) = _
  rw [bi_blt, bi_blt]
theorem T.get_e (k : Nat) : (T.e : T α).get k = none := by
  unfold T.get
  rw [path_eq]
  split
  · rw [pathLo_eq]
    show (pick (k % 8)).get ((pick (k / 8 % 8)).get (all8 (all8 none))) = none
    rw [pick_all _ _ (by omega), pick_all _ _ (by omega)]
  · split
    · rw [pathHi_eq]
      show (pick (k % 8)).get ((pick (k / 8 % 8)).get ((pick (k / 64 % 8)).get ((pick (k / 512 % 8)).get ((pick (k / 4096 % 8)).get ((pick (k / 32768 % 8)).get (all8 (all8 (all8 (all8 (all8 (all8 none))))))))))) = none
      rw [pick_all _ _ (by omega), pick_all _ _ (by omega), pick_all _ _ (by omega), pick_all _ _ (by omega), pick_all _ _ (by omega), pick_all _ _ (by omega)]
    · rfl
theorem T.force_eq {β : Type} (t : T α) (k : T α → β) : t.force k = k t := by cases t; rfl
theorem T.put_ne (t : T α) (k j : Nat) (x : Option α) (hne : j ≠ k) : (t.put k x).get j = t.get j := by
  unfold T.put T.get
  obtain ⟨lo, hi⟩ := t
  rw [path_eq, path_eq]
  by_cases hk : k < 64
  · rw [if_pos hk, pathLo_eq]
    by_cases hj : j < 64
    · rw [if_pos hj, pathLo_eq]
      simp only
      by_cases h1 : j / 8 % 8 = k / 8 % 8
      · rw [h1, pick_same _ _ _ (by omega), pick_ne _ _ _ _ (by omega) (by omega) (by omega)]
      · rw [pick_ne _ _ _ _ (by omega) (by omega) h1]
    · rw [if_neg hj]
      split
      · rw [pathHi_eq]
      · rfl
  · rw [if_neg hk]
    by_cases hk2 : k < 262144
    · rw [if_pos hk2, pathHi_eq]
      by_cases hj : j < 64
      · rw [if_pos hj, pathLo_eq]
      · rw [if_neg hj]
        by_cases hj2 : j < 262144
        · rw [if_pos hj2, pathHi_eq]
          simp only
          by_cases h5 : j / 32768 % 8 = k / 32768 % 8
          · rw [h5, pick_same _ _ _ (by omega)]
            by_cases h4 : j / 4096 % 8 = k / 4096 % 8
            · rw [h4, pick_same _ _ _ (by omega)]
              by_cases h3 : j / 512 % 8 = k / 512 % 8
              · rw [h3, pick_same _ _ _ (by omega)]
                by_cases h2 : j / 64 % 8 = k / 64 % 8
                · rw [h2, pick_same _ _ _ (by omega)]
                  by_cases h1 : j / 8 % 8 = k / 8 % 8
                  · rw [h1, pick_same _ _ _ (by omega), pick_ne _ _ _ _ (by omega) (by omega) (by omega)]
                  · rw [pick_ne _ _ _ _ (by omega) (by omega) h1]
                · rw [pick_ne _ _ _ _ (by omega) (by omega) h2]
              · rw [pick_ne _ _ _ _ (by omega) (by omega) h3]
            · rw [pick_ne _ _ _ _ (by omega) (by omega) h4]
          · rw [pick_ne _ _ _ _ (by omega) (by omega) h5]
        · rw [if_neg hj2]
    · rw [if_neg hk2]
theorem T.put_eq (t : T α) (k : Nat) (x : Option α) : (t.put k x).get k = x ∨ (t.put k x).get k = none := by
  unfold T.put T.get
  obtain ⟨lo, hi⟩ := t
  rw [path_eq]
  by_cases hk : k < 64
  · left
    rw [if_pos hk, pathLo_eq]
    simp only
    rw [pick_same _ _ _ (by omega), pick_same _ _ _ (by omega)]
  · rw [if_neg hk]
    by_cases hk2 : k < 262144
    · left
      rw [if_pos hk2, pathHi_eq]
      simp only
      rw [pick_same _ _ _ (by omega), pick_same _ _ _ (by omega), pick_same _ _ _ (by omega), pick_same _ _ _ (by omega), pick_same _ _ _ (by omega), pick_same _ _ _ (by omega)]
    · right
      rw [if_neg hk2]
theorem T.put_some {t : T α} {k j : Nat} {x : Option α} {y : α} (h : (t.put k x).get j = some y) : (j = k ∧ x = some y) ∨ (j ≠ k ∧ t.get j = some y) := by
  by_cases hj : j = k
  · subst hj
    rcases t.put_eq j x with h' | h' <;> rw [h'] at h
    · exact .inl ⟨rfl, h⟩
    · cases h
  · exact .inr ⟨hj, by rw [← t.put_ne k j x hj]; exact h⟩
end tries

theorem oc_some {α β : Type} {x : Option α} {k : α → Option β} {r : β} (h : oc x k = some r) : ∃ a, x = some a ∧ k a = some r := by
  cases x with
  | none => cases h
  | some a => exact ⟨a, rfl, h⟩
theorem oc2_some {α β γ : Type} {x : Option (α × β)} {k : α → β → Option γ} {r : γ} (h : oc2 x k = some r) : ∃ a b, x = some (a, b) ∧ k a b = some r := by
  cases x with
  | none => cases h
  | some p => exact ⟨p.1, p.2, rfl, h⟩
theorem bc_some {β : Type} {b : Bool} {k : Option β} {r : β} (h : bc b k = some r) : b = true ∧ k = some r := by
  cases b with
  | false => cases h
  | true => exact ⟨rfl, h⟩
theorem bi_true {β : Type} (x y : β) : bi true x y = x := rfl
theorem bi_false {β : Type} (x y : β) : bi false x y = y := rfl
theorem St.force_eq {α : Type} (s : St) (k : St → α) : s.force k = k s := by
  obtain ⟨c, h, l, w, o⟩ := s
  simp only [St.force, Ev.force_eq, T.force_eq]

/-- The bits of a mark. -/
def In (m j : Nat) : Prop := m.testBit j = true
theorem in_bit (i j : Nat) : In (bit i) j ↔ i = j := by
  have : bit i = 2 ^ i := by show 1 <<< i = _; simp [Nat.shiftLeft_eq]
  unfold In
  rw [this, Nat.testBit_two_pow]
  simp
theorem in_lor (a b j : Nat) : In (Nat.lor a b) j ↔ In a j ∨ In b j := by
  show (a ||| b).testBit j = true ↔ _
  rw [Nat.testBit_or]
  simp [In]
theorem not_in_zero (j : Nat) : ¬ In 0 j := by simp [In]

/-- From a state to a later one: marks grow; what isn't marked as written is as it was. -/
structure Step (s s' : St) : Prop where
  l : ∀ j, In s.l j → In s'.l j
  w : ∀ j, In s.w j → In s'.w j
  wl : (∀ j, In s.w j → In s.l j) → ∀ j, In s'.w j → In s'.l j
  h : ∀ j, ¬ In s'.w j → s'.h.get j = s.h.get j
  o : s'.o = s.o

theorem Step.refl (s : St) : Step s s := ⟨fun _ h => h, fun _ h => h, fun h => h, fun _ _ => rfl, rfl⟩
theorem Step.trans {a b c : St} (h : Step a b) (k : Step b c) : Step a c :=
  ⟨fun j x => k.l j (h.l j x), fun j x => k.w j (h.w j x), fun x => k.wl (h.wl x), fun j x => (k.h j x).trans (h.h j (fun y => x (k.w j y))), k.o.trans h.o⟩
theorem Step.see (s : St) (i : Nat) : Step s (s.see i) :=
  ⟨fun j x => (in_lor _ _ _).2 (.inl x), fun j x => x, fun x j y => (in_lor _ _ _).2 (.inl (x j y)), fun _ _ => rfl, rfl⟩
theorem Step.set (s : St) (i : Nat) (o : Option AObj) : Step s (s.set i o) := by
  refine ⟨fun j x => (in_lor _ _ _).2 (.inl x), fun j x => (in_lor _ _ _).2 (.inl x), fun x j y => ?_, fun j y => ?_, rfl⟩
  · exact (in_lor _ _ _).2 (((in_lor _ _ _).1 y).imp (x j) id)
  · exact T.put_ne _ _ _ _ (fun e => y ((in_lor _ _ _).2 (.inr ((in_bit _ _).2 e.symm))))
theorem Step.new (s : St) (o : AObj) : Step s (s.new o) := by
  refine ⟨fun j x => (in_lor _ _ _).2 (.inl x), fun j x => (in_lor _ _ _).2 (.inl x), fun x j y => ?_, fun j y => ?_, rfl⟩
  · exact (in_lor _ _ _).2 (((in_lor _ _ _).1 y).imp (x j) id)
  · exact T.put_ne _ _ _ _ (fun e => y ((in_lor _ _ _).2 (.inr ((in_bit _ _).2 e.symm))))

/-- What an id stands for. -/
inductive Slot where
  | unborn
  | live (b C : Nat)
  | dead
def Slot.at : Slot → Nat → Prop
  | .unborn, _ => False
  | .live b _, b' => b' = b
  | .dead, _ => True
/-- A row that came in: its block, and where in it the row begins. -/
def Slot.row : Slot → Nat → Nat → Prop
  | .unborn, _, _ => False
  | .live b C, b', C' => b' = b ∧ C' = C
  | .dead, _, _ => True
def Slot.le : Slot → Slot → Prop
  | .unborn, _ => True
  | .live b C, .live b' C' => b = b' ∧ C = C'
  | .live _ _, .dead => True
  | .live _ _, .unborn => False
  | .dead, .dead => True
  | .dead, _ => False
theorem Slot.le_refl (x : Slot) : x.le x := by cases x <;> simp [Slot.le]
theorem Slot.le_trans {x y z : Slot} (h : x.le y) (k : y.le z) : x.le z := by
  cases x <;> cases y <;> cases z <;> simp_all [Slot.le]
theorem Slot.at_le {x y : Slot} {b : Nat} (h : x.le y) (k : x.at b) : y.at b := by
  cases x <;> cases y <;> simp_all [Slot.le, Slot.at]
theorem Slot.row_le {x y : Slot} {b C : Nat} (h : x.le y) (k : x.row b C) : y.row b C := by
  cases x <;> cases y <;> simp_all [Slot.le, Slot.row]
/-- A map's numbers, as they are told, and those of the world: below n they may be any; from n on they run side by side. -/
structure Stamps where
  n : Nat
  k : Nat
  f : Nat → Nat
  lt : ∀ i, i < n → f i < k
  up : ∀ j, f (n + j) = k + j
  inj : ∀ i j, f i = f j → i = j
theorem Stamps.lt_iff (S : Stamps) {a b : Nat} (h : S.n ≤ b) : S.f a < S.f b ↔ a < b := by
  obtain ⟨j, rfl⟩ := Nat.exists_eq_add_of_le h
  rw [S.up]
  by_cases ha : a < S.n
  · have := S.lt a ha; constructor <;> intro _ <;> omega
  · obtain ⟨i, rfl⟩ := Nat.exists_eq_add_of_le (Nat.le_of_not_lt ha)
    rw [S.up]; omega
theorem Stamps.succ (S : Stamps) {a : Nat} (h : S.n ≤ a) : S.f (a + 1) = S.f a + 1 := by
  obtain ⟨j, rfl⟩ := Nat.exists_eq_add_of_le h
  rw [S.up, Nat.add_assoc, S.up]; omega
def Stamps.same : Stamps := ⟨0, 0, fun i => i, fun i h => absurd h (Nat.not_lt_zero i), fun j => rfl, fun _ _ h => h⟩
/-- Data: a cell as it stands; a slice of n elements, by its cells; a map of n entries. -/
inductive D where
  | v (x : Value)
  | sl (n : Nat) (l : List D)
  | mp (n : Nat) (f : Value → Option (List D))
  deriving Inhabited
/-- Cells without a block. -/
def Value.flatB : Value → Bool
  | .bool _ => true
  | .int _ _ => true
  | .string _ => true
  | .pointer none => true
  | .slice none 0 0 => true
  | .map none => true
  | .nilFunc => true
  | .nilIface => true
  | _ => false
mutual
/-- A value reads as data, in blocks that are kept. -/
inductive Repr (K : Nat → Prop) (hp : Nat → Option Obj) : D → Value → Prop
  | v {x : Value} (h : Value.flatB x = true) : Repr K hp (.v x) x
  | nil : Repr K hp (.sl 0 []) (.slice none 0 0)
  | sl {n z b off cap : Nat} {l : List D} {us : List Value} {c : Array Value} {e : TypeId} {f : Nat × Nat} (hb : K b) (hh : hp b = some (.cells c e f)) (hn : us.length = n * z) (hc : n ≤ cap) (hu : ∀ j u, us[j]? = some u → c[off + j]? = some u) (hx : ReprL K hp l us) : Repr K hp (.sl n l) (.slice (some ⟨b, off, none⟩) n cap)
  | mp {n b clock : Nat} {f : Value → Option (List D)} {es : Array MapEntry} {g : MapEntry → List D} (hb : K b) (hh : hp b = some (.map es clock)) (hn : es.size = n) (hd : (es.toList.map MapEntry.key).Nodup) (hf : ∀ e ∈ es.toList, f e.key = some (g e)) (ho : ∀ k, f k ≠ none → ∃ e ∈ es.toList, e.key = k) (hk : ∀ e ∈ es.toList, Value.flatB e.key = true) (hx : ∀ e ∈ es.toList, ReprL K hp (g e) e.val.cells.toList) : Repr K hp (.mp n f) (.map (some b))
inductive ReprL (K : Nat → Prop) (hp : Nat → Option Obj) : List D → List Value → Prop
  | nil : ReprL K hp [] []
  | cons {d : D} {u : Value} {l : List D} {us : List Value} (h : Repr K hp d u) (t : ReprL K hp l us) : ReprL K hp (d :: l) (u :: us)
end
mutual
theorem Repr.mono {K K' : Nat → Prop} {hp hp' : Nat → Option Obj} (hK : ∀ b, K b → K' b) (hh : ∀ b, K b → hp' b = hp b) : ∀ {d : D} {u : Value}, Repr K hp d u → Repr K' hp' d u
  | _, _, .v h => .v h
  | _, _, .nil => .nil
  | _, _, .sl hb h1 h2 h3 h4 h5 => .sl (hK _ hb) ((hh _ hb).trans h1) h2 h3 h4 (ReprL.mono hK hh h5)
  | _, _, .mp hb h1 h2 h3 h4 h5 h6 h7 => .mp (hK _ hb) ((hh _ hb).trans h1) h2 h3 h4 h5 h6 fun e he => ReprL.mono hK hh (h7 e he)
theorem ReprL.mono {K K' : Nat → Prop} {hp hp' : Nat → Option Obj} (hK : ∀ b, K b → K' b) (hh : ∀ b, K b → hp' b = hp b) : ∀ {l : List D} {us : List Value}, ReprL K hp l us → ReprL K' hp' l us
  | _, _, .nil => .nil
  | _, _, .cons h t => .cons (Repr.mono hK hh h) (ReprL.mono hK hh t)
end
/-- The address of a cell of an element of a slice that is kept. -/
def OPtr (K : Nat → Prop) (hp : Nat → Option Obj) (d : D) (iv : Int) (o : Nat) (p : Addr) : Prop :=
  ∃ n z l us b off c e f N, d = .sl n l ∧ K b ∧ hp b = some (.cells c e f) ∧ us.length = n * z ∧ (∀ j u, us[j]? = some u → c[off + j]? = some u) ∧ ReprL K hp l us ∧ iv = ((N : Nat) : Int) ∧ N < n ∧ o < z ∧ p = ⟨b, off + N * z + o, none⟩
theorem OPtr.mono {K K' : Nat → Prop} {hp hp' : Nat → Option Obj} (hK : ∀ b, K b → K' b) (hh : ∀ b, K b → hp' b = hp b) {d : D} {iv : Int} {o : Nat} {p : Addr} (h : OPtr K hp d iv o p) : OPtr K' hp' d iv o p := by
  obtain ⟨n, z, l, us, b, off, c, e, f, N, h1, h2, h3, h4, h5, h6, h7, h8, h9, h10⟩ := h
  exact ⟨n, z, l, us, b, off, c, e, f, N, h1, hK _ h2, (hh _ h2).trans h3, h4, h5, h6.mono hK hh, h7, h8, h9, h10⟩
/-- What the ids stand for; what came in; the orders of maps; the data; the blocks that are kept, and what they hold. -/
structure Env where
  slot : Nat → Slot
  ρ : Nat → Int
  st : Nat → Stamps
  δ : Nat → D
  K : Nat → Prop
  hp : Nat → Option Obj
instance : CoeFun Env (fun _ => Nat → Slot) := ⟨Env.slot⟩
structure Env.le (E E' : Env) : Prop where
  s : ∀ i, (E i).le (E' i)
  ρ : E'.ρ = E.ρ
  st : ∀ t, E t = .dead → E'.st t = E.st t
  δ : E'.δ = E.δ
  K : ∀ b, E.K b → E'.K b
  hp : ∀ b, E.K b → E'.hp b = E.hp b
instance {E E' : Env} : CoeFun (E.le E') (fun _ => ∀ i, (E i).le (E' i)) := ⟨Env.le.s⟩
theorem Env.le_refl (E : Env) : E.le E := ⟨fun _ => Slot.le_refl _, rfl, fun _ _ => rfl, rfl, fun _ h => h, fun _ _ => rfl⟩
theorem Slot.le_dead {x y : Slot} (h : x.le y) (k : x = .dead) : y = .dead := by subst k; cases y <;> first | exact h.elim | rfl
theorem Env.le_trans {A B C : Env} (h : A.le B) (k : B.le C) : A.le C := ⟨fun i => Slot.le_trans (h i) (k i), k.ρ.trans h.ρ, fun t ht => (k.st t (Slot.le_dead (h t) ht)).trans (h.st t ht), k.δ.trans h.δ, fun b hb => k.K b (h.K b hb), fun b hb => (k.hp b (h.K b hb)).trans (h.hp b hb)⟩

/-- A slice's capacity. -/
def capOk (x : Slot) (cap : Option Nat) (dr len c : Nat) : Prop :=
  match cap with
  | some c' => c = c'
  | none => len ≤ c ∧ match x with
    | .unborn => False
    | .live _ C => c = C - dr
    | .dead => True
theorem capOk_le {x y : Slot} {cap : Option Nat} {dr len c : Nat} (h : x.le y) (k : capOk x cap dr len c) : capOk y cap dr len c := by
  cases cap <;> cases x <;> cases y <;> simp_all [Slot.le, capOk] <;> omega

/-- A text in pieces. -/
def Pc.val (ρ : Nat → Int) : Pc → List UInt8
  | .lit l => l
  | .dec e => (Lib.itoa (e.val ρ)).take 32
  | .byt e => [UInt8.ofNat (e.val ρ).toNat]
  | .opq b n m => (List.range (min (n.val ρ).toNat m)).map fun j => UInt8.ofNat (ρ (b + j)).toNat
def psVal (ρ : Nat → Int) : List Pc → List UInt8
  | [] => []
  | p :: r => p.val ρ ++ psVal ρ r
theorem byteE_val (ρ : Nat → Int) (e : SE) : (byteE e).val ρ = ((UInt8.ofNat (e.val ρ).toNat).toNat : Int) := by
  have key : ∀ x : Int, fnVal 3 x 0 = ((UInt8.ofNat x.toNat).toNat : Int) := fun x => by
    show ((x.toNat % 256 : Nat) : Int) = _
    rw [UInt8.toNat_ofNat']
  cases e <;> first | exact key _ | skip
  rename_i k a b
  show (bi (Nat.beq k 1) (SE.fn 1 a b) (.fn 3 (.fn k a b) (.lit 0))).val ρ = _
  cases hk : Nat.beq k 1 with
  | false => exact key _
  | true =>
    have hk : k = 1 := by simpa using hk
    subst hk
    show ((32 + (a.val ρ).toNat % 95 : Nat) : Int) = ((UInt8.ofNat ((32 + (a.val ρ).toNat % 95 : Nat) : Int).toNat).toNat : Int)
    rw [UInt8.toNat_ofNat', Int.toNat_natCast, Nat.mod_eq_of_lt (a := 32 + (a.val ρ).toNat % 95) (by omega)]
def bytesV (l : List UInt8) : List Value := l.map fun b => Value.int .u8 b.toNat

mutual
inductive Rel (E : Env) : AV → Value → Prop
  | bool (b : Bool) : Rel E (.bool b) (.bool b)
  | int (k : IntKind) (n : Int) : Rel E (.int k n) (.int k n)
  | sint (k : IntKind) (e : SE) : Rel E (.sint k e) (.int k (e.val E.ρ))
  | str (s : List UInt8) : Rel E (.str s) (.string ⟨s.toArray⟩)
  | nilptr : Rel E .nilptr (.pointer none)
  | ptr {i off b : Nat} (h : (E i).at b) : Rel E (.ptr i off) (.pointer (some ⟨b, off, none⟩))
  | nilslice : Rel E .nilslice (.slice none 0 0)
  | slice {i off len dr b c : Nat} {cap : Option Nat} (h : (E i).at b) (hc : capOk (E i) cap dr len c) : Rel E (.slice i off len cap dr) (.slice (some ⟨b, off, none⟩) len c)
  | eslice {a : Addr} {c : Nat} : Rel E .eslice (.slice (some a) 0 c)
  | nilmap : Rel E .nilmap (.map none)
  | map {i b : Nat} (h : (E i).at b) : Rel E (.map i) (.map (some b))
  | func {f : FuncId} {p q : List AV} {p' q' : Array Value} (hp : RelL E p p'.toList) (hq : RelL E q q'.toList) : Rel E (.func f p q) (.func (.func f) p' q')
  | nilFunc : Rel E .nilFunc .nilFunc
  | yield {i b : Nat} (h : (E i).at b) : Rel E (.yield i) (.func (.yield b) #[] #[])
  | iface {t : TypeId} {v : AV} {v' : Value} (h : Rel E v v') : Rel E (.iface t v) (.iface t v')
  | nilIface : Rel E .nilIface .nilIface
  | agg {l : List AV} {a : Array Value} (h : RelL E l a.toList) : Rel E (.agg l) (.agg a)
  | tuple {l : List AV} {a : Array Value} (h : RelL E l a.toList) : Rel E (.tuple l) (.tuple a)
  | pstr (ps : List Pc) : Rel E (.pstr ps) (.string ⟨(psVal E.ρ ps).toArray⟩)
  | plen (ps : List Pc) : Rel E (.plen ps) (.int .i64 ((psVal E.ρ ps).length : Nat))
  | bslice {i b c : Nat} {ps : List Pc} (h : (E i).at b) (hc : capOk (E i) none 0 (psVal E.ρ ps).length c) : Rel E (.bslice i ps) (.slice (some ⟨b, 0, none⟩) (psVal E.ρ ps).length c)
  | fslice {i b : Nat} {n : SE} (h : (E i).at b) : Rel E (.fslice i n) (.slice (some ⟨b, 0, none⟩) (n.val E.ρ).toNat (n.val E.ρ).toNat)
  | aptr {i off b C : Nat} (h : (E i).row b C) : Rel E (.aptr i off) (.pointer (some ⟨b, C + off, none⟩))
  | oslice {n : SE} {a : Option Addr} {k c : Nat} (h : n.val E.ρ = (k : Int)) : Rel E (.oslice n) (.slice a k c)
  | any {s : ByteArray} : Rel E .any (.string s)
  | pslice {k b o l c : Nat} (hb : E.ρ k = (b : Int)) (ho : E.ρ (k + 1) = (o : Int)) (hl : E.ρ (k + 2) = (l : Int)) (hc : l ≤ c) : Rel E (.pslice k) (.slice (some ⟨b, o, none⟩) l c)
  | pslice0 {k c : Nat} {a : Option Addr} (hl : E.ρ (k + 2) = 0) : Rel E (.pslice k) (.slice a 0 c)
  | opq {k : Nat} {v : Value} (h : Repr E.K E.hp (E.δ k) v) : Rel E (.opq k) v
  | psl0 : Rel E (.psl 0 []) (.slice none 0 0)
  | optr {k o : Nat} {i : SE} {p : Addr} (h : OPtr E.K E.hp (E.δ k) (i.val E.ρ) o p) : Rel E (.optr k i o) (.pointer (some p))
  | rsl {i b c N : Nat} {n : SE} (h : (E i).at b) (hn : n.val E.ρ = (N : Int)) (hc : capOk (E i) none 0 N c) : Rel E (.rsl i n) (.slice (some ⟨b, 0, none⟩) N c)
  | psl {n z b off cap : Nat} {l : List AV} {us : List Value} {c : Array Value} {e : TypeId} {f : Nat × Nat} (hb : E.K b) (hh : E.hp b = some (.cells c e f)) (hn : us.length = n * z) (hc : n ≤ cap) (hu : ∀ j u, us[j]? = some u → c[off + j]? = some u) (hx : RelL E l us) : Rel E (.psl n l) (.slice (some ⟨b, off, none⟩) n cap)
  | aslice {i off n b C c : Nat} (h : (E i).row b C) (hc : n ≤ c) : Rel E (.aslice i off n) (.slice (some ⟨b, C + off, none⟩) n c)
inductive RelL (E : Env) : List AV → List Value → Prop
  | nil : RelL E [] []
  | cons {x : AV} {y : Value} {l : List AV} {m : List Value} (h : Rel E x y) (t : RelL E l m) : RelL E (x :: l) (y :: m)
end

mutual
theorem Rel.mono {E E' : Env} (h : E.le E') : ∀ {x : AV} {y : Value}, Rel E x y → Rel E' x y
  | _, _, .bool b => .bool b
  | _, _, .int k n => .int k n
  | _, _, .sint k e => by rw [← h.ρ]; exact .sint k e
  | _, _, .str s => .str s
  | _, _, .nilptr => .nilptr
  | _, _, .ptr k => .ptr (Slot.at_le (h _) k)
  | _, _, .nilslice => .nilslice
  | _, _, .slice k c => .slice (Slot.at_le (h _) k) (capOk_le (h _) c)
  | _, _, .eslice => .eslice
  | _, _, .nilmap => .nilmap
  | _, _, .map k => .map (Slot.at_le (h _) k)
  | _, _, .func p q => .func (RelL.mono h p) (RelL.mono h q)
  | _, _, .nilFunc => .nilFunc
  | _, _, .yield k => .yield (Slot.at_le (h _) k)
  | _, _, .iface k => .iface (Rel.mono h k)
  | _, _, .nilIface => .nilIface
  | _, _, .agg k => .agg (RelL.mono h k)
  | _, _, .tuple k => .tuple (RelL.mono h k)
  | _, _, .pstr ps => by rw [← h.ρ]; exact .pstr ps
  | _, _, .plen ps => by rw [← h.ρ]; exact .plen ps
  | _, _, .bslice k c => by
    rw [← h.ρ] at c ⊢
    exact .bslice (Slot.at_le (h _) k) (capOk_le (h _) c)
  | _, _, .fslice k => by
    rw [← h.ρ]
    exact .fslice (Slot.at_le (h _) k)
  | _, _, .aptr k => .aptr (Slot.row_le (h _) k)
  | _, _, .aslice k c => .aslice (Slot.row_le (h _) k) c
  | _, _, .oslice k => .oslice (by rw [h.ρ]; exact k)
  | _, _, .any => .any
  | _, _, .pslice h1 h2 h3 h4 => .pslice (by rw [h.ρ]; exact h1) (by rw [h.ρ]; exact h2) (by rw [h.ρ]; exact h3) h4
  | _, _, .pslice0 h1 => .pslice0 (by rw [h.ρ]; exact h1)
  | _, _, .opq k => .opq (by rw [h.δ]; exact Repr.mono h.K h.hp k)
  | _, _, .psl0 => .psl0
  | _, _, .optr k => .optr (by rw [h.δ, h.ρ]; exact OPtr.mono h.K h.hp k)
  | _, _, .rsl k hn c => .rsl (Slot.at_le (h _) k) (by rw [h.ρ]; exact hn) (capOk_le (h _) c)
  | _, _, .psl hb h1 h2 h3 h4 h5 => .psl (h.K _ hb) ((h.hp _ hb).trans h1) h2 h3 h4 (RelL.mono h h5)
theorem RelL.mono {E E' : Env} (h : E.le E') : ∀ {x : List AV} {y : List Value}, RelL E x y → RelL E' x y
  | _, _, .nil => .nil
  | _, _, .cons k t => .cons (Rel.mono h k) (RelL.mono h t)
end

theorem RelL.length {E : Env} : ∀ {l : List AV} {m : List Value}, RelL E l m → l.length = m.length
  | _, _, .nil => rfl
  | _, _, .cons _ t => by simp [t.length]
theorem RelL.append {E : Env} : ∀ {l l' : List AV} {m m' : List Value}, RelL E l m → RelL E l' m' → RelL E (l ++ l') (m ++ m')
  | _, _, _, _, .nil, k => k
  | _, _, _, _, .cons h t, k => .cons h (t.append k)
theorem Repr.one {K : Nat → Prop} {hp : Nat → Option Obj} {d : D} {u : Value} (h : Repr K hp d u) : u.oneCell' = true ∧ u.cells.toList = [u] := by
  cases h with
  | v h => cases u <;> first | exact ⟨rfl, rfl⟩ | exact absurd h (by simp [Value.flatB])
  | nil => exact ⟨rfl, rfl⟩
  | sl => exact ⟨rfl, rfl⟩
  | mp => exact ⟨rfl, rfl⟩
theorem Rel.one {E : Env} {x : AV} {y : Value} (h : Rel E x y) : y.oneCell' = x.one := by
  cases h <;> first | rfl | skip
  rename_i k h
  exact h.one.1
theorem Rel.cells {E : Env} {x : AV} {y : Value} (h : Rel E x y) : RelL E x.cells y.cells.toList := by
  cases h <;> first | assumption | exact .cons (by constructor <;> assumption) .nil | skip
  rename_i k h
  rw [h.one.2]
  exact .cons (.opq h) .nil

/-- Temporaries. -/
def TRel (E : Env) (nt : Nat) (a : T AV) (tmps : Array Value) : Prop := tmps.size = nt ∧ ∀ t v, a.get t = some v → ∃ x, tmps[t]? = some x ∧ Rel E v x
theorem TRel.mono {E E' : Env} (h : E.le E') {nt : Nat} {a : T AV} {tmps : Array Value} (k : TRel E nt a tmps) : TRel E' nt a tmps :=
  ⟨k.1, fun t v ht => let ⟨x, hx, hr⟩ := k.2 t v ht; ⟨x, hx, hr.mono h⟩⟩

inductive RelE (E : Env) : List Ent → List MapEntry → Prop
  | nil : RelE E [] []
  | cons {x : Ent} {y : MapEntry} {l : List Ent} {m : List MapEntry} (hk : Rel E x.key y.key) (hv : Rel E x.val y.val) (hb : x.born = y.born) (t : RelE E l m) : RelE E (x :: l) (y :: m)
theorem RelE.mono {E E' : Env} (h : E.le E') : ∀ {x : List Ent} {y : List MapEntry}, RelE E x y → RelE E' x y
  | _, _, .nil => .nil
  | _, _, .cons k v b t => .cons (k.mono h) (v.mono h) b (t.mono h)

/-- A map's entries, under other numbers. -/
inductive RelS (E : Env) (S : Stamps) : List Ent → List MapEntry → Prop
  | nil : RelS E S [] []
  | cons {x : Ent} {y : MapEntry} {l : List Ent} {m : List MapEntry} (hk : Rel E x.key y.key) (hv : Rel E x.val y.val) (hb : y.born = S.f x.born) (t : RelS E S l m) : RelS E S (x :: l) (y :: m)
theorem RelS.mono {E E' : Env} {S : Stamps} (h : E.le E') : ∀ {x : List Ent} {y : List MapEntry}, RelS E S x y → RelS E' S x y
  | _, _, .nil => .nil
  | _, _, .cons k v b t => .cons (k.mono h) (v.mono h) b (t.mono h)
/-- A map of which no order is known. -/
structure AnyMap (E : Env) (es : List Ent) (K t : Nat) (a : Array MapEntry) : Prop where
  tag : E t = .dead
  le : (E.st t).n ≤ K
  lt : ∀ e ∈ es, e.born < K
  once : (es.map Ent.born).Nodup
  rel : ∃ l, l.Perm a.toList ∧ RelS E (E.st t) es l
theorem AnyMap.mono {E E' : Env} (h : E.le E') {es : List Ent} {K t : Nat} {a : Array MapEntry} (k : AnyMap E es K t a) : AnyMap E' es K t a := by
  have hst := h.st t k.tag
  obtain ⟨l, hp, hr⟩ := k.rel
  exact ⟨Slot.le_dead (h t) k.tag, by rw [hst]; exact k.le, k.lt, k.once, l, hp, by rw [hst]; exact hr.mono h⟩

/-- A block as an object says. -/
def OkObj (E : Env) (i : Nat) : AObj → Obj → Prop
  | .cells vs e fz none, o => ∃ c f, o = .cells c e f ∧ RelL E vs c.toList ∧ ∀ off, off < c.size → f.1 ≤ off → off < f.2 → fz.1 ≤ off ∧ off < fz.2
  | .cells vs e fz (some z), o => ∃ c f xs rest b C, o = .cells c e f ∧ c.toList = xs ++ rest ∧ RelL E vs xs ∧ E i = .live b C ∧ c.size = C * z ∧ ∀ off, off < c.size → f.1 ≤ off → off < f.2 → fz.1 ≤ off ∧ off < fz.2
  | .tab vs, o => ∃ c e f, o = .cells c e f ∧ RelL E vs c.toList
  | .part vs, o => ∃ c e f xs rest, o = .cells c e f ∧ c.toList = xs ++ rest ∧ RelL E vs xs
  | .map es clock, o => ∃ a, o = .map a clock ∧ RelE E es a.toList
  | .iter m since seen stepped, o => ∃ m', o = .mapIter m' since seen.toArray stepped ∧ (match m with | none => m' = none | some k => ∃ b, m' = some b ∧ (E k).at b)
  | .umap es K t, o => ∃ a, o = .map a ((E.st t).f K) ∧ AnyMap E es K t a
  | .uiter m since seen stepped t, o => ∃ b, o = .mapIter (some b) ((E.st t).f since) (seen.map (E.st t).f).toArray ((E.st t).f stepped) ∧ (E m).at b ∧ E t = .dead ∧ (E.st t).n ≤ since ∧ (E.st t).n ≤ stepped
  | .siter l pos, o => o = .stringIter ⟨l.toArray⟩ pos
  | .loop st pend nt a ps asg bo d, o => ∃ l : Loop, o = .loop l ∧ l.state = st ∧ l.pending = pend ∧ l.params.toList = ps ∧ l.assign = asg ∧ l.body = bo ∧ TRel E nt a l.tmps ∧ (E d).at l.defers
  | .defd b, o => o = .deferred (if b then some [] else none)
  | .buf ps e, o => ∃ c f rest b C, o = .cells c e f ∧ c.toList = bytesV (psVal E.ρ ps) ++ rest ∧ E i = .live b C ∧ c.size = C ∧ ∀ off, off < c.size → f.1 ≤ off → off < f.2 → False
  | .flat n v e, o => o = .cells (Array.replicate (n.val E.ρ).toNat (.int .u8 (v.val E.ρ))) e (0, 0)
  | .row vs, o => ∃ c e f b C xs rest, o = .cells c e f ∧ E i = .live b C ∧ c.toList.drop C = xs ++ rest ∧ RelL E vs xs
  | .acc k vs n e z, o => ∃ c f us0 us rest b C N l, o = .cells c e f ∧ c.toList = us0 ++ us ++ rest ∧ (∃ M, E.δ k = .sl M l ∧ l.length = M * z) ∧ ReprL E.K E.hp l us0 ∧ RelL E vs us ∧ E i = .live b C ∧ c.size = C * z ∧ n.val E.ρ = ((N : Nat) : Int) ∧ us0.length + us.length = N * z ∧ ∀ off, off < c.size → f.1 ≤ off → off < f.2 → False
def AObj.fixed : AObj → Bool
  | .tab _ => true
  | .flat _ _ _ => true
  | .row _ => true
  | _ => false
/-- As long as its own id lives on. -/
theorem OkObj.mono {E E' : Env} (h : E.le E') {i : Nat} {o : AObj} {ob : Obj} (hi : ∀ b C, E i = .live b C → E' i = .live b C) (k : OkObj E i o ob) : OkObj E' i o ob := by
  cases o with
  | cells vs e fz op =>
    cases op with
    | none => obtain ⟨c, f, rfl, hr, hf⟩ := k; exact ⟨c, f, rfl, hr.mono h, hf⟩
    | some z => obtain ⟨c, f, xs, rest, b, C, rfl, hx, hr, he, hs, hf⟩ := k; exact ⟨c, f, xs, rest, b, C, rfl, hx, hr.mono h, hi _ _ he, hs, hf⟩
  | tab vs => obtain ⟨c, e, f, rfl, hr⟩ := k; exact ⟨c, e, f, rfl, hr.mono h⟩
  | part vs => obtain ⟨c, e, f, xs, rest, rfl, hx, hr⟩ := k; exact ⟨c, e, f, xs, rest, rfl, hx, hr.mono h⟩
  | map es clock => obtain ⟨a, rfl, hr⟩ := k; exact ⟨a, rfl, hr.mono h⟩
  | iter m since seen stepped =>
    obtain ⟨m', rfl, hm⟩ := k
    refine ⟨m', rfl, ?_⟩
    cases m with
    | none => exact hm
    | some j => obtain ⟨b, hb, ha⟩ := hm; exact ⟨b, hb, Slot.at_le (h j) ha⟩
  | umap es K t =>
    obtain ⟨a, rfl, hr⟩ := k
    exact ⟨a, by rw [h.st t hr.tag], hr.mono h⟩
  | uiter m since seen stepped t =>
    obtain ⟨b, rfl, hm, ht, h1, h2⟩ := k
    have hst := h.st t ht
    exact ⟨b, by rw [hst], Slot.at_le (h m) hm, Slot.le_dead (h t) ht, by rw [hst]; exact h1, by rw [hst]; exact h2⟩
  | siter l pos => exact k
  | loop st pend nt a ps asg bo d => obtain ⟨l, h1, h2, h3, h4, h5, h6, h7, h8⟩ := k; exact ⟨l, h1, h2, h3, h4, h5, h6, h7.mono h, Slot.at_le (h d) h8⟩
  | defd b => exact k
  | buf ps e => obtain ⟨c, f, rest, b, C, rfl, hx, he, hs, hf⟩ := k; exact ⟨c, f, rest, b, C, rfl, by rw [h.ρ]; exact hx, hi _ _ he, hs, hf⟩
  | flat n v e => show _ = _; rw [h.ρ]; exact k
  | row vs => obtain ⟨c, e, f, b, C, xs, rest, rfl, he, hx, hr⟩ := k; exact ⟨c, e, f, b, C, xs, rest, rfl, hi _ _ he, hx, hr.mono h⟩
  | acc k vs n e z =>
    obtain ⟨c, f, us0, us, rest, b, C, N, l, rfl, hx, hd, hl, hr, he, hs, hn, hlen, hf⟩ := k
    exact ⟨c, f, us0, us, rest, b, C, N, l, rfl, hx, by rw [h.δ]; exact hd, hl.mono h.K h.hp, hr.mono h, hi _ _ he, hs, by rw [h.ρ]; exact hn, hlen, hf⟩

/-- Data alone: no ids. -/
def pureEnv (ρ : Nat → Int) (δ : Nat → D) (K : Nat → Prop) (hp : Nat → Option Obj) : Env := ⟨fun _ => .unborn, ρ, fun _ => Stamps.same, δ, K, hp⟩
/-- The operations that are told by data. -/
def OSem (k : Nat) (ts : List Nat) (vs : List Value) : Option (Sem Value) := match k, ts, vs with
  | 1, [t], [x] => some (Instr.loadAt t x)
  | 2, [t], [x, i] => some (Instr.indexAt t x i)
  | 3, [t], [x, i] => some (Instr.index t x i)
  | 4, [t], [x, i] => some (Instr.lookup t x i true)
  | 5, [t], [x, i] => some (Instr.lookup t x i false)
  | 6, [t], [x, lo, hi] => some (Instr.sliceAt t x (some lo) (some hi) none)
  | 7, [t], [x, lo] => some (Instr.sliceAt t x (some lo) none none)
  | 8, [t], [x, hi] => some (Instr.sliceAt t x none (some hi) none)
  | 9, [t], [x] => some (Builtin.len_ #[t] 0 #[x])
  | 10, [t, f], [x] => some (Instr.fieldAt t x f)
  | 20, [], [x] => some (pure x)
  | 21, [_], [x] => some (Op.unary .not x)
  | 22, [t], [x, y] => some (binOp .eql t x y)
  | 23, [t], [x, y] => some (binOp .neq t x y)
  | _, _, _ => none
/-- The operations that lay new blocks. -/
def ESem (k : Nat) (ts : List Nat) (vs : List Value) : Option (Sem Value) := match k, ts, vs with
  | 0, [a, b], [x] => some (convert a b x)
  | _, _, _ => none
/-- The tables are laid in the world. -/
def TabsIn (w : World) (tabs : List (Nat × List AV)) : Prop := ∀ g l, (g, l) ∈ tabs → g < 64 ∧ ∃ c e f, w.heap[g]? = some (.cells c e f) ∧ ∀ E : Env, RelL E l c.toList
/-- Rows of data behind each other are one. -/
def CatOk (ρ : Nat → Int) (δ : Nat → D) (ts : List Nat) (args : List AV) (res : AV) : Prop := match ts, res with
  | [z, b, k, j, c], .sint _ e => ∃ (n m N : Nat) (l ls l' : List D), ((b = 0 ∧ n = 0 ∧ l = []) ∨ (b = 1 ∧ δ k = .sl n l)) ∧ δ j = .sl m l' ∧ l'.length = m * z ∧ δ c = .sl N (l ++ (ls ++ l')) ∧ (l ++ (ls ++ l')).length = N * z ∧ e.val ρ = ((N : Nat) : Int) ∧
      ∀ (K : Nat → Prop) (hp : Nat → Option Obj) (us : List Value), RelL (pureEnv ρ δ K hp) args us → ReprL K hp ls us
  | _, _ => False
/-- What a call, or an operation, comes to is so, wherever its arguments stand for that data. -/
def DefOk (tabs : List (Nat × List AV)) (ρ : Nat → Int) (δ : Nat → D) (d : Def) : Prop := if d.f = catF then CatOk ρ δ d.ts d.args d.res else if d.f < opBase then
    ∀ (K : Nat → Prop) (w : World) (vs : Array Value), (∀ b, K b → b < w.heap.size) → TabsIn w tabs → RelL (pureEnv ρ δ K fun b => w.heap[b]?) d.args vs.toList →
      Calls theProg d.f vs w fun e w' => ∃ u, e = .returned u ∧ Below w.heap.size w w' ∧ Rel (pureEnv ρ δ (fun b => K b ∨ (w.heap.size ≤ b ∧ b < w'.heap.size)) fun b => w'.heap[b]?) d.res u
  else if effBase ≤ d.f then ∀ (K : Nat → Prop) (w : World) (vs : List Value), (∀ b, K b → b < w.heap.size) → RelL (pureEnv ρ δ K fun b => w.heap[b]?) d.args vs →
      ∃ m u w', ESem (d.f - effBase) d.ts vs = some m ∧ m.run theProg w = .ok u w' ∧ Below w.heap.size w w' ∧ Rel (pureEnv ρ δ (fun b => K b ∨ (w.heap.size ≤ b ∧ b < w'.heap.size)) fun b => w'.heap[b]?) d.res u
  else ∀ (K : Nat → Prop) (w : World) (vs : List Value), (∀ b, K b → b < w.heap.size) → RelL (pureEnv ρ δ K fun b => w.heap[b]?) d.args vs →
      ∃ m u, OSem (d.f - opBase) d.ts vs = some m ∧ m.run theProg w = .ok u w ∧ Rel (pureEnv ρ δ K fun b => w.heap[b]?) d.res u

/-- The world has the facts of a state, on the ids of G; B: the blocks below are none of the state's own; nor are those that are kept. -/
structure Sat (G : Nat → Prop) (B : Nat) (E : Env) (s : St) (w : World) : Prop where
  inj : ∀ i j b C D, B ≤ b → E i = .live b C → E j = .live b D → i = j
  lt : ∀ i b C, E i = .live b C → b < w.heap.size
  base : B ≤ w.heap.size
  glob : ∀ g, g < 64 → (E g).at g
  fresh : ∀ i, s.c ≤ i → G i → E i = .unborn
  fact : ∀ i o, G i → s.h.get i = some o → ∃ b C ob, E i = .live b C ∧ w.heap[b]? = some ob ∧ OkObj E i o ob ∧ (o.fixed = true ∨ B ≤ b)
  orc : OrcOk s.o E.ρ
  prot : ∀ b, E.K b → b < w.heap.size ∧ w.heap[b]? = E.hp b ∧ ∀ j C, E j = .live b C → b < B
  defs : ∀ d ∈ s.o.defs, DefOk s.o.tabs E.ρ E.δ d

/-- From a world to a later one. -/
structure Ext (B W : Nat) (E E' : Env) (w w' : World) : Prop where
  le : E.le E'
  keep : ∀ j, ¬ In W j → E' j = E j
  block : ∀ j b C, ¬ In W j → E j = .live b C → w'.heap[b]? = w.heap[b]?
  below : Below B w w'
  free : ∀ b, b < w.heap.size → (∀ j C, E j = .live b C → b < B) → w'.heap[b]? = w.heap[b]?
  liv : ∀ j b C, E' j = .live b C → (∃ i X, E i = .live b X) ∨ w.heap.size ≤ b ∨ b < B
  kn : ∀ b, E'.K b → E.K b ∨ B ≤ b
theorem Ext.refl (B W : Nat) (E : Env) (w : World) : Ext B W E E w w := ⟨E.le_refl, fun _ _ => rfl, fun _ _ _ _ _ => rfl, Below.refl _ _, fun _ _ _ => rfl, fun j b C h => .inl ⟨j, C, h⟩, fun _ h => .inl h⟩
theorem Ext.trans {B W W' : Nat} {A C D : Env} {a c d : World} (h : Ext B W A C a c) (k : Ext B W' C D c d) (hw : ∀ j, In W j → In W' j) : Ext B W' A D a d := by
  have hsz : a.heap.size ≤ c.heap.size := h.below.size
  refine ⟨Env.le_trans h.le k.le, fun j hj => (k.keep j hj).trans (h.keep j (fun x => hj (hw j x))), fun j b X hj he => ?_, h.below.trans k.below, fun b hb hn => ?_, fun j b X he => ?_, fun b hb => ?_⟩
  · have h1 : ¬ In W j := fun x => hj (hw j x)
    exact (k.block j b X hj ((h.keep j h1).trans he)).trans (h.block j b X h1 he)
  · refine (k.free b (Nat.lt_of_lt_of_le hb hsz) fun j X he => ?_).trans (h.free b hb hn)
    rcases h.liv j b X he with ⟨i, Y, hi⟩ | h1 | h1
    · exact hn i Y hi
    · exact absurd hb (Nat.not_lt.2 h1)
    · exact h1
  · rcases k.liv j b X he with ⟨i, Y, hi⟩ | h1 | h1
    · exact h.liv i b Y hi
    · exact .inr (.inl (Nat.le_trans hsz h1))
    · exact .inr (.inr h1)
  · rcases k.kn b hb with h1 | h1
    · exact h.kn b h1
    · exact .inr h1
theorem Ext.more {B W W' : Nat} {A C : Env} {a c : World} (h : Ext B W A C a c) (hw : ∀ j, In W j → In W' j) : Ext B W' A C a c :=
  ⟨h.le, fun j hj => h.keep j (fun x => hj (hw j x)), fun j b X hj => h.block j b X (fun x => hj (hw j x)), h.below, h.free, h.liv, h.kn⟩

end Ev
end Go.Proofs.YtnjpdipombnigaaGreatDoor
namespace Go.Proofs.YtnjpdipombnigaaGreatDoor
namespace Ev
open Go.RowKit

theorem dropN_eq (n : Nat) : ∀ l : List AV, dropN n l = l.drop n := by
  induction n with
  | zero => intro l; rfl
  | succ n ih =>
    intro l
    cases l with
    | nil => rfl
    | cons x t => exact ih t
theorem takeN_some (n : Nat) : ∀ {l r : List AV}, takeN n l = some r → r = l.take n ∧ n ≤ l.length := by
  induction n with
  | zero => intro l r h; cases h; simp
  | succ n ih =>
    intro l r h
    cases l with
    | nil => cases h
    | cons x t =>
      obtain ⟨r', h1, h2⟩ := oc_some (show oc (takeN n t) (fun r => some (x :: r)) = some r from h)
      cases h2
      obtain ⟨rfl, h3⟩ := ih h1
      exact ⟨by simp, by simp; exact h3⟩
theorem RelL.drop {E : Env} (n : Nat) : ∀ {l : List AV} {m : List Value}, RelL E l m → RelL E (l.drop n) (m.drop n) := by
  induction n with
  | zero => intro l m h; exact h
  | succ n ih =>
    intro l m h
    cases h with
    | nil => exact .nil
    | cons _ t => exact ih t
theorem RelL.take {E : Env} (n : Nat) : ∀ {l : List AV} {m : List Value}, RelL E l m → RelL E (l.take n) (m.take n) := by
  induction n with
  | zero => intro l m _; exact .nil
  | succ n ih =>
    intro l m h
    cases h with
    | nil => exact .nil
    | cons k t => exact .cons k (ih t)
theorem setFrom_some : ∀ (n : Nat) (ys l : List AV) {r : List AV}, setFrom n ys l = some r → ys = [] ∧ r = l ∨ n + ys.length ≤ l.length ∧ r = l.take n ++ ys ++ l.drop (n + ys.length)
  | n, [], l, r, h => by
    have : r = l := by cases n <;> cases l <;> simp [setFrom] at h <;> first | exact h.symm | simp_all
    exact .inl ⟨rfl, this⟩
  | 0, y :: ys, [], r, h => by simp [setFrom] at h
  | 0, y :: ys, x :: l, r, h => by
    simp only [setFrom] at h
    split at h
    · rename_i r' hr
      cases h
      right
      rcases setFrom_some 0 ys l hr with ⟨rfl, rfl⟩ | ⟨h1, rfl⟩
      · simp
      · simp at h1 ⊢
        exact h1
    · cases h
  | n + 1, y :: ys, [], r, h => by simp [setFrom] at h
  | n + 1, y :: ys, x :: l, r, h => by
    simp only [setFrom] at h
    split at h
    · rename_i r' hr
      cases h
      right
      rcases setFrom_some n (y :: ys) l hr with ⟨h1, _⟩ | ⟨h1, rfl⟩
      · cases h1
      · refine ⟨by simp at h1 ⊢; omega, ?_⟩
        rw [show n + 1 + (y :: ys).length = (n + (y :: ys).length) + 1 by omega]
        simp
    · cases h
theorem allOne_mem {l : List AV} (h : allOne l = true) : ∀ v ∈ l, v.one = true := by
  induction l with
  | nil => intro v hv; cases hv
  | cons x t ih =>
    simp only [allOne] at h
    split at h
    · rename_i hx
      intro v hv
      cases hv with
      | head => exact hx
      | tail _ hm => exact ih h v hm
    · cases h
theorem RelL.one {E : Env} : ∀ {l : List AV} {m : List Value}, RelL E l m → (∀ v ∈ l, v.one = true) → ∀ v ∈ m, v.oneCell' = true
  | _, _, .nil, _ => fun v hv => by cases hv
  | _, _, .cons h t, k => fun v hv => by
    cases hv with
    | head => rw [h.one]; exact k _ (by simp)
    | tail _ hm => exact t.one (fun u hu => k u (by simp [hu])) v hm

section
variable {G : Nat → Prop} {B : Nat} {E : Env} {s : St} {w : World}

theorem Sat.cells (h : Sat G B E s w) {i : Nat} {vs : List AV} (hg : G i) (hc : cellsAt s i = some vs) :
    ∃ b C c e f xs rest, E i = .live b C ∧ w.heap[b]? = some (.cells c e f) ∧ c.toList = xs ++ rest ∧ RelL E vs xs := by
  unfold cellsAt at hc
  split at hc
  · rename_i vs' e fz op ho
    cases hc
    obtain ⟨b, C, ob, he, hb, hok, _⟩ := h.fact i _ hg ho
    cases op with
    | none =>
      obtain ⟨c, f, rfl, hr, _⟩ := hok
      exact ⟨b, C, c, e, f, c.toList, [], he, hb, by simp, hr⟩
    | some z =>
      obtain ⟨c, f, xs, rest, b', C', rfl, hx, hr, _, _, _⟩ := hok
      exact ⟨b, C, c, e, f, xs, rest, he, hb, hx, hr⟩
  · rename_i vs' ho
    cases hc
    obtain ⟨b, C, ob, he, hb, hok, _⟩ := h.fact i _ hg ho
    obtain ⟨c, e, f, rfl, hr⟩ := hok
    exact ⟨b, C, c, e, f, c.toList, [], he, hb, by simp, hr⟩
  · cases hc

theorem Sat.loadN (h : Sat G B E s w) {i off n : Nat} {l : List AV} (hg : G i) (hl : loadN s i off n = some l) :
    ∃ b C ys, E i = .live b C ∧ RelL E l ys ∧ ys.length = n ∧ ∀ j v, ys[j]? = some v → w.cell? ⟨b, off + j, none⟩ = some v := by
  obtain ⟨vs, h1, h2⟩ := oc_some hl
  obtain ⟨b, C, c, e, f, xs, rest, he, hb, hx, hr⟩ := h.cells hg h1
  obtain ⟨rfl, h3⟩ := takeN_some _ h2
  rw [dropN_eq] at h3 ⊢
  have hlen := hr.length
  simp at h3
  refine ⟨b, C, (xs.drop off).take n, he, (hr.drop off).take n, by simp; omega, ?_⟩
  intro j v hj
  rw [List.getElem?_take] at hj
  split at hj
  · rw [List.getElem?_drop] at hj
    have : c[off + j]? = some v := by
      rw [← Array.getElem?_toList, hx, List.getElem?_append_left (by have := (List.getElem?_eq_some_iff.1 hj).1; exact this)]
      exact hj
    simp [World.cell?, hb, this]
  · cases hj
theorem Sat.rowN (h : Sat G B E s w) {i off n : Nat} {l : List AV} (hg : G i) (hl : rowN s i off n = some l) :
    ∃ b C ys, E i = .live b C ∧ RelL E l ys ∧ ys.length = n ∧ ∀ j v, ys[j]? = some v → w.cell? ⟨b, C + off + j, none⟩ = some v := by
  obtain ⟨o, ho, h2⟩ := oc_some hl
  unfold rowC at h2
  split at h2
  case h_2 => cases h2
  rename_i vs
  obtain ⟨b, C, ob, he, hb, hok, _⟩ := h.fact i _ hg ho
  obtain ⟨c, e, f, b2, C2, xs, rest, rfl, he2, hx, hr⟩ := hok
  rw [he] at he2
  cases he2
  obtain ⟨rfl, h3⟩ := takeN_some _ h2
  rw [dropN_eq] at h3 ⊢
  have hlen := hr.length
  simp at h3
  refine ⟨b, C, (xs.drop off).take n, he, (hr.drop off).take n, by simp; omega, ?_⟩
  intro j v hj
  rw [List.getElem?_take] at hj
  split at hj
  · rw [List.getElem?_drop] at hj
    have h4 : (c.toList.drop C)[off + j]? = some v := by
      rw [hx, List.getElem?_append_left (by have := (List.getElem?_eq_some_iff.1 hj).1; exact this)]
      exact hj
    rw [List.getElem?_drop, ← Nat.add_assoc] at h4
    have : c[C + off + j]? = some v := by rw [← Array.getElem?_toList]; exact h4
    simp [World.cell?, hb, this]
  · cases hj
end

/-- Cells written into a block, whatever of it is frozen elsewhere. -/
theorem run_storeCells_in {P : Program} (g o : Nat) (t : TypeId) (f : Nat × Nat) : ∀ (vs : List Value) (i : Nat) (cur : Array Value) (w : World), w.heap[g]? = some (.cells cur t f) → o + i + vs.length ≤ cur.size →
    (∀ j, j < vs.length → ¬ (f.1 ≤ o + i + j ∧ o + i + j < f.2)) → (∀ v ∈ vs, v.oneCell' = true) →
    (storeCells ⟨g, o, none⟩ vs i).run P w = .ok () (w.setRow g (cur.toList.take (o + i) ++ vs ++ cur.toList.drop (o + i + vs.length)).toArray)
  | [], i, cur, w, hg, _, _, _ => by
    simp only [storeCells, List.append_nil, List.length_nil, Nat.add_zero, List.take_append_drop, Array.toArray_toList]
    rw [setRow_self w g cur t f hg]
    rfl
  | v :: rest, i, cur, w, hg, hl, hf, h1 => by
    have hi : o + i < cur.size := by simp at hl; omega
    have hadd : (⟨g, o, none⟩ : Addr).add i = ⟨g, o + i, none⟩ := by unfold Addr.add; split <;> simp_all
    have hcell : w.cell? ⟨g, o + i, none⟩ = some cur[o + i] := by simp [World.cell?, hg, hi]
    have hfro : w.frozen? ⟨g, o + i, none⟩ = false := by
      have := hf 0 (by simp)
      simp [World.frozen?, hg]
      simp at this
      intro h; exact this h
    have hst : (store ((⟨g, o, none⟩ : Addr).add i) v).run P w = .ok () (w.setRow g (cur.setIfInBounds (o + i) v)) := by
      rw [hadd, run_store P w _ v _ (h1 v (by simp)), hcell]
      simp [hfro, setCell_eq_setRow w g (o + i) cur t f v hg]
    have ih := run_storeCells_in (P := P) g o t f rest (i + 1) (cur.setIfInBounds (o + i) v) (w.setRow g (cur.setIfInBounds (o + i) v)) (setRow_heap w g cur _ t _ hg) (by simp at hl ⊢; omega)
      (fun j hj => by have := hf (j + 1) (by simp; omega); rw [show o + (i + 1) + j = o + i + (j + 1) by omega]; exact this) (fun x hx => h1 x (by simp [hx]))
    simp only [storeCells, Sem.run_bind, hst, Result.andThen_ok, ih, setRow_setRow]
    congr 3
    have e := list_seg_step cur.toList (o + i) v rest (by simp at hl ⊢; omega)
    simpa [Array.toList_setIfInBounds, Nat.add_assoc] using e

section
variable {G : Nat → Prop} {B : Nat} {E : Env} {s : St} {w : World}

theorem heap_put {w : World} {b k : Nat} {o : Obj} (hb : b < w.heap.size) : (w.putObj b o).heap[k]? = if k = b then some o else w.heap[k]? := by
  by_cases h : k = b
  · subst h; simp [World.putObj_heap_same hb]
  · simp [World.putObj_heap_other h, h]

/-- An object is written anew. -/
theorem Sat.write (h : Sat G B E s w) {i b C : Nat} {o o' : AObj} {ob' : Obj} (hg : G i) (ho : s.h.get i = some o) (hf : o.fixed = false) (he : E i = .live b C) (hok : OkObj E i o' ob') :
    Sat G B E (s.set i (some o')) (w.putObj b ob') ∧ Ext B (s.set i (some o')).w E E w (w.putObj b ob') := by
  have hlt := h.lt i b C he
  have hB : B ≤ b := by
    obtain ⟨b', C', ob, he', _, _, hx⟩ := h.fact i o hg ho
    rw [he] at he'
    cases he'
    rcases hx with hx | hx
    · rw [hf] at hx; cases hx
    · exact hx
  refine ⟨⟨h.inj, fun j b' C' hj => by simpa [World.putObj] using h.lt j b' C' hj, by simpa [World.putObj] using h.base, h.glob, h.fresh, ?_, h.orc, fun k hk => ?_, h.defs⟩, Env.le_refl _, fun _ _ => rfl, ?_, ⟨rfl, rfl, rfl, by simp [World.putObj], fun k hk => ?_⟩, fun k hk hn => ?_, fun j b C h => .inl ⟨j, C, h⟩, fun _ h => .inl h⟩
  · intro j oj hgj hj
    rcases T.put_some hj with ⟨rfl, hx⟩ | ⟨hne, hx⟩
    · cases hx
      exact ⟨b, C, ob', he, by rw [heap_put hlt]; simp, hok, .inr hB⟩
    · obtain ⟨b', C', ob, he', hb', hok', hx'⟩ := h.fact j oj hgj hx
      refine ⟨b', C', ob, he', ?_, hok', hx'⟩
      have hbb : b' ≠ b := fun e => hne (h.inj j i b' C' C (by rw [e]; exact hB) he' (by rw [e]; exact he))
      rw [heap_put hlt, if_neg hbb, hb']
  · obtain ⟨h1, h2, h3⟩ := h.prot k hk
    have hkb : k ≠ b := by
      rintro rfl
      exact absurd (h3 i C he) (Nat.not_lt.2 hB)
    exact ⟨by simpa [World.putObj] using h1, by rw [heap_put hlt, if_neg hkb]; exact h2, h3⟩
  · intro j b' C' hj he'
    rw [heap_put hlt, if_neg]
    intro e
    have hji := h.inj j i b' C' C (by rw [e]; exact hB) he' (by rw [e]; exact he)
    exact hj ((in_lor _ _ _).2 (.inr ((in_bit _ _).2 hji.symm)))
  · rw [heap_put hlt, if_neg (by omega)]
  · rw [heap_put hlt, if_neg]
    rintro rfl
    exact absurd (hn i C he) (Nat.not_lt.2 hB)

theorem setRow_put {w : World} {g : Nat} {cur cells : Array Value} {t : TypeId} {f : Nat × Nat} (h : w.heap[g]? = some (.cells cur t f)) : w.setRow g cells = w.putObj g (.cells cells t f) := by
  have hlt : g < w.heap.size := (Array.getElem?_eq_some_iff.1 h).1
  unfold World.setRow World.putObj
  congr 1
  apply Array.ext_getElem?
  intro k
  rw [Array.getElem?_modify, Array.getElem?_setIfInBounds]
  by_cases hk : g = k
  · subst hk
    have h' : w.heap[g] = .cells cur t f := by simpa [Array.getElem?_eq_getElem hlt] using h
    simp [hlt, h']
  · simp [hk]

/-- The world without a turn. -/
theorem Sat.seen (h : Sat G B E s w) (i : Nat) : Sat G B E (s.see i) w := ⟨h.inj, h.lt, h.base, h.glob, h.fresh, h.fact, h.orc, h.prot, h.defs⟩
theorem Sat.drew (h : Sat G B E s w) (n : Nat) : Sat G B E s { w with drawn := n } := ⟨h.inj, h.lt, h.base, h.glob, h.fresh, h.fact, h.orc, h.prot, h.defs⟩
theorem Ext.drew (W : Nat) (n : Nat) : Ext B W E E w { w with drawn := n } := ⟨Env.le_refl _, fun _ _ => rfl, fun _ _ _ _ _ => rfl, ⟨rfl, rfl, rfl, Nat.le_refl _, fun _ _ => rfl⟩, fun _ _ _ => rfl, fun j b C h => .inl ⟨j, C, h⟩, fun _ h => .inl h⟩

def Env.set (E : Env) (i : Nat) (x : Slot) : Env := ⟨fun j => if j = i then x else E j, E.ρ, E.st, E.δ, E.K, E.hp⟩
theorem Env.set_same (E : Env) (i : Nat) (x : Slot) : E.set i x i = x := by simp [Env.set]
theorem Env.set_ne (E : Env) {i j : Nat} (x : Slot) (h : j ≠ i) : E.set i x j = E j := by simp [Env.set, h]
theorem Env.set_le (E : Env) (i : Nat) (x : Slot) (h : (E i).le x) : E.le (E.set i x) := by
  refine ⟨fun j => ?_, rfl, fun _ _ => rfl, rfl, fun _ h => h, fun _ _ => rfl⟩
  by_cases hj : j = i
  · subst hj; rw [Env.set_same]; exact h
  · rw [Env.set_ne _ _ hj]; exact Slot.le_refl _

/-- A new object. -/
theorem Sat.new (h : Sat G B E s w) {o : AObj} {ob : Obj} {C : Nat} (hg : G s.c) (hf : o.fixed = false) (hok : OkObj (E.set s.c (.live w.heap.size C)) s.c o ob) :
    Sat G B (E.set s.c (.live w.heap.size C)) (s.new o) (w.alloc ob) ∧ Ext B (s.new o).w E (E.set s.c (.live w.heap.size C)) w (w.alloc ob) := by
  have hu := h.fresh s.c (Nat.le_refl _) hg
  have hle : E.le (E.set s.c (.live w.heap.size C)) := E.set_le _ _ (by rw [hu]; trivial)
  have hold : ∀ k, k < w.heap.size → (w.alloc ob).heap[k]? = w.heap[k]? := fun k hk => Below.heap_alloc w ob k hk
  have hsz : (w.alloc ob).heap.size = w.heap.size + 1 := by simp
  refine ⟨⟨?_, ?_, by rw [hsz]; have := h.base; omega, fun g hg => Slot.at_le (hle g) (h.glob g hg), ?_, ?_, h.orc, fun k hk => ?_, h.defs⟩, hle, ?_, ?_, ⟨rfl, rfl, rfl, by simp, fun k hk => hold k (by have := h.base; omega)⟩, fun k hk _ => hold k hk, fun j b X hj => ?_, fun _ h => .inl h⟩
  · intro i j b X Y hb hi hj
    by_cases h1 : i = s.c <;> by_cases h2 : j = s.c
    · rw [h1, h2]
    · subst h1
      rw [Env.set_same] at hi
      rw [Env.set_ne _ _ h2] at hj
      cases hi
      exact absurd (h.lt _ _ _ hj) (Nat.lt_irrefl _)
    · subst h2
      rw [Env.set_same] at hj
      rw [Env.set_ne _ _ h1] at hi
      cases hj
      exact absurd (h.lt _ _ _ hi) (Nat.lt_irrefl _)
    · rw [Env.set_ne _ _ h1] at hi
      rw [Env.set_ne _ _ h2] at hj
      exact h.inj i j b X Y hb hi hj
  · intro i b X hi
    rw [hsz]
    by_cases h1 : i = s.c
    · subst h1
      rw [Env.set_same] at hi
      cases hi
      omega
    · rw [Env.set_ne _ _ h1] at hi
      have := h.lt i b X hi
      omega
  · intro i hi hgi
    have hi' : s.c + 1 ≤ i := hi
    rw [Env.set_ne _ _ (by omega)]
    exact h.fresh i (by omega) hgi
  · intro j oj hgj hj
    rcases T.put_some hj with ⟨rfl, hx⟩ | ⟨hne, hx⟩
    · cases hx
      exact ⟨w.heap.size, C, ob, Env.set_same _ _ _, World.alloc_heap_new w ob, hok, .inr h.base⟩
    · obtain ⟨b', C', ob', he', hb', hok', hx'⟩ := h.fact j oj hgj hx
      refine ⟨b', C', ob', (Env.set_ne _ _ hne).trans he', ?_, hok'.mono hle (fun b X hbx => (Env.set_ne _ _ hne).trans hbx), hx'⟩
      rw [hold b' (h.lt _ _ _ he'), hb']
  · obtain ⟨h1, h2, h3⟩ := h.prot k hk
    refine ⟨by rw [hsz]; omega, (hold k h1).trans h2, fun j X hj => ?_⟩
    by_cases hjc : j = s.c
    · subst hjc
      rw [Env.set_same] at hj
      cases hj
      exact absurd h1 (Nat.lt_irrefl _)
    · rw [Env.set_ne _ _ hjc] at hj
      exact h3 j X hj
  · intro j hj
    exact Env.set_ne _ _ (fun e => hj ((in_lor _ _ _).2 (.inr ((in_bit _ _).2 e.symm))))
  · intro j b X _ he
    exact hold b (h.lt _ _ _ he)
  · by_cases hjc : j = s.c
    · subst hjc
      rw [Env.set_same] at hj
      cases hj
      exact .inr (.inl (Nat.le_refl _))
    · rw [Env.set_ne _ _ hjc] at hj
      exact .inl ⟨j, X, hj⟩

/-- Cells are stored. -/
theorem Sat.storeN (h : Sat G B E s w) {P : Program} {i off : Nat} {l : List AV} {ys : List Value} {s' : St} (hG : ∀ j, In s'.l j → G j) (hs : storeN s i off l = some s') (hr : RelL E l ys) :
    ∃ b C w', E i = .live b C ∧ (storeCells ⟨b, off, none⟩ ys).run P w = .ok () w' ∧ Sat G B E s' w' ∧ Ext B s'.w E E w w' := by
  obtain ⟨o, h1, h2⟩ := oc_some hs
  unfold cellsC at h2
  split at h2
  case h_2 => cases h2
  rename_i vs e fz op
  obtain ⟨hun, h2⟩ := bc_some h2
  obtain ⟨hone, h2⟩ := bc_some h2
  obtain ⟨vs', hset, h2⟩ := oc_some h2
  cases h2
  have hgi : G i := hG i ((in_lor _ _ _).2 (.inr ((in_bit _ _).2 rfl)))
  have hy1 := hr.one (allOne_mem hone)
  have hlen := hr.length
  have key : ∀ (c : Array Value) (f : Nat × Nat), (∀ off, off < c.size → f.1 ≤ off → off < f.2 → fz.1 ≤ off ∧ off < fz.2) → off + ys.length ≤ c.size ∨ ys = [] → ∀ j, j < ys.length → ¬ (f.1 ≤ off + 0 + j ∧ off + 0 + j < f.2) := by
    intro c f hf hfit j hj hx
    rcases hfit with hfit | rfl
    · have := hf (off + j) (by omega) (by omega) (by omega)
      simp only [unfrozen, Bool.or_eq_true, Nat.ble_eq] at hun
      omega
    · simp at hj
  obtain ⟨b, C, ob, he, hb, hok, hx⟩ := h.fact i _ hgi h1
  have fin : ∀ (c : Array Value) (f : Nat × Nat), w.heap[b]? = some (.cells c e f) → (storeCells ⟨b, off, none⟩ ys).run P w = .ok () (w.putObj b (.cells (c.toList.take off ++ ys ++ c.toList.drop (off + ys.length)).toArray e f)) →
      OkObj E i (.cells vs' e fz op) (.cells (c.toList.take off ++ ys ++ c.toList.drop (off + ys.length)).toArray e f) →
      ∃ b C w', E i = .live b C ∧ (storeCells ⟨b, off, none⟩ ys).run P w = .ok () w' ∧ Sat G B E (s.set i (some (.cells vs' e fz op))) w' ∧ Ext B (s.set i (some (.cells vs' e fz op))).w E E w w' := by
    intro c f hbc hrun hok'
    obtain ⟨k1, k2⟩ := h.write hgi h1 rfl he hok'
    exact ⟨b, C, _, he, hrun, k1, k2⟩
  cases op with
  | none =>
    obtain ⟨c, f, rfl, hrc, hfz⟩ := hok
    have hcl := hrc.length
    simp at hcl
    rcases setFrom_some _ _ _ hset with ⟨rfl, rfl⟩ | ⟨hfit, rfl⟩
    · cases hr
      have hsame : (c.toList.take off ++ [] ++ c.toList.drop (off + ([] : List Value).length)).toArray = c := by simp
      refine fin c f hb ?_ ?_
      · rw [hsame]
        simp only [storeCells]
        rw [← setRow_put hb, setRow_self w b c e f hb]; rfl
      · rw [hsame]; exact ⟨c, f, rfl, hrc, hfz⟩
    · have hfit' : off + ys.length ≤ c.size := by omega
      refine fin c f hb ?_ ⟨_, f, rfl, ?_, ?_⟩
      · have := run_storeCells_in (P := P) b off e f ys 0 c w hb (by omega) (key c f hfz (.inl hfit')) hy1
        rw [this, setRow_put hb]; simp
      · simp only [List.toList_toArray]
        refine ((hrc.take off).append hr).append ?_
        rw [hlen]; exact hrc.drop _
      · intro off' ho'
        refine hfz off' ?_
        simp at ho'
        omega
  | some z =>
    obtain ⟨c, f, xs, rest, b', C', rfl, hxr, hrc, he', hsz, hfz⟩ := hok
    have hcl := hrc.length
    have hcs : c.size = xs.length + rest.length := by rw [← Array.length_toList, hxr]; simp
    rcases setFrom_some _ _ _ hset with ⟨rfl, rfl⟩ | ⟨hfit, rfl⟩
    · cases hr
      have hsame : (c.toList.take off ++ [] ++ c.toList.drop (off + ([] : List Value).length)).toArray = c := by simp
      refine fin c f hb ?_ ?_
      · rw [hsame]
        simp only [storeCells]
        rw [← setRow_put hb, setRow_self w b c e f hb]; rfl
      · rw [hsame]; exact ⟨c, f, xs, rest, b', C', rfl, hxr, hrc, he', hsz, hfz⟩
    · have hfit' : off + ys.length ≤ xs.length := by omega
      have hnew : c.toList.take off ++ ys ++ c.toList.drop (off + ys.length) = (xs.take off ++ ys ++ xs.drop (off + ys.length)) ++ rest := by
        rw [hxr, List.take_append_of_le_length (by omega), List.drop_append_of_le_length (by omega)]
        simp
      refine fin c f hb ?_ ⟨_, f, xs.take off ++ ys ++ xs.drop (off + ys.length), rest, b', C', rfl, ?_, ?_, he', ?_, ?_⟩
      · have := run_storeCells_in (P := P) b off e f ys 0 c w hb (by omega) (key c f hfz (.inl (by omega))) hy1
        rw [this, setRow_put hb]; simp
      · simp only [List.toList_toArray]; exact hnew
      · refine ((hrc.take off).append hr).append ?_
        rw [hlen]; exact hrc.drop _
      · rw [← hsz]; simp; omega
      · intro off' ho'
        refine hfz off' ?_
        simp at ho'
        omega
end
end Ev
end Go.Proofs.YtnjpdipombnigaaGreatDoor
namespace Go.Proofs.YtnjpdipombnigaaGreatDoor
namespace Ev
open Go.RowKit

section
variable {P : Program} {E : Env}

theorem szOf_run {t : TypeId} {n : Nat} (h : szOf P t = some n) (w : World) : (sizeOf t).run P w = .ok n w := by
  unfold szOf at h
  cases hi : P.info? t with
  | none => rw [hi] at h; cases h
  | some i => rw [hi] at h; cases h; simp [sizeOf, typeInfo, hi]
theorem und_run {t : TypeId} {d : TypeDesc} (h : P.underlying t = some d) (w : World) : (underlying t).run P w = .ok d w := by
  simp [underlying, h]
theorem isAggB_run {t : TypeId} {b : Bool} (h : isAggB P t = some b) (w : World) : (isAgg t).run P w = .ok b w := by
  cases hu : P.underlying t with
  | none => simp [isAggB, hu] at h
  | some d => cases d <;> simp [isAggB, hu] at h <;> subst h <;> simp [isAgg, und_run hu]

theorem ofVal1_ok {v : Value} {a : AV} (h : ofVal1 v = some a) : Rel E a v := by
  unfold ofVal1 at h
  split at h <;> first | (cases h; constructor; done) | (cases h; done)
theorem ofVals_ok : ∀ {l : List Value} {m : List AV}, ofVals l = some m → RelL E m l
  | [], m, h => by cases h; exact .nil
  | v :: r, m, h => by
    simp only [ofVals] at h
    split at h
    · rename_i a l h1 h2
      cases h
      exact .cons (ofVal1_ok h1) (ofVals_ok h2)
    · cases h
theorem ofVal_ok {v : Value} {a : AV} (h : ofVal v = some a) : Rel E a v := by
  unfold ofVal at h
  split at h
  · rename_i cs
    cases hx : ofVals cs.toList with
    | none => rw [hx] at h; cases h
    | some l => rw [hx] at h; cases h; exact .agg (ofVals_ok hx)
  · rename_i cs
    cases hx : ofVals cs.toList with
    | none => rw [hx] at h; cases h
    | some l => rw [hx] at h; cases h; exact .tuple (ofVals_ok hx)
  · exact ofVal1_ok h

variable {nt : Nat} {a : T AV} {ac : Act}

theorem opd_ok (hg : ∀ g, g < 64 → (E g).at g) (ht : TRel E nt a ac.tmps) {x : Operand} {v : AV} (h : opd a x = some v) : Rel E v (ac.eval x) := by
  cases x with
  | tmp t =>
    obtain ⟨y, hy, hr⟩ := ht.2 t v h
    have : ac.eval (.tmp t) = y := by simp [Act.eval, hy]
    rw [this]; exact hr
  | const c => exact ofVal_ok (show ofVal c = some v from h)
  | global g =>
    by_cases hb : Nat.blt g 64 = true
    · have h' : (opS (.global g)).get a = some v := h
      simp only [opS, hb, bi_true] at h'
      cases h'
      exact .ptr (hg g (by simpa using hb))
    · have h' : (opS (.global g)).get a = some v := h
      simp only [opS, Bool.not_eq_true] at h' hb
      rw [hb] at h'
      cases h'
  | func f => cases h; exact .func .nil .nil
theorem opds_ok (hg : ∀ g, g < 64 → (E g).at g) (ht : TRel E nt a ac.tmps) : ∀ {l : List Operand} {m : List AV}, opds a l = some m → RelL E m (l.map ac.eval)
  | [], m, h => by cases h; exact .nil
  | x :: r, m, h => by
    obtain ⟨v, h1, h2⟩ := oc_some (show oc (opd a x) (fun v => oc (opds a r) fun l => some (v :: l)) = some m from h)
    obtain ⟨l, h3, h4⟩ := oc_some h2
    cases h4
    exact .cons (opd_ok hg ht h1) (opds_ok hg ht h3)
/-- Parts of a literal. -/
inductive RelP (E : Env) : List (Nat × AV) → List (Nat × Value) → Prop
  | nil : RelP E [] []
  | cons {i : Nat} {x : AV} {y : Value} {l : List (Nat × AV)} {m : List (Nat × Value)} (h : Rel E x y) (t : RelP E l m) : RelP E ((i, x) :: l) ((i, y) :: m)
theorem partsA_ok (hg : ∀ g, g < 64 → (E g).at g) (ht : TRel E nt a ac.tmps) : ∀ {l : List (Nat × Operand)} {m : List (Nat × AV)}, partsA a l = some m → RelP E m (l.map fun p => (p.1, ac.eval p.2))
  | [], m, h => by cases h; exact .nil
  | (i, x) :: r, m, h => by
    obtain ⟨v, h1, h2⟩ := oc_some (show oc (opd a x) (fun v => oc (partsA a r) fun l => some ((i, v) :: l)) = some m from h)
    obtain ⟨l, h3, h4⟩ := oc_some h2
    cases h4
    exact .cons (opd_ok hg ht h1) (partsA_ok hg ht h3)
end

theorem wrap_i64 (n : Int) (h1 : -9223372036854775808 ≤ n) (h2 : n < 9223372036854775808) : IntKind.i64.wrap n = n := by
  have e1 : (2 : Int) ^ IntKind.i64.bits = 18446744073709551616 := by decide
  have e2 : (2 : Int) ^ (IntKind.i64.bits - 1) = 9223372036854775808 := by decide
  have e3 : IntKind.i64.signed = true := rfl
  simp only [IntKind.wrap, e1, e2, e3, Bool.true_and, decide_eq_true_eq]
  split <;> omega
theorem wrap_u8 (n : Int) (h1 : 0 ≤ n) (h2 : n < 256) : IntKind.u8.wrap n = n := by
  have e1 : (2 : Int) ^ IntKind.u8.bits = 256 := by decide
  have e3 : IntKind.u8.signed = false := rfl
  simp only [IntKind.wrap, e1, e3, Bool.false_and, Bool.false_eq_true, if_false]
  omega
theorem wrap_u32 (n : Int) (h1 : 0 ≤ n) (h2 : n < 4294967296) : IntKind.u32.wrap n = n := by
  have e1 : (2 : Int) ^ IntKind.u32.bits = 4294967296 := by decide
  have e3 : IntKind.u32.signed = false := rfl
  simp only [IntKind.wrap, e1, e3, Bool.false_and, Bool.false_eq_true, if_false]
  omega
theorem wrap_u64 (n : Int) (h1 : 0 ≤ n) (h2 : n < 18446744073709551616) : IntKind.u64.wrap n = n := by
  have e1 : (2 : Int) ^ IntKind.u64.bits = 18446744073709551616 := by decide
  have e3 : IntKind.u64.signed = false := rfl
  simp only [IntKind.wrap, e1, e3, Bool.false_and, Bool.false_eq_true, if_false]
  omega
theorem bif_blt {m n : Nat} {x y z : Int} (h1 : m < n → x = z) (h2 : y = z) : (bif Nat.blt m n then x else y) = z := by
  cases h : Nat.blt m n with
  | true => exact h1 (by simpa using h)
  | false => exact h2
theorem wrapA_eq (k : IntKind) (n : Int) : wrapA k n = k.wrap n := by
  cases n with
  | ofNat m =>
    cases k <;> simp only [wrapA]
    · exact bif_blt (fun h => (wrap_i64 (m : Int) (by omega) (by omega)).symm) rfl
    · exact bif_blt (fun h => (wrap_u8 (m : Int) (by omega) (by omega)).symm) rfl
    · exact bif_blt (fun h => (wrap_u32 (m : Int) (by omega) (by omega)).symm) rfl
    · exact bif_blt (fun h => (wrap_u64 (m : Int) (by omega) (by omega)).symm) rfl
  | negSucc m =>
    cases k <;> simp only [wrapA]
    exact bif_blt (fun h => (wrap_i64 _ (by omega) (by omega)).symm) rfl
theorem ltA_eq (x y : Int) : ltA x y = decide (x < y) := by
  rw [Bool.eq_iff_iff, decide_eq_true_iff]
  cases x with
  | ofNat a =>
    cases y with
    | ofNat b => rw [show ltA (.ofNat a) (.ofNat b) = Nat.blt a b from rfl, Nat.blt_eq]; simp
    | negSucc b => rw [show ltA (.ofNat a) (.negSucc b) = false from rfl]; simp; omega
  | negSucc a =>
    cases y with
    | ofNat b => rw [show ltA (.negSucc a) (.ofNat b) = true from rfl]; simp; omega
    | negSucc b => rw [show ltA (.negSucc a) (.negSucc b) = Nat.blt b a from rfl, Nat.blt_eq]; omega
theorem eqA_eq (x y : Int) : eqA x y = decide (x = y) := by
  rw [Bool.eq_iff_iff, decide_eq_true_iff]
  cases x with
  | ofNat a =>
    cases y with
    | ofNat b => rw [show eqA (.ofNat a) (.ofNat b) = Nat.beq a b from rfl, Nat.beq_eq]; simp; omega
    | negSucc b => rw [show eqA (.ofNat a) (.negSucc b) = false from rfl]; simp
  | negSucc a =>
    cases y with
    | ofNat b => rw [show eqA (.negSucc a) (.ofNat b) = false from rfl]; simp
    | negSucc b => rw [show eqA (.negSucc a) (.negSucc b) = Nat.beq a b from rfl, Nat.beq_eq]; simp

section
variable {P : Program} {E : Env}

theorem bytesEq_eq : ∀ (x y : List UInt8), bytesEq x y = (x == y)
  | [], [] => rfl
  | [], _ :: _ => rfl
  | _ :: _, [] => rfl
  | a :: x, b :: y => by
    have ih := bytesEq_eq x y
    simp only [bytesEq]
    split
    · rename_i h
      rw [ih]
      have : a = b := UInt8.toNat_inj.1 (by simpa using h)
      subst this
      simp [List.cons_beq_cons]
    · rename_i h
      have : a ≠ b := fun e => by subst e; simp at h
      have hb : (a == b) = false := by simpa using this
      simp [List.cons_beq_cons, hb]
theorem bytesLt_eq : ∀ (x y : List UInt8), bytesLt x y = Op.bytesLess x y
  | [], [] => rfl
  | [], _ :: _ => rfl
  | _ :: _, [] => rfl
  | a :: x, b :: y => by
    have ih := bytesLt_eq x y
    simp only [bytesLt, Op.bytesLess]
    split
    · rename_i h
      have : a < b := by simpa [UInt8.lt_iff_toNat_lt] using h
      simp [this]
    · rename_i h
      have hlt : ¬ a < b := fun hc => by
        have h1 : Nat.blt a.toNat b.toNat = true := by simpa using UInt8.lt_iff_toNat_lt.1 hc
        rw [h] at h1; cases h1
      split
      · rename_i h2
        have : a = b := UInt8.toNat_inj.1 (by simpa using h2)
        subst this
        simp [ih]
      · rename_i h2
        have : a ≠ b := fun e => by subst e; simp at h2
        have hb : (a == b) = false := by simpa using this
        simp [hlt, hb]

theorem intOp_ok {op : BinOp} {k : IntKind} {x y : Int} {v : AV} (t : TypeId) (h1 : op ≠ .shl) (h2 : op ≠ .shr) (h : intOp op k x y = some v) (w : World) :
    ∃ v', (binOp op t (.int k x) (.int k y)).run P w = .ok v' w ∧ Rel E v v' := by
  cases op <;> simp only [intOp, wrapA_eq, eqA_eq, ltA_eq] at h <;> first | exact absurd rfl h1 | exact absurd rfl h2 | skip
  case quo =>
    split at h
    · cases h
    · rename_i hy; cases h; exact ⟨_, by simp [binOp, Op.intDiv, hy], .int _ _⟩
  case rem =>
    split at h
    · cases h
    · rename_i hy; cases h; exact ⟨_, by simp [binOp, Op.intDiv, hy], .int _ _⟩
  all_goals cases h
  all_goals first
    | exact ⟨_, by simp [binOp, Op.intArith]; rfl, .int _ _⟩
    | exact ⟨_, by simp [binOp, Op.intBits]; rfl, .int _ _⟩
    | (refine ⟨.int k (k.wrap ((BitVec.ofInt k.bits x &&& ~~~BitVec.ofInt k.bits y).toNat)), ?_, .int _ _⟩; simp [binOp, Op.intBits]; done)
    | (refine ⟨_, ?_, .bool _⟩; simp [binOp, Op.intCmp]; done)
    | (refine ⟨_, ?_, .bool _⟩; simp [binOp, Op.intCmp]; rw [Bool.eq_iff_iff]; simp; done)
theorem shiftOp_ok {op : BinOp} {k k' : IntKind} {x y : Int} {v : AV} (t : TypeId) (h1 : op = .shl ∨ op = .shr) (h : shiftOp op k x y = some v) (w : World) :
    ∃ v', (binOp op t (.int k x) (.int k' y)).run P w = .ok v' w ∧ Rel E v v' := by
  unfold shiftOp at h
  split at h
  · cases h
  · rename_i hy
    rcases h1 with rfl | rfl <;> (cases h; exact ⟨_, by simp [binOp, Op.shift, hy], .int _ _⟩)
theorem strOp_ok {op : BinOp} {x y : List UInt8} {v : AV} (t : TypeId) (h : strOp op x y = some v) (w : World) :
    ∃ v', (binOp op t (.string ⟨x.toArray⟩) (.string ⟨y.toArray⟩)).run P w = .ok v' w ∧ Rel E v v' := by
  cases op <;> simp only [strOp, bytesEq_eq, bytesLt_eq] at h
  case add =>
    split at h
    · cases h
    · rename_i hl
      cases h
      refine ⟨.string ⟨(x ++ y).toArray⟩, ?_, .str _⟩
      have hrun := run_string_add_sum (P := P) w ⟨x.toArray⟩ ⟨y.toArray⟩ (by
        rw [show (ByteArray.mk x.toArray).size = x.length from by simp [ByteArray.size], show (ByteArray.mk y.toArray).size = y.length from by simp [ByteArray.size]]
        omega)
      rw [ByteArray.mk_append_mk] at hrun
      simpa [binOp] using hrun
  all_goals first | (cases h; done) | skip
  all_goals cases h
  all_goals (refine ⟨_, ?_, .bool _⟩; simp [binOp, Op.stringOp])
end
end Ev
end Go.Proofs.YtnjpdipombnigaaGreatDoor
