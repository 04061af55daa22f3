/-
  The record layer's entry, as a plain function of a line; a law for a struct stored into a block that is known whole.
-/
import Derived.Test.YtlgepoiaolhajaaDoorReEnv
import Derived.Test.YtlgepoiaolhajaaDoorReMade
namespace Go.Proofs.YtlgepoiaolhajaaDoor
open Go.RowKit

/-- A struct stored into a box. -/
theorem wpList_store_box {P : Program} {w : World} {ops : Array Oper} {rest : List Oper} {op : Oper} {a : Act} {Q : Exit → Act → World → Prop} (hgd : op.guard = none) (ty : TypeId) (x y : Operand) (ho : op.op = .store ty x y)
    (b t : Nat) (old cells : Array Value) (hx : a.eval x = .pointer (some ⟨b, 0, none⟩)) (hy : a.eval y = .agg cells) (hbox : Box w b t old) (hsz : cells.size = old.size)
    (hi : (P.info? ty).map (·.size) = some cells.size) (h1 : cells.all (·.oneCell') = true)
    (h : ∀ w', Box w' b t cells → w.grownBy w' (some b) → wpList P ops Q rest (a.put op.dst undef) w') : wpList P ops Q (op :: rest) a w := by
  have hth : w.there b 0 cells.size := fun j hj => by
    refine ⟨?_, hbox.frozen _⟩
    rw [hbox.cell, Array.getElem?_eq_getElem (by omega)]
    rfl
  refine wpList_store_mid hgd ty x y ho b 0 cells hx hy hth hi h1 ?_
  have hset : ∀ (vs : List Value) (o : Nat) (w0 : World) (cur0 : Array Value), w0.heap[b]? = some (.cells cur0 t (0, 0)) → o + vs.length ≤ cur0.size →
      w0.setCells b o vs = w0.setRow b (splice cur0.toList o vs).toArray := by
    intro vs
    induction vs with
    | nil => intro o w0 cur0 hg0 _; simp [World.setCells, splice]; rw [setRow_self w0 b cur0 t (0, 0) hg0]
    | cons v r ih =>
      intro o w0 cur0 hg0 hl
      simp only [List.length_cons] at hl
      simp only [World.setCells]
      rw [setCell_eq_setRow w0 b o cur0 t (0, 0) v hg0, ih (o + 1) _ _ (setRow_heap w0 b cur0 _ t _ hg0) (by simp; omega), setRow_setRow]
      congr 2
      simp only [splice, Array.toList_setIfInBounds, List.length_cons]
      have hlen : o < cur0.toList.length := by simp; omega
      rw [List.take_succ_eq_append_getElem (by simpa using hlen), List.take_set_of_le (Nat.le_refl _), List.getElem_set_self]
      rw [List.drop_set_of_lt (by omega)]
      simp [Nat.add_assoc, Nat.add_comm]
      try congr 1; omega
  rw [hset cells.toList 0 w old hbox (by simp; omega)]
  have hsp : (splice old.toList 0 cells.toList).toArray = cells := by
    simp only [splice, List.take_zero, List.nil_append, Nat.zero_add]
    rw [List.drop_of_length_le (by simp; omega)]
    simp
  rw [hsp]
  exact h _ (setRow_heap w b old _ t _ hbox) ⟨rfl, rfl, rfl, by simp [World.setRow], fun j _ hj => setRow_other w b j _ (fun e => hj (by simp [e]))⟩

/-- A struct stored into the middle of a box. -/
theorem wpList_store_box_at {P : Program} {w : World} {ops : Array Oper} {rest : List Oper} {op : Oper} {a : Act} {Q : Exit → Act → World → Prop} (hgd : op.guard = none) (ty : TypeId) (x y : Operand) (ho : op.op = .store ty x y)
    (b t o : Nat) (old cells new : Array Value) (hx : a.eval x = .pointer (some ⟨b, o, none⟩)) (hy : a.eval y = .agg cells) (hbox : Box w b t old) (hsz : o + cells.size ≤ old.size)
    (hi : (P.info? ty).map (·.size) = some cells.size) (h1 : cells.all (·.oneCell') = true) (hnew : (splice old.toList o cells.toList).toArray = new)
    (h : ∀ w', Box w' b t new → w.grownBy w' (some b) → wpList P ops Q rest (a.put op.dst undef) w') : wpList P ops Q (op :: rest) a w := by
  have hth : w.there b o cells.size := fun j hj => by
    refine ⟨?_, hbox.frozen _⟩
    rw [hbox.cell, Array.getElem?_eq_getElem (by omega)]
    rfl
  refine wpList_store_mid hgd ty x y ho b o cells hx hy hth hi h1 ?_
  have hset : ∀ (vs : List Value) (o : Nat) (w0 : World) (cur0 : Array Value), w0.heap[b]? = some (.cells cur0 t (0, 0)) → o + vs.length ≤ cur0.size →
      w0.setCells b o vs = w0.setRow b (splice cur0.toList o vs).toArray := by
    intro vs
    induction vs with
    | nil => intro o w0 cur0 hg0 _; simp [World.setCells, splice]; rw [setRow_self w0 b cur0 t (0, 0) hg0]
    | cons v r ih =>
      intro o w0 cur0 hg0 hl
      simp only [List.length_cons] at hl
      simp only [World.setCells]
      rw [setCell_eq_setRow w0 b o cur0 t (0, 0) v hg0, ih (o + 1) _ _ (setRow_heap w0 b cur0 _ t _ hg0) (by simp; omega), setRow_setRow]
      congr 2
      simp only [splice, Array.toList_setIfInBounds, List.length_cons]
      have hlen : o < cur0.toList.length := by simp; omega
      rw [List.take_succ_eq_append_getElem (by simpa using hlen), List.take_set_of_le (Nat.le_refl _), List.getElem_set_self]
      rw [List.drop_set_of_lt (by omega)]
      simp [Nat.add_assoc, Nat.add_comm]
      try congr 1; omega
  rw [hset cells.toList o w old hbox (by simp; omega), hnew]
  exact h _ (setRow_heap w b old _ t _ hbox) ⟨rfl, rfl, rfl, by simp [World.setRow], fun j _ hj => setRow_other w b j _ (fun e => hj (by simp [e]))⟩

/-- An entry, if it may be. -/
def ifRight (e : En) : Option En := if e.wrong = 0 then some e else none
/-- The entry of the numbers, and of the text of its bytes. -/
def finish (ns : List Int) (t : List UInt8) : Option En :=
  let k := ns.getD 0 0
  if k = 1 then match unhexP t with | none => none | some b => if ns.length = 2 then ifRight ⟨1, ns.getD 1 0, ⟨b.toArray⟩, 0, 0, 0, 0, 0, 0⟩ else none
  else if k = 3 ∨ k = 4 then if ns.length = 2 then ifRight ⟨k, ns.getD 1 0, ⟨#[]⟩, 0, 0, 0, 0, 0, 0⟩ else none
  else if k = 2 then if ns.length = 6 then if ns.getD 5 0 < 0 ∨ 2147483648 ≤ ns.getD 5 0 then none else ifRight ⟨2, 0, ⟨#[]⟩, ns.getD 1 0, ns.getD 2 0, ns.getD 3 0, ns.getD 4 0, ns.getD 5 0, 0⟩ else none
  else if ns.length = 1 then ifRight ⟨k, 0, ⟨#[]⟩, 0, 0, 0, 0, 0, 0⟩ else none
/-- The words that are numbers; the text. -/
def numWords (ws : List (List UInt8)) : List (List UInt8) := if ws.getD 0 [] = [49] ∧ ws.length = 3 then ws.take 2 else ws
def textWord (ws : List (List UInt8)) : List UInt8 := if ws.getD 0 [] = [49] ∧ ws.length = 3 then ws.getD 2 [] else []
def numsOf (us : List (List UInt8)) : List Int := us.map fun u => (num? u).getD 0
def recEntry (l : List UInt8) : Option En :=
  if ∀ u ∈ numWords (wordsOf l), (num? u).isSome = true then finish (numsOf (numWords (wordsOf l))) (textWord (wordsOf l)) else none

def zeroEn : En := ⟨0, 0, ⟨#[]⟩, 0, 0, 0, 0, 0, 0⟩
def EntryPost (o : Option En) (w : World) (r : Ending) (w' : World) : Prop := r = .returned (.tuple #[(o.getD zeroEn).val, .bool o.isSome]) ∧ Below w.heap.size w w'

theorem wordsOf_pos (l : List UInt8) : 0 < (wordsOf l).length := by
  cases h : wordsOf l with
  | nil => exact absurd h (wordsOf_ne l)
  | cons a b => simp
theorem words_le (l : List UInt8) : ∀ u ∈ wordsOf l, u.length ≤ l.length := by
  induction l with
  | nil => intro u hu; simp [wordsOf] at hu; subst hu; simp
  | cons c r ih =>
    intro u hu
    unfold wordsOf at hu
    split at hu
    · rcases List.mem_cons.1 hu with h | h
      · subst h; simp
      · have := ih u h; simp; omega
    · split at hu
      · next h t hw =>
        rcases List.mem_cons.1 hu with h' | h'
        · subst h'
          have := ih h (by rw [hw]; simp)
          simp; omega
        · have := ih u (by rw [hw]; simp [h'])
          simp; omega
      · simp at hu; subst hu; simp
end Go.Proofs.YtlgepoiaolhajaaDoor
