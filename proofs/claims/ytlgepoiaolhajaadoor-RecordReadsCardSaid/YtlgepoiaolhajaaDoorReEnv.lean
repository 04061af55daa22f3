/-
  What the calls of Go's library read of the program's variables; Atoi, Cut and Split as this claim uses them.
-/
import Derived.Test.YtlgepoiaolhajaaDoorShelf
import Derived.Test.YtlgepoiaolhajaaDoorRePlain
import Derived.Lib.Split
import Derived.Lib.SplitLaws
import Derived.Lib.CountLaws
namespace Go.Proofs.YtlgepoiaolhajaaDoor
open Go.RowKit

/-- The variables of Go's library that are read. -/
structure Env (w : World) : Prop where
  tab : Tab w
  syn : ∃ t v, w.cell? ⟨2, 0, none⟩ = some (.iface t v)
  rng : ∃ t v, w.cell? ⟨3, 0, none⟩ = some (.iface t v)
  mx : ∃ m, w.cell? ⟨0, 0, none⟩ = some (.int .i64 m)
theorem Env.below {w w' : World} (h : Env w) (hb : Below w.heap.size w w') : Env w' := by
  obtain ⟨ht, ⟨t1, v1, h1⟩, ⟨t2, v2, h2⟩, ⟨m, h3⟩⟩ := h
  exact ⟨ht.below hb, ⟨t1, v1, (hb.cell (block_lt_of_cell h1)).trans h1⟩, ⟨t2, v2, (hb.cell (block_lt_of_cell h2)).trans h2⟩, ⟨m, (hb.cell (block_lt_of_cell h3)).trans h3⟩⟩

def AtoiPost (l : List UInt8) (w : World) (r : Ending) (w' : World) : Prop :=
  Below w.heap.size w w' ∧ ((∃ v, Lib.atoiAll l = .ok v ∧ r = .returned (.tuple #[.int .i64 v, .nilIface])) ∨
    ((∀ v, Lib.atoiAll l ≠ .ok v) ∧ ∃ v t N, r = .returned (.tuple #[.int .i64 v, .iface t (.pointer (some ⟨N, 0, none⟩))])))

theorem below_bytesWorld (w : World) (e : TypeId) (t : ByteArray) : Below w.heap.size w (Lib.bytesWorld w e t) := by
  unfold Lib.bytesWorld
  exact Lib.below_freeze (((Below.refl _ _).drew).alloc (Nat.le_refl _) _) (p := ⟨w.heap.size, _, none⟩) (Nat.le_refl _) _

theorem atoi_any (s : ByteArray) (w : World) (hs : s.size ≤ 281474976710656) (h : Env w) : Calls Tryd.prog 35 #[.string s] w (AtoiPost s.data.toList w) := by
  obtain ⟨-, ⟨t1, v1, h1⟩, ⟨t2, v2, h2⟩, -⟩ := h
  cases hh : Lib.atoiAll s.data.toList with
  | ok v =>
    refine (Tryd.strconv_Atoi_ok s (by omega) v hh w).mono ?_
    rintro e w' ⟨rfl, hw⟩
    refine ⟨?_, .inl ⟨v, hh, rfl⟩⟩
    rcases hw with rfl | ⟨t, rfl⟩
    · exact Below.refl _ _
    · exact below_bytesWorld _ _ _
  | range =>
    refine (Any.strconv_Atoi_range Tryd.laysC172 s hs hh (.iface t2 v2) w h2 (.inr ⟨_, _, rfl⟩)).mono ?_
    rintro e w' ⟨N, rfl, _, _, hb⟩
    exact ⟨hb, .inr ⟨(fun v h => by rw [hh] at h; cases h), _, _, N, rfl⟩⟩
  | _ =>
    refine (Any.strconv_Atoi_syntax Tryd.laysC172 s hs hh (.iface t1 v1) w h1 (.inr ⟨_, _, rfl⟩)).mono ?_
    rintro e w' ⟨N, rfl, _, _, hb⟩
    exact ⟨hb, .inr ⟨(fun v h => by rw [hh] at h; cases h), _, _, N, rfl⟩⟩

/-- The words of a text: what stands between its blanks. -/
def wordsOf : List UInt8 → List (List UInt8)
  | [] => [[]]
  | c :: r => if c = 32 then [] :: wordsOf r else match wordsOf r with | h :: t => (c :: h) :: t | [] => [[c]]
theorem wordsOf_ne (l : List UInt8) : wordsOf l ≠ [] := by
  cases l with
  | nil => simp [wordsOf]
  | cons c r =>
    unfold wordsOf
    split
    · simp
    · split <;> simp
theorem wordsOf_none (a : List UInt8) (h : (32 : UInt8) ∉ a) : wordsOf a = [a] := by
  induction a with
  | nil => rfl
  | cons c r ih =>
    simp only [List.mem_cons, not_or] at h
    unfold wordsOf
    rw [if_neg (fun e => h.1 e.symm), ih h.2]
theorem wordsOf_cons (a b : List UInt8) (h : (32 : UInt8) ∉ a) : wordsOf (a ++ 32 :: b) = a :: wordsOf b := by
  induction a with
  | nil => simp [wordsOf]
  | cons c r ih =>
    simp only [List.mem_cons, not_or] at h
    rw [List.cons_append, wordsOf, if_neg (fun e => h.1 e.symm), ih h.2]
/-- A byte that is there: what stands ahead of the first one, and behind it. -/
theorem first_of (c : UInt8) (l : List UInt8) (h : c ∈ l) : ∃ a b, l = a ++ c :: b ∧ c ∉ a := by
  induction l with
  | nil => cases h
  | cons d r ih =>
    by_cases hd : d = c
    · subst hd
      exact ⟨[], r, rfl, by simp⟩
    · rcases List.mem_cons.1 h with h1 | h1
      · exact absurd h1.symm hd
      · obtain ⟨a, b, rfl, hn⟩ := ih h1
        exact ⟨d :: a, b, rfl, by simp only [List.mem_cons, not_or]; exact ⟨fun e => hd e.symm, hn⟩⟩
theorem index_first_of (c : UInt8) (a b : List UInt8) (h : c ∉ a) : Lib.index (a ++ c :: b) [c] = (a.length : Int) := by
  rw [Lib.index_one]
  induction a with
  | nil => simp [Lib.indexByte]
  | cons d r ih =>
    simp only [List.mem_cons, not_or] at h
    rw [List.cons_append]
    unfold Lib.indexByte
    rw [if_neg (by simp; exact fun e => h.1 e.symm), ih h.2, if_neg (by first | (simp; done) | (simp; omega))]
    simp
theorem index_none_of (c : UInt8) (l : List UInt8) (h : c ∉ l) : Lib.index l [c] = -1 := by
  rw [Lib.index_one]
  induction l with
  | nil => rfl
  | cons d r ih =>
    simp only [List.mem_cons, not_or] at h
    unfold Lib.indexByte
    rw [if_neg (by simp; exact fun e => h.1 e.symm), ih h.2, if_pos (by simp)]
theorem split_words (n : Nat) : ∀ l : List UInt8, l.length ≤ n → Lib.splitK [32] 0 (Lib.count l [32]) l = wordsOf l := by
  induction n with
  | zero =>
    intro l hl
    have : l = [] := List.eq_nil_of_length_eq_zero (by omega)
    subst this
    rfl
  | succ n ih =>
    intro l hl
    by_cases h : (32 : UInt8) ∈ l
    · obtain ⟨a, b, rfl, hn⟩ := first_of 32 l h
      rw [Lib.count_one]
      have hc : (a ++ 32 :: b).count 32 = b.count 32 + 1 := by
        rw [List.count_append, List.count_cons_self, List.count_eq_zero.2 hn]; omega
      rw [hc, Lib.splitK, index_first_of 32 a b hn, if_neg (by first | (simp; done) | (simp; omega)), wordsOf_cons a b hn, ← Lib.count_one]
      simp only [Int.toNat_natCast, Nat.add_zero, List.length_singleton]
      have h1 : (a ++ 32 :: b).take a.length = a := by simp
      have h2 : (a ++ 32 :: b).drop (a.length + 1) = b := by rw [List.drop_append, List.drop_of_length_le (by omega)]; simp
      rw [h1, h2, ih b (by simp at hl; omega)]
    · rw [Lib.count_one, List.count_eq_zero.2 h, Lib.splitK, wordsOf_none l h]
theorem words_count (l : List UInt8) : (wordsOf l).length = Lib.count l [32] + 1 := by
  rw [Lib.count_one]
  induction l with
  | nil => rfl
  | cons c r ih =>
    unfold wordsOf
    by_cases h : c = 32
    · subst h
      rw [if_pos rfl, List.length_cons, ih, List.count_cons_self]
    · rw [if_neg h, List.count_cons_of_ne (fun e => h e)]
      cases hw : wordsOf r with
      | nil => exact absurd hw (wordsOf_ne r)
      | cons x y => rw [hw] at ih; simpa using ih

/-- strings.Split at a blank: the words, in a new block. -/
def SplitPost (l : List UInt8) (w : World) (r : Ending) (w' : World) : Prop :=
  r = .returned (.slice (some ⟨w.heap.size, 0, none⟩) (wordsOf l).length (wordsOf l).length) ∧ w' = w.alloc (.cells ((wordsOf l).map fun x => Value.string ⟨x.toArray⟩).toArray 9)
theorem split_any (s : ByteArray) (w : World) (hs : s.size < 4294967281) (h : Env w) : Calls Tryd.prog 34 #[.string s, .string ⟨#[32]⟩] w (SplitPost s.data.toList w) := by
  obtain ⟨m, hm⟩ := h.mx
  refine (Tryd.strings_Split s ⟨#[32]⟩ m w hs hm (by decide)).mono ?_
  rintro e w' ⟨rfl, rfl⟩
  have h1 : Lib.countB s ⟨#[32]⟩ + 1 = (wordsOf s.data.toList).length := (words_count _).symm
  have h2 : (Lib.splitB ⟨#[32]⟩ 0 (Lib.countB s ⟨#[32]⟩) s).map Value.string = (wordsOf s.data.toList).map fun x => Value.string ⟨x.toArray⟩ := by
    have := Lib.splitB_data ⟨#[32]⟩ 0 (Lib.countB s ⟨#[32]⟩) s
    have h3 := split_words _ s.data.toList (Nat.le_refl _)
    rw [← h3]
    show _ = List.map _ (Lib.splitK (ByteArray.mk #[32]).data.toList 0 (Lib.countB s ⟨#[32]⟩) s.data.toList)
    rw [← this, List.map_map]
    apply List.map_congr_left
    intro x _
    cases x with | mk d => cases d with | mk l => rfl
  exact ⟨by rw [h1], by rw [h2]⟩

/-- strings.Cut at a line feed. -/
def CutPost (l : List UInt8) (w : World) (r : Ending) (w' : World) : Prop :=
  (∃ n, w' = w.drewN n) ∧ ((∃ a b, l = a ++ 10 :: b ∧ (10 : UInt8) ∉ a ∧ r = .returned (.tuple #[.string ⟨a.toArray⟩, .string ⟨b.toArray⟩, .bool true])) ∨
    ((10 : UInt8) ∉ l ∧ r = .returned (.tuple #[.string ⟨l.toArray⟩, .string ⟨#[]⟩, .bool false])))
theorem cut_any (s : ByteArray) (w : World) (hs : s.size < 4294967281) (h : Env w) : Calls Tryd.prog 27 #[.string s, .string ⟨#[10]⟩] w (CutPost s.data.toList w) := by
  obtain ⟨m, hm⟩ := h.mx
  refine (Tryd.strings_Cut s ⟨#[10]⟩ m w hs hm).mono ?_
  rintro e w' ⟨rfl, hw⟩
  refine ⟨hw, ?_⟩
  by_cases hin : (10 : UInt8) ∈ s.data.toList
  · obtain ⟨a, b, hl, hn⟩ := first_of 10 _ hin
    refine .inl ⟨a, b, hl, hn, ?_⟩
    have hc : Lib.cut s.data.toList (ByteArray.mk #[10]).data.toList = (a, b, true) := by
      unfold Lib.cut
      rw [hl, index_first_of 10 a b hn, if_pos (by omega)]
      simp only [Int.toNat_natCast, List.length_singleton]
      have h1 : (a ++ 10 :: b).take a.length = a := by simp
      have h2 : (a ++ 10 :: b).drop (a.length + 1) = b := by rw [List.drop_append, List.drop_of_length_le (by omega)]; simp
      rw [h1, h2]
    rw [hc]
  · refine .inr ⟨hin, ?_⟩
    have hc : Lib.cut s.data.toList (ByteArray.mk #[10]).data.toList = (s.data.toList, [], false) := by
      unfold Lib.cut
      rw [index_none_of 10 _ hin, if_neg (by omega)]
    rw [hc]
end Go.Proofs.YtlgepoiaolhajaaDoor
