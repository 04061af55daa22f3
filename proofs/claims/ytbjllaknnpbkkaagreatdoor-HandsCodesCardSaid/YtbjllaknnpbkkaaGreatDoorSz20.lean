/-
  The evaluator: a drawn region comes to the same facts in every order.
-/
import Derived.Test.YtbjllaknnpbkkaaGreatDoorSz19
namespace Go.Proofs.YtbjllaknnpbkkaaGreatDoor
namespace Ev
open Go.RowKit

section
variable {P : Program} {r : Rec} {ops : Array Oper} {nt : Nat}

/-- The state that an operation of a drawn region begins with: no marks. -/
def bare (s : St) : St := ⟨s.c, s.h, 0, 0, s.o⟩
def joined (s t : St) : St := ⟨t.c, t.h, Nat.lor s.l t.l, Nat.lor s.w t.w, t.o⟩

theorem in_lt {l c j : Nat} (h : Nat.shiftRight l c = 0) (hj : In l j) : j < c := by
  rcases Nat.lt_or_ge j c with hlt | hge
  · exact hlt
  · exfalso
    have h1 : (l >>> c).testBit (j - c) = l.testBit (c + (j - c)) := Nat.testBit_shiftRight l
    rw [show l >>> c = 0 from h, show c + (j - c) = j by omega, show l.testBit j = true from hj] at h1
    simp at h1

structure Trace (P : Program) (r : Rec) (ops : Array Oper) (nt k n : Nat) (A : Nat → T AV) (S Tt : Nat → St) : Prop where
  one : ∀ i, k ≤ i → i < n → ∃ o, ops[i]? = some o ∧ evOne P r nt ops.toList (A i) o (bare (S i)) = some (A (i + 1), Tt i)
  c : ∀ i, k ≤ i → i < n → (S i).c ≤ (Tt i).c
  lt : ∀ i, k ≤ i → i < n → ∀ j, In (Tt i).l j → j < (Tt i).c
  next : ∀ i, k ≤ i → i < n → S (i + 1) = joined (S i) (Tt i)
def logOf (Tt : Nat → St) (i : Nat) : Log := ⟨i, (Tt i).l, (Tt i).w⟩

theorem evDrawn_trace (anc : List Nat) : ∀ (l : List Oper) (k : Nat) {a a' : T AV} {s s' : St} {ls : List Log}, ops.toList.drop k = l → evDrawn P r nt ops.toList l k a s = some (a', s', ls) →
    ∃ A S Tt, Trace P r ops nt k (k + l.length) A S Tt ∧ A k = a ∧ S k = s ∧ A (k + l.length) = a' ∧ S (k + l.length) = s' ∧
      (∀ i, k ≤ i → i < k + l.length → (Tt i).l = 0 ∨ logOf Tt i ∈ ls) ∧
      (logsOk anc ls = true → ∀ i j, k ≤ i → i < j → j < k + l.length → (Tt i).l = 0 ∨ (Tt j).l = 0 ∨ logsApart anc (logOf Tt i) (logOf Tt j) = true) := by
  intro l
  induction l with
  | nil =>
    intro k a a' s s' ls _ h
    cases h
    refine ⟨fun _ => a, fun _ => s, fun _ => s, ⟨?_, ?_, ?_, ?_⟩, rfl, rfl, rfl, rfl, ?_, ?_⟩
    all_goals (try (intro i h1 h2; simp at h2; omega))
    intro _ i j h1 h2 h3
    simp at h3
    omega
  | cons o l ih =>
    intro k a a' s s' ls hk h
    have h' : oc2 (evOne P r nt ops.toList a o (bare s)) (fun a1 t => t.force fun t => oc (logged s t) fun s2 => s2.force fun s2 => oc2 (evDrawn P r nt ops.toList l (Nat.succ k) a1 s2) (logOn k t)) = some (a', s', ls) := h
    obtain ⟨a1, t, h1, h2⟩ := oc2_some h'
    rw [St.force_eq] at h2
    obtain ⟨s2, h3, h4⟩ := oc_some h2
    rw [St.force_eq] at h4
    obtain ⟨a2, x, h5, h6⟩ := oc2_some h4
    obtain ⟨s3, ls3⟩ := x
    clear h h' h2 h4
    obtain ⟨hc, h7⟩ := bc_some h3
    obtain ⟨hsh, h8⟩ := bc_some h7
    cases h8
    have hi : ops[k]? = some o := by
      rw [← Array.getElem?_toList]
      have := congrArg (fun l => l[0]?) hk
      simpa using this
    have hk' : ops.toList.drop (k + 1) = l := by rw [← List.drop_drop, hk]; rfl
    obtain ⟨A, S, Tt, ⟨q1, q2, q3, q4⟩, hA, hS, hA', hS', hlog, hpair⟩ := ih (k + 1) hk' h5
    have hlen : k + 1 + l.length = k + (o :: l).length := by simp; omega
    rw [hlen] at q1 q2 q3 q4 hA' hS' hlog hpair
    have hfin : a' = a2 ∧ s' = s3 ∧ ((t.l = 0 ∧ ls = ls3) ∨ ls = ⟨k, t.l, t.w⟩ :: ls3) := by
      unfold logOn at h6
      cases hb : Nat.beq t.l 0 with
      | true => rw [show Nat.beq t.l (nat_lit 0) = Nat.beq t.l 0 from rfl, hb] at h6; cases h6; exact ⟨rfl, rfl, .inl ⟨by simpa using hb, rfl⟩⟩
      | false => rw [show Nat.beq t.l (nat_lit 0) = Nat.beq t.l 0 from rfl, hb] at h6; cases h6; exact ⟨rfl, rfl, .inr rfl⟩
    obtain ⟨rfl, rfl, hls⟩ := hfin
    have ne : ∀ i, k + 1 ≤ i → i ≠ k := fun i h => by omega
    refine ⟨fun i => if i = k then a else A i, fun i => if i = k then s else S i, fun i => if i = k then t else Tt i, ⟨?_, ?_, ?_, ?_⟩, by simp, by simp, ?_, ?_, ?_, ?_⟩
    · intro i h1' h2'
      by_cases hik : i = k
      · subst hik
        exact ⟨o, hi, by simp [hA, h1]⟩
      · have := q1 i (by omega) h2'
        simpa [hik, show i + 1 ≠ k by omega] using this
    · intro i h1' h2'
      by_cases hik : i = k
      · subst hik; simpa using hc
      · simpa [hik] using q2 i (by omega) h2'
    · intro i h1' h2' j hj
      by_cases hik : i = k
      · subst hik
        simp at hj ⊢
        exact in_lt (by simpa using hsh) hj
      · simp [hik] at hj ⊢
        exact q3 i (by omega) h2' j hj
    · intro i h1' h2'
      by_cases hik : i = k
      · subst hik; simp [hS, joined]
      · have := q4 i (by omega) h2'
        simpa [hik, show i + 1 ≠ k by omega] using this
    · simp only [List.length_cons, show k + (l.length + 1) ≠ k by omega, if_false]
      simpa using hA'
    · simp only [List.length_cons, show k + (l.length + 1) ≠ k by omega, if_false]
      simpa using hS'
    · intro i h1' h2'
      by_cases hik : i = k
      · subst hik
        rcases hls with ⟨h0, _⟩ | rfl
        · left; simpa using h0
        · right; simp [logOf]
      · rcases hlog i (by omega) h2' with h0 | h0
        · left; simpa [hik] using h0
        · right
          rcases hls with ⟨_, rfl⟩ | rfl
          · simpa [logOf, hik] using h0
          · simp only [logOf, hik, if_false]
            exact List.mem_cons_of_mem _ h0
    · intro hok i j h1' h2' h3'
      have hjk : j ≠ k := by omega
      by_cases hik : i = k
      · subst hik
        rcases hls with ⟨h0, _⟩ | rfl
        · left; simpa using h0
        · rcases hlog j (by omega) h3' with h0 | h0
          · right; left; simpa [hjk] using h0
          · right; right
            simp only [logsOk] at hok
            split at hok
            · rename_i hx
              have := logsApart1_ok hx _ h0
              simpa [logOf, hjk] using this
            · cases hok
      · have hok' : logsOk anc ls3 = true := by
          rcases hls with ⟨_, rfl⟩ | rfl
          · exact hok
          · simp only [logsOk] at hok
            split at hok
            · exact hok
            · cases hok
        have := hpair hok' i j (by omega) h2' h3'
        simpa [logOf, hik, hjk] using this
end
end Ev
end Go.Proofs.YtbjllaknnpbkkaaGreatDoor
