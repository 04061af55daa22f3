/-
  The evaluator: regions whose order is drawn.
  The evaluator: a drawn region comes to the same facts in every order.
  The evaluator: drawn regions.
  The evaluator: drawn regions, whole.
-/
import Derived.Test.YtnjpdipombnigaaGreatDoorYh
namespace Go.Proofs.YtnjpdipombnigaaGreatDoor
namespace Ev
open Go.RowKit

/-- The last of those done that write: k - 1; none: 0. -/
def Cur (n : Nat) (D Wr : Nat → Prop) (k : Nat) : Prop :=
  (k = 0 ∧ ∀ j, j < n → D j → ¬ Wr j) ∨ ∃ j, j < n ∧ k = j + 1 ∧ D j ∧ Wr j ∧ ∀ j', j' < n → D j' → j < j' → ¬ Wr j'
theorem Cur.exists (n : Nat) (D Wr : Nat → Prop) : ∃ k, Cur n D Wr k := by
  induction n with
  | zero => exact ⟨0, .inl ⟨rfl, fun j hj => absurd hj (Nat.not_lt_zero _)⟩⟩
  | succ n ih =>
    by_cases h : D n ∧ Wr n
    · exact ⟨n + 1, .inr ⟨n, by omega, rfl, h.1, h.2, fun j' h1 _ h2 => absurd h1 (by omega)⟩⟩
    · obtain ⟨k, hk⟩ := ih
      refine ⟨k, ?_⟩
      rcases hk with ⟨rfl, hk⟩ | ⟨j, h1, h2, h3, h4, h5⟩
      · refine .inl ⟨rfl, fun j hj hd hw => ?_⟩
        by_cases hjn : j = n
        · subst hjn; exact h ⟨hd, hw⟩
        · exact hk j (by omega) hd hw
      · refine .inr ⟨j, by omega, h2, h3, h4, fun j' hj' hd hlt hw => ?_⟩
        by_cases hjn : j' = n
        · subst hjn; exact h ⟨hd, hw⟩
        · exact h5 j' (by omega) hd hlt hw
theorem const_run {β : Type} (f : Nat → β) {a b : Nat} (hab : a ≤ b) (h : ∀ j, a ≤ j → j < b → f (j + 1) = f j) : f b = f a := by
  induction b with
  | zero => have : a = 0 := by omega
            rw [this]
  | succ b ih =>
    by_cases hb : a ≤ b
    · rw [h b hb (by omega)]; exact ih hb fun j h1 h2 => h j h1 (by omega)
    · have : a = b + 1 := by omega
      rw [this]
/-- What is there for one that is ready is what was there for it in the text's order. -/
theorem Cur.ready {n i : Nat} {D Wr : Nat → Prop} (hi : i ≤ n) (hord : ∀ j, j < n → Wr j → (j < i ∧ D j) ∨ (i ≤ j ∧ ¬ D j)) {k : Nat} (hc : Cur n D Wr k) {β : Type} (f : Nat → β) (hf : ∀ j, j < n → ¬ Wr j → f (j + 1) = f j) : f k = f i := by
  rcases hc with ⟨rfl, hk⟩ | ⟨j, h1, rfl, h3, h4, h5⟩
  · refine (const_run f (Nat.zero_le _) fun j _ hj => hf j (by omega) fun hw => ?_).symm
    rcases hord j (by omega) hw with ⟨_, hd⟩ | ⟨hle, _⟩
    · exact hk j (by omega) hd hw
    · omega
  · have hji : j < i := by
      rcases hord j h1 h4 with ⟨hlt, _⟩ | ⟨_, hnd⟩
      · exact hlt
      · exact absurd h3 hnd
    refine (const_run f (by omega) fun j' h6 h7 => hf j' (by omega) fun hw => ?_).symm
    rcases hord j' (by omega) hw with ⟨_, hd⟩ | ⟨hle, _⟩
    · exact h5 j' (by omega) hd (by omega) hw
    · omega
theorem Cur.step_not {n i k : Nat} {D Wr : Nat → Prop} (hw : ¬ Wr i) (h : Cur n (fun j => D j ∨ j = i) Wr k) : Cur n D Wr k := by
  rcases h with ⟨rfl, hk⟩ | ⟨j, h1, h2, h3, h4, h5⟩
  · exact .inl ⟨rfl, fun j hj hd => hk j hj (.inl hd)⟩
  · refine .inr ⟨j, h1, h2, ?_, h4, fun j' hj' hd => h5 j' hj' (.inl hd)⟩
    rcases h3 with h3 | rfl
    · exact h3
    · exact absurd h4 hw
theorem Cur.step_is {n i k : Nat} {D Wr : Nat → Prop} (hi : i < n) (hw : Wr i) (hord : ∀ j, j < n → Wr j → D j → j < i) (h : Cur n (fun j => D j ∨ j = i) Wr k) : k = i + 1 := by
  rcases h with ⟨rfl, hk⟩ | ⟨j, h1, rfl, h3, h4, h5⟩
  · exact absurd hw (hk i hi (.inr rfl))
  · rcases h3 with h3 | rfl
    · exact absurd hw (h5 i hi (.inr rfl) (hord j h1 h4 h3))
    · rfl

/-- How many are done. -/
def card (D : Nat → Bool) : Nat → Nat
  | 0 => 0
  | k + 1 => card D k + (if D k then 1 else 0)
theorem card_le (D : Nat → Bool) : ∀ n, card D n ≤ n
  | 0 => Nat.le_refl _
  | n + 1 => by have := card_le D n; simp only [card]; split <;> omega
theorem card_all (D : Nat → Bool) : ∀ n, card D n = n → ∀ j, j < n → D j = true
  | 0, _, j, hj => absurd hj (Nat.not_lt_zero _)
  | n + 1, h, j, hj => by
    have hle := card_le D n
    simp only [card] at h
    by_cases hd : D n = true
    · simp [hd] at h
      by_cases hjn : j = n
      · subst hjn; exact hd
      · exact card_all D n h j (by omega)
    · simp [hd] at h; omega
theorem card_set (D D' : Nat → Bool) (i : Nat) (hi : D i = false) (hi' : D' i = true) (hne : ∀ j, j ≠ i → D' j = D j) : ∀ n, card D' n = card D n + (if i < n then 1 else 0)
  | 0 => rfl
  | n + 1 => by
    have ih := card_set D D' i hi hi' hne n
    simp only [card, ih]
    by_cases hin : i = n
    · subst hin; simp [hi, hi']
    · rw [hne n (fun e => hin e.symm)]
      by_cases h1 : i < n
      · have : i < n + 1 := by omega
        simp [h1, this]; omega
      · have : ¬ i < n + 1 := by omega
        simp [h1, this]

/-- Reached by edges that bind. -/
inductive Reach (ops : Array Oper) : Nat → Nat → Prop
  | edge {i j : Nat} {o : Oper} {e : Edge} (ho : ops[j]? = some o) (he : e ∈ o.after) (hb : Region.binds .any e = true) (hi : e.on = i) : Reach ops i j
  | step {i k j : Nat} {o : Oper} {e : Edge} (h : Reach ops i k) (ho : ops[j]? = some o) (he : e ∈ o.after) (hb : Region.binds .any e = true) (hk : e.on = k) : Reach ops i j
theorem ancOf_ok {acc : List Nat} {i : Nat} : ∀ (l : List Edge), In (ancOf acc l) i → ∃ e ∈ l, Region.binds .any e = true ∧ ∃ m, acc[e.on]? = some m ∧ (e.on = i ∨ In m i) := by
  intro l
  induction l with
  | nil => intro h; exact absurd h (not_in_zero _)
  | cons e l ih =>
    intro h
    simp only [ancOf] at h
    split at h
    · rename_i m hb hm
      rw [nth_get] at hm
      rcases (in_lor _ _ _).1 h with h | h
      · rcases (in_lor _ _ _).1 h with h | h
        · exact ⟨e, by simp, hb, m, hm, .inr h⟩
        · exact ⟨e, by simp, hb, m, hm, .inl ((in_bit _ _).1 h)⟩
      · obtain ⟨e', he', q⟩ := ih h
        exact ⟨e', by simp [he'], q⟩
    · obtain ⟨e', he', q⟩ := ih h
      exact ⟨e', by simp [he'], q⟩
theorem ancs_ok {ops : Array Oper} : ∀ (l : List Oper) (acc : List Nat), ops.toList.drop acc.length = l → (∀ j m i, acc[j]? = some m → In m i → Reach ops i j) → ∀ j m i, (ancs l acc)[j]? = some m → In m i → Reach ops i j := by
  intro l
  induction l with
  | nil => intro acc _ h; exact h
  | cons o l ih =>
    intro acc hk h
    have hi : ops[acc.length]? = some o := by
      rw [← Array.getElem?_toList]
      have := congrArg (fun l => l[0]?) hk
      simpa using this
    refine ih (acc ++ [ancOf acc o.after.toList]) (by rw [List.length_append, ← List.drop_drop, hk]; rfl) ?_
    intro j m i hj hm
    rw [List.getElem?_append] at hj
    split at hj
    · exact h j m i hj hm
    · rename_i hlt
      have hjl : j = acc.length := by
        have := (List.getElem?_eq_some_iff.1 hj).1
        simp at this; omega
      subst hjl
      simp at hj
      subst hj
      obtain ⟨e, he, hb, m, hm', hor⟩ := ancOf_ok _ hm
      have he' : e ∈ o.after := by simpa using he
      rcases hor with hor | hor
      · exact .edge hi he' hb hor
      · exact .step (h e.on m i hm' hor) hi he' hb rfl
/-- What is ahead has been done. -/
def Closed (ops : Array Oper) (D : Nat → Prop) : Prop := ∀ j o e, D j → ops[j]? = some o → e ∈ o.after → Region.binds .any e = true → D e.on
theorem Reach.done {ops : Array Oper} {D : Nat → Prop} (hc : Closed ops D) {i j : Nat} (h : Reach ops i j) (hj : D j) : D i := by
  induction h with
  | edge ho he hb hi => exact hi ▸ hc _ _ _ hj ho he hb
  | step h ho he hb hk ih => exact ih (hk ▸ hc _ _ _ hj ho he hb)
theorem Reach.ready {ops : Array Oper} {D : Nat → Prop} (hc : Closed ops D) {i j : Nat} (h : Reach ops i j) (hr : ∀ o e, ops[j]? = some o → e ∈ o.after → Region.binds .any e = true → D e.on) : D i := by
  cases h with
  | edge ho he hb hi => exact hi ▸ hr _ _ ho he hb
  | step h ho he hb hk => exact h.done hc (hk ▸ hr _ _ ho he hb)

theorem testBit_in {m i : Nat} : Nat.testBit m i = true ↔ In m i := Iff.rfl
theorem land_zero {a b : Nat} (h : Nat.land a b = 0) (j : Nat) (ha : In a j) (hb : In b j) : False := by
  have : (a &&& b).testBit j = true := by rw [Nat.testBit_and]; simp [show a.testBit j = true from ha, show b.testBit j = true from hb]
  rw [show a &&& b = 0 from h] at this
  simp at this
theorem logsApart_ok {anc : List Nat} {x y : Log} (h : logsApart anc x y = true) : (∃ m, anc[y.i]? = some m ∧ In m x.i) ∨ (∀ j, In x.w j → In y.l j → False) ∧ (∀ j, In y.w j → In x.l j → False) := by
  unfold logsApart at h
  split at h
  · rename_i m hm
    rw [nth_get] at hm
    split at h
    · rename_i hb; exact .inl ⟨m, hm, hb⟩
    · split at h
      · rename_i h1 h2; exact .inr ⟨fun j => land_zero h1 j, fun j => land_zero h2 j⟩
      · cases h
  · cases h
theorem logsApart1_ok {anc : List Nat} {x : Log} : ∀ {l : List Log}, logsApart1 anc x l = true → ∀ y ∈ l, logsApart anc x y = true := by
  intro l
  induction l with
  | nil => intro _ y hy; cases hy
  | cons z l ih =>
    intro h y hy
    simp only [logsApart1] at h
    split at h
    · rename_i hz
      cases hy with
      | head => exact hz
      | tail _ hm => exact ih h y hm
    · cases h
theorem tmpsApart1_ok {ops : Array Oper} {anc : List Nat} {i : Nat} {x : Oper} : ∀ {l : List (Oper × Nat)}, tmpsApart1 ops anc i x l = true → ∀ y ∈ l, (∃ m, anc[y.2]? = some m ∧ In m i) ∨ Oper.apart ops x y.1 = true := by
  intro l
  induction l with
  | nil => intro _ y hy; cases hy
  | cons z l ih =>
    obtain ⟨z1, z2⟩ := z
    intro h y hy
    simp only [tmpsApart1] at h
    split at h
    · rename_i hz
      cases hy with
      | head =>
        rcases Bool.or_eq_true _ _ ▸ hz with hz | hz
        · split at hz
          · rename_i m hm; rw [nth_get] at hm; exact .inl ⟨m, hm, hz⟩
          · cases hz
        · exact .inr hz
      | tail _ hm => exact ih h y hm
    · cases h
theorem tmpsApart_ok {ops : Array Oper} {anc : List Nat} : ∀ {l : List (Oper × Nat)}, tmpsApart ops anc l = true → ∀ (a b : Nat) x y, a < b → l[a]? = some x → l[b]? = some y → (∃ m, anc[y.2]? = some m ∧ In m x.2) ∨ Oper.apart ops x.1 y.1 = true := by
  intro l
  induction l with
  | nil => intro _ a b x y _ hx; simp at hx
  | cons z l ih =>
    obtain ⟨z1, z2⟩ := z
    intro h a b x y hab hx hy
    simp only [tmpsApart] at h
    split at h
    · rename_i hz
      cases b with
      | zero => omega
      | succ b =>
        simp at hy
        cases a with
        | zero =>
          simp at hx
          subst hx
          exact tmpsApart1_ok hz y (List.mem_of_getElem? hy)
        | succ a => simp at hx; exact ih h a b x y (by omega) hx hy
    · cases h
theorem edgesBack_ok : ∀ {l : List Oper} {k : Nat}, edgesBack l k = true → ∀ (i : Nat) o, l[i]? = some o → ∀ e ∈ o.after, Region.binds .any e = true → e.on < k + i := by
  intro l
  induction l with
  | nil => intro k _ i o ho; simp at ho
  | cons z l ih =>
    intro k h i o ho e he hb
    simp only [edgesBack, Bool.and_eq_true] at h
    cases i with
    | zero =>
      simp at ho
      subst ho
      have := List.all_eq_true.1 h.1 e (by simpa using he)
      simp [hb] at this
      omega
    | succ i =>
      simp at ho
      have := ih h.2 i o ho e he hb
      have h2 : Nat.succ k = k + 1 := rfl
      omega
end Ev
end Go.Proofs.YtnjpdipombnigaaGreatDoor
namespace Go.Proofs.YtnjpdipombnigaaGreatDoor
namespace Ev
open Go.RowKit

section
variable {P : Program} {r : Rec} {ops : Array Oper} {nt : Nat}

/-- The state that an operation of a drawn region begins with: no marks. -/
def bare (s : St) : St := ⟨s.c, s.h, 0, 0, s.o⟩
def joined (s t : St) : St := ⟨t.c, t.h, Nat.lor s.l t.l, Nat.lor s.w t.w, t.o⟩

theorem in_lt {l c j : Nat} (h : Nat.shiftRight l c = 0) (hj : In l j) : j < c := by
  rcases Nat.lt_or_ge j c with hlt | hge
  · exact hlt
  · exfalso
    have h1 : (l >>> c).testBit (j - c) = l.testBit (c + (j - c)) := Nat.testBit_shiftRight l
    rw [show l >>> c = 0 from h, show c + (j - c) = j by omega, show l.testBit j = true from hj] at h1
    simp at h1

structure Trace (P : Program) (r : Rec) (ops : Array Oper) (nt k n : Nat) (A : Nat → T AV) (S Tt : Nat → St) : Prop where
  one : ∀ i, k ≤ i → i < n → ∃ o, ops[i]? = some o ∧ evOne P r nt ops.toList (A i) o (bare (S i)) = some (A (i + 1), Tt i)
  c : ∀ i, k ≤ i → i < n → (S i).c ≤ (Tt i).c
  lt : ∀ i, k ≤ i → i < n → ∀ j, In (Tt i).l j → j < (Tt i).c
  next : ∀ i, k ≤ i → i < n → S (i + 1) = joined (S i) (Tt i)
def logOf (Tt : Nat → St) (i : Nat) : Log := ⟨i, (Tt i).l, (Tt i).w⟩

theorem evDrawn_trace (anc : List Nat) : ∀ (l : List Oper) (k : Nat) {a a' : T AV} {s s' : St} {ls : List Log}, ops.toList.drop k = l → evDrawn P r nt ops.toList l k a s = some (a', s', ls) →
    ∃ A S Tt, Trace P r ops nt k (k + l.length) A S Tt ∧ A k = a ∧ S k = s ∧ A (k + l.length) = a' ∧ S (k + l.length) = s' ∧
      (∀ i, k ≤ i → i < k + l.length → (Tt i).l = 0 ∨ logOf Tt i ∈ ls) ∧
      (logsOk anc ls = true → ∀ i j, k ≤ i → i < j → j < k + l.length → (Tt i).l = 0 ∨ (Tt j).l = 0 ∨ logsApart anc (logOf Tt i) (logOf Tt j) = true) := by
  intro l
  induction l with
  | nil =>
    intro k a a' s s' ls _ h
    cases h
    refine ⟨fun _ => a, fun _ => s, fun _ => s, ⟨?_, ?_, ?_, ?_⟩, rfl, rfl, rfl, rfl, ?_, ?_⟩
    all_goals (try (intro i h1 h2; simp at h2; omega))
    intro _ i j h1 h2 h3
    simp at h3
    omega
  | cons o l ih =>
    intro k a a' s s' ls hk h
    have h' : oc2 (evOne P r nt ops.toList a o (bare s)) (fun a1 t => t.force fun t => oc (logged s t) fun s2 => s2.force fun s2 => oc2 (evDrawn P r nt ops.toList l (Nat.succ k) a1 s2) (logOn k t)) = some (a', s', ls) := h
    obtain ⟨a1, t, h1, h2⟩ := oc2_some h'
    rw [St.force_eq] at h2
    obtain ⟨s2, h3, h4⟩ := oc_some h2
    rw [St.force_eq] at h4
    obtain ⟨a2, x, h5, h6⟩ := oc2_some h4
    obtain ⟨s3, ls3⟩ := x
    clear h h' h2 h4
    obtain ⟨hc, h7⟩ := bc_some h3
    obtain ⟨hsh, h8⟩ := bc_some h7
    cases h8
    have hi : ops[k]? = some o := by
      rw [← Array.getElem?_toList]
      have := congrArg (fun l => l[0]?) hk
      simpa using this
    have hk' : ops.toList.drop (k + 1) = l := by rw [← List.drop_drop, hk]; rfl
    obtain ⟨A, S, Tt, ⟨q1, q2, q3, q4⟩, hA, hS, hA', hS', hlog, hpair⟩ := ih (k + 1) hk' h5
    have hlen : k + 1 + l.length = k + (o :: l).length := by simp; omega
    rw [hlen] at q1 q2 q3 q4 hA' hS' hlog hpair
    have hfin : a' = a2 ∧ s' = s3 ∧ ((t.l = 0 ∧ ls = ls3) ∨ ls = ⟨k, t.l, t.w⟩ :: ls3) := by
      unfold logOn at h6
      cases hb : Nat.beq t.l 0 with
      | true => rw [show Nat.beq t.l (nat_lit 0) = Nat.beq t.l 0 from rfl, hb] at h6; cases h6; exact ⟨rfl, rfl, .inl ⟨by simpa using hb, rfl⟩⟩
      | false => rw [show Nat.beq t.l (nat_lit 0) = Nat.beq t.l 0 from rfl, hb] at h6; cases h6; exact ⟨rfl, rfl, .inr rfl⟩
    obtain ⟨rfl, rfl, hls⟩ := hfin
    have ne : ∀ i, k + 1 ≤ i → i ≠ k := fun i h => by omega
    refine ⟨fun i => if i = k then a else A i, fun i => if i = k then s else S i, fun i => if i = k then t else Tt i, ⟨?_, ?_, ?_, ?_⟩, by simp, by simp, ?_, ?_, ?_, ?_⟩
    · intro i h1' h2'
      by_cases hik : i = k
      · subst hik
        exact ⟨o, hi, by simp [hA, h1]⟩
      · have := q1 i (by omega) h2'
        simpa [hik, show i + 1 ≠ k by omega] using this
    · intro i h1' h2'
      by_cases hik : i = k
      · subst hik; simpa using hc
      · simpa [hik] using q2 i (by omega) h2'
    · intro i h1' h2' j hj
      by_cases hik : i = k
      · subst hik
        simp at hj ⊢
        exact in_lt (by simpa using hsh) hj
      · simp [hik] at hj ⊢
        exact q3 i (by omega) h2' j hj
    · intro i h1' h2'
      by_cases hik : i = k
      · subst hik; simp [hS, joined]
      · have := q4 i (by omega) h2'
        simpa [hik, show i + 1 ≠ k by omega] using this
    · simp only [List.length_cons, show k + (l.length + 1) ≠ k by omega, if_false]
      simpa using hA'
    · simp only [List.length_cons, show k + (l.length + 1) ≠ k by omega, if_false]
      simpa using hS'
    · intro i h1' h2'
      by_cases hik : i = k
      · subst hik
        rcases hls with ⟨h0, _⟩ | rfl
        · left; simpa using h0
        · right; simp [logOf]
      · rcases hlog i (by omega) h2' with h0 | h0
        · left; simpa [hik] using h0
        · right
          rcases hls with ⟨_, rfl⟩ | rfl
          · simpa [logOf, hik] using h0
          · simp only [logOf, hik, if_false]
            exact List.mem_cons_of_mem _ h0
    · intro hok i j h1' h2' h3'
      have hjk : j ≠ k := by omega
      by_cases hik : i = k
      · subst hik
        rcases hls with ⟨h0, _⟩ | rfl
        · left; simpa using h0
        · rcases hlog j (by omega) h3' with h0 | h0
          · right; left; simpa [hjk] using h0
          · right; right
            simp only [logsOk] at hok
            split at hok
            · rename_i hx
              have := logsApart1_ok hx _ h0
              simpa [logOf, hjk] using this
            · cases hok
      · have hok' : logsOk anc ls3 = true := by
          rcases hls with ⟨_, rfl⟩ | rfl
          · exact hok
          · simp only [logsOk] at hok
            split at hok
            · exact hok
            · cases hok
        have := hpair hok' i j (by omega) h2' h3'
        simpa [logOf, hik, hjk] using this
end
end Ev
end Go.Proofs.YtnjpdipombnigaaGreatDoor
namespace Go.Proofs.YtnjpdipombnigaaGreatDoor
namespace Ev
open Go.RowKit

/-- All that is known of a drawn region's run in the text's order. -/
structure Run (P : Program) (ops : Array Oper) (nt : Nat) (A : Nat → T AV) (S Tt : Nat → St) : Prop where
  one : ∀ i, i < ops.size → ∃ o, ops[i]? = some o ∧ OneOk P ops nt o (A i) (bare (S i)) (A (i + 1)) (Tt i)
  c : ∀ i, i < ops.size → (S i).c ≤ (Tt i).c
  lt : ∀ i, i < ops.size → ∀ j, In (Tt i).l j → j < (Tt i).c
  next : ∀ i, i < ops.size → S (i + 1) = joined (S i) (Tt i)
  logs : ∀ i j, i < j → j < ops.size → Reach ops i j ∨ (∀ id, In (Tt i).w id → In (Tt j).l id → False) ∧ (∀ id, In (Tt j).w id → In (Tt i).l id → False)
  tmps : ∀ i j x y, i < j → ops[i]? = some x → ops[j]? = some y → Reach ops i j ∨ Oper.apart ops x y = true
  back : ∀ i o, ops[i]? = some o → ∀ e ∈ o.after, Region.binds .any e = true → e.on < i

section
variable {P : Program} {ops : Array Oper} {nt : Nat} {A : Nat → T AV} {S Tt : Nat → St}

theorem Run.wl (h : Run P ops nt A S Tt) {i : Nat} (hi : i < ops.size) : ∀ j, In (Tt i).w j → In (Tt i).l j := by
  obtain ⟨o, _, h1, _⟩ := h.one i hi
  exact h1.wl (fun j hj => absurd hj (not_in_zero j))
theorem Run.step1 (h : Run P ops nt A S Tt) {i : Nat} (hi : i < ops.size) : Step (S i) (S (i + 1)) := by
  obtain ⟨o, _, h1, _⟩ := h.one i hi
  rw [h.next i hi]
  refine ⟨fun j hj => (in_lor _ _ _).2 (.inl hj), fun j hj => (in_lor _ _ _).2 (.inl hj), fun k j hj => ?_, fun j hj => ?_, h1.o⟩
  · exact (in_lor _ _ _).2 (((in_lor _ _ _).1 hj).imp (k j) (h.wl hi j))
  · exact h1.h j (fun hw => hj ((in_lor _ _ _).2 (.inr hw)))
theorem Run.steps (h : Run P ops nt A S Tt) : ∀ i j, i ≤ j → j ≤ ops.size → Step (S i) (S j) := by
  intro i j hij hj
  induction j with
  | zero => have : i = 0 := by omega
            subst this; exact Step.refl _
  | succ j ih =>
    by_cases h' : i ≤ j
    · exact (ih h' (by omega)).trans (h.step1 (by omega))
    · have : i = j + 1 := by omega
      subst this; exact Step.refl _
theorem Run.inL (h : Run P ops nt A S Tt) {i : Nat} (hi : i < ops.size) {j : Nat} (hj : In (Tt i).l j) : In (S ops.size).l j := by
  refine (h.steps (i + 1) ops.size (by omega) (Nat.le_refl _)).l j ?_
  rw [h.next i hi]; exact (in_lor _ _ _).2 (.inr hj)
theorem Run.inW (h : Run P ops nt A S Tt) {i : Nat} (hi : i < ops.size) {j : Nat} (hj : In (Tt i).w j) : In (S ops.size).w j := by
  refine (h.steps (i + 1) ops.size (by omega) (Nat.le_refl _)).w j ?_
  rw [h.next i hi]; exact (in_lor _ _ _).2 (.inr hj)
theorem Run.cs (h : Run P ops nt A S Tt) : ∀ i j, i ≤ j → j ≤ ops.size → (S i).c ≤ (S j).c := by
  intro i j hij hj
  induction j with
  | zero => have : i = 0 := by omega
            subst this; exact Nat.le_refl _
  | succ j ih =>
    by_cases h' : i ≤ j
    · refine Nat.le_trans (ih h' (by omega)) ?_
      rw [h.next j (by omega)]; exact h.c j (by omega)
    · have : i = j + 1 := by omega
      subst this; exact Nat.le_refl _
theorem Run.heap_same (h : Run P ops nt A S Tt) (id : Nat) : ∀ j, j < ops.size → ¬ In (Tt j).w id → (S (j + 1)).h.get id = (S j).h.get id := by
  intro j hj hw
  obtain ⟨o, _, h1, _⟩ := h.one j hj
  rw [h.next j hj]
  exact h1.h id hw
def dstOf (ops : Array Oper) (j : Nat) : Option Tmp := (ops[j]?).bind (·.dst)
theorem Run.tmp_same (h : Run P ops nt A S Tt) (t : Tmp) : ∀ j, j < ops.size → ¬ dstOf ops j = some t → (A (j + 1)).get t = (A j).get t := by
  intro j hj hw
  obtain ⟨o, ho, _, _, u, hA, _⟩ := h.one j hj
  rw [hA]
  unfold putT
  cases hd : o.dst with
  | none => rfl
  | some d => exact T.put_ne _ _ _ _ (fun e => hw (by simp [dstOf, ho, hd, e]))

/-- The facts in the midst of a drawn region. -/
structure Mid (P : Program) (ops : Array Oper) (nt : Nat) (A : Nat → T AV) (S Tt : Nat → St) (G : Nat → Prop) (B : Nat) (E0 : Env) (w0 : World) (ds : List Deferred) (D : Nat → Prop) (E : Env) (ac : Act) (w : World) : Prop where
  inj : ∀ i j b C D, B ≤ b → E i = .live b C → E j = .live b D → i = j
  lt : ∀ i b C, E i = .live b C → b < w.heap.size
  base : B ≤ w.heap.size
  glob : ∀ g, g < 64 → (E g).at g
  fact : ∀ id k o, G id → Cur ops.size D (fun j => In (Tt j).w id) k → (S k).h.get id = some o → ∃ b C ob, E id = .live b C ∧ w.heap[b]? = some ob ∧ OkObj E id o ob ∧ (o.fixed = true ∨ B ≤ b)
  same : ∀ id, (∀ j, j < ops.size → D j → ¬ In (Tt j).w id) → E id = E0 id
  size : ac.tmps.size = nt
  tmp : ∀ t k v, Cur ops.size D (fun j => dstOf ops j = some t) k → (A k).get t = some v → ∃ x, ac.tmps[t]? = some x ∧ Rel E v x
  ext : Ext B (S ops.size).w E0 E w0 w
  defers : ac.defers = ds
  orc : OrcOk (S 0).o E.ρ
  prot : ∀ b, E.K b → b < w.heap.size ∧ w.heap[b]? = E.hp b ∧ ∀ j C, E j = .live b C → b < B
  dfs : ∀ d ∈ (S 0).o.defs, DefOk (S 0).o.tabs E.ρ E.δ d

variable {G : Nat → Prop} {B : Nat} {E0 E : Env} {w0 w : World} {ds : List Deferred} {D : Nat → Prop} {ac : Act} {ro : Option Nat}

theorem Run.ordH (h : Run P ops nt A S Tt) (hc : Closed ops D) {i : Nat} (hi : i < ops.size) (hnd : ¬ D i) (hr : ∀ o e, ops[i]? = some o → e ∈ o.after → Region.binds .any e = true → D e.on) {id : Nat} (hid : In (Tt i).l id) :
    ∀ j, j < ops.size → In (Tt j).w id → (j < i ∧ D j) ∨ (i ≤ j ∧ ¬ D j) := by
  intro j hj hw
  rcases Nat.lt_trichotomy j i with hlt | rfl | hgt
  · left
    refine ⟨hlt, ?_⟩
    rcases h.logs j i hlt hi with hre | ⟨h1, _⟩
    · exact hre.ready hc hr
    · exact (h1 id hw hid).elim
  · exact .inr ⟨Nat.le_refl _, hnd⟩
  · right
    refine ⟨by omega, fun hdj => ?_⟩
    rcases h.logs i j hgt hj with hre | ⟨_, h2⟩
    · exact hnd (hre.done hc hdj)
    · exact h2 id hw hid
theorem Run.ordT (h : Run P ops nt A S Tt) (hc : Closed ops D) {i : Nat} {o : Oper} (ho : ops[i]? = some o) (hnd : ¬ D i) (hr : ∀ o e, ops[i]? = some o → e ∈ o.after → Region.binds .any e = true → D e.on) {t : Tmp} (ht : t ∈ o.looksAt ops ∨ o.dst = some t) :
    ∀ j, j < ops.size → dstOf ops j = some t → (j < i ∧ D j) ∨ (i ≤ j ∧ ¬ D j) := by
  intro j hj hw
  have hoj : ∃ oj, ops[j]? = some oj ∧ oj.dst = some t := by
    unfold dstOf at hw
    cases hq : ops[j]? with
    | none => rw [hq] at hw; cases hw
    | some oj => rw [hq] at hw; exact ⟨oj, rfl, hw⟩
  obtain ⟨oj, hoj, hdj⟩ := hoj
  rcases Nat.lt_trichotomy j i with hlt | rfl | hgt
  · left
    refine ⟨hlt, ?_⟩
    rcases h.tmps j i oj o hlt hoj ho with hre | hap
    · exact hre.ready hc hr
    · obtain ⟨a1, a2, a3⟩ := Oper.apart_spec hap
      rcases ht with ht | ht
      · exact absurd ht (a1 t hdj)
      · exact absurd ht (a2 t hdj)
  · exact .inr ⟨Nat.le_refl _, hnd⟩
  · right
    refine ⟨by omega, fun hd => ?_⟩
    rcases h.tmps i j o oj hgt ho hoj with hre | hap
    · exact hnd (hre.done hc hd)
    · obtain ⟨a1, a2, a3⟩ := Oper.apart_spec hap
      rcases ht with ht | ht
      · exact a3 t hdj ht
      · exact a2 t ht hdj

/-- One operation more. -/
theorem Mid.step (h : Run P ops nt A S Tt) (hm : Mid P ops nt A S Tt G B E0 w0 ds D E ac w) (hG : ∀ j, In (S ops.size).l j → G j) (hfresh : ∀ id, (S 0).c ≤ id → G id → E0 id = .unborn) (hc : Closed ops D) {i : Nat} (hi : i < ops.size) (hnd : ¬ D i)
    (hr : ∀ o e, ops[i]? = some o → e ∈ o.after → Region.binds .any e = true → D e.on) {K : Act → World → Prop} {Q : Exit → Act → World → Prop}
    (hK : ∀ E' ac' w', Mid P ops nt A S Tt G B E0 w0 ds (fun j => D j ∨ j = i) E' ac' w' → K ac' w') : wpOpIn (fen ro) 0 P ops Q i K ac w := by
  obtain ⟨o, ho, hst, hdn, u, hA, hone⟩ := h.one i hi
  have hL : ∀ id, In (Tt i).l id → G id := fun id hid => hG id (h.inL hi hid)
  have hordH : ∀ id, In (Tt i).l id → ∀ j, j < ops.size → In (Tt j).w id → (j < i ∧ D j) ∨ (i ≤ j ∧ ¬ D j) := fun id hid => h.ordH hc hi hnd hr hid
  have hwlt : ∀ j, j < ops.size → ∀ id, In (Tt j).w id → id < (S (j + 1)).c := by
    intro j hj id hw
    rw [h.next j hj]
    exact h.lt j hj id (h.wl hj id hw)
  have hsat : Sat (fun id => In (Tt i).l id) B E (bare (S i)) w := by
    refine ⟨hm.inj, hm.lt, hm.base, hm.glob, ?_, ?_, by show OrcOk (S i).o E.ρ; rw [(h.steps 0 i (Nat.zero_le _) (by omega)).o]; exact hm.orc, hm.prot, by show ∀ d ∈ (S i).o.defs, DefOk (S i).o.tabs E.ρ E.δ d; rw [(h.steps 0 i (Nat.zero_le _) (by omega)).o]; exact hm.dfs⟩
    · intro id hid hin
      have hid' : (S i).c ≤ id := hid
      rw [hm.same id ?_]
      · exact hfresh id (Nat.le_trans (h.cs 0 i (Nat.zero_le _) (by omega)) hid') (hL id hin)
      · intro j hj hd hw
        rcases hordH id hin j hj hw with ⟨hlt, _⟩ | ⟨_, hn⟩
        · have h1 := hwlt j hj id hw
          have h2 := h.cs (j + 1) i (by omega) (by omega)
          omega
        · exact hn hd
    · intro id ob hin hget
      obtain ⟨k, hk⟩ := Cur.exists ops.size D (fun j => In (Tt j).w id)
      have e := hk.ready (Nat.le_of_lt hi) (hordH id hin) (fun k => (S k).h.get id) (h.heap_same id)
      exact hm.fact id k ob (hL id hin) hk (e.trans hget)
  have hlook : ∀ t, t ∈ o.looksAt ops → ∀ v, (A i).get t = some v → ∃ x, ac.tmps[t]? = some x ∧ Rel E v x := by
    intro t ht v hv
    obtain ⟨k, hk⟩ := Cur.exists ops.size D (fun j => dstOf ops j = some t)
    have e := hk.ready (Nat.le_of_lt hi) (h.ordT hc ho hnd hr (.inl ht)) (fun k => (A k).get t) (h.tmp_same t)
    exact hm.tmp t k v hk (e.trans hv)
  have hlr : LRel E ops o (A i) ac := by
    refine ⟨fun x hx u hu => ?_, fun j want oj d g hg hj hd hgd => ?_⟩
    · cases x with
      | tmp t =>
        obtain ⟨y, hy, hrel⟩ := hlook t (List.mem_append_left _ (List.mem_filterMap.2 ⟨.tmp t, by simpa using hx, rfl⟩)) u hu
        have : ac.eval (.tmp t) = y := by simp [Act.eval, hy]
        rw [this]; exact hrel
      | const c => exact opd_ok (a := .e) (nt := nt) hm.glob ⟨hm.size, fun t v ht => by rw [T.get_e] at ht; cases ht⟩ hu
      | global g =>
        have e : opd (A i) (.global g) = opd .e (.global g) := by
          have hq : opS (.global g) = bi (Nat.blt g 64) ⟨fun _ => some (.ptr g 0)⟩ ⟨fun _ => none⟩ := rfl
          unfold opd
          rw [hq]
          cases Nat.blt g 64 <;> rfl
        rw [e] at hu
        exact opd_ok (a := .e) (nt := nt) hm.glob ⟨hm.size, fun t v ht => by rw [T.get_e] at ht; cases ht⟩ hu
      | func f => exact opd_ok (a := .e) (nt := nt) hm.glob ⟨hm.size, fun t v ht => by rw [T.get_e] at ht; cases ht⟩ hu
    · exact hlook d (List.mem_append_right _ (by simp [hg, hj, hd])) g hgd
  refine hone ho (fun j hj => hj) hsat hlr fun E' u' w' hu hs' hx => hK E' _ w' ?_
  have hnext : (S (i + 1)).h = (Tt i).h := by rw [h.next i hi]; rfl
  refine ⟨hs'.inj, hs'.lt, hs'.base, hs'.glob, ?_, ?_, ?_, ?_, ?_, ?_, by rw [← (h.steps 0 i (Nat.zero_le _) (by omega)).o, ← show (Tt i).o = (S i).o from hst.o]; exact hs'.orc, hs'.prot, by rw [← (h.steps 0 i (Nat.zero_le _) (by omega)).o, ← show (Tt i).o = (S i).o from hst.o]; exact hs'.defs⟩
  · intro id k ob hg hk hget
    by_cases hw : In (Tt i).w id
    · have hin := h.wl hi id hw
      have hk1 : k = i + 1 := hk.step_is hi hw (fun j hj hwj hd => by
        rcases hordH id hin j hj hwj with ⟨hlt, _⟩ | ⟨_, hn⟩
        · exact hlt
        · exact absurd hd hn)
      subst hk1
      rw [hnext] at hget
      exact hs'.fact id ob hin hget
    · have hk0 : Cur ops.size D (fun j => In (Tt j).w id) k := hk.step_not hw
      obtain ⟨b, C, obj, he, hb, hok, hf⟩ := hm.fact id k ob hg hk0 hget
      have he' : E' id = .live b C := (hx.keep id hw).trans he
      exact ⟨b, C, obj, he', (hx.block id b C hw he).trans hb, hok.mono hx.le (fun b' C' h' => by rw [he] at h'; cases h'; exact he'), hf⟩
  · intro id hid
    rw [hx.keep id (hid i hi (.inr rfl))]
    exact hm.same id fun j hj hd => hid j hj (.inl hd)
  · cases hd : o.dst <;> simpa [Act.put] using hm.size
  · intro t k v hk hget
    by_cases hw : dstOf ops i = some t
    · have hdt : o.dst = some t := by simpa [dstOf, ho] using hw
      have hk1 : k = i + 1 := hk.step_is hi hw (fun j hj hwj hd => by
        rcases h.ordT hc ho hnd hr (.inr hdt) j hj hwj with ⟨hlt, _⟩ | ⟨_, hn⟩
        · exact hlt
        · exact absurd hd hn)
      subst hk1
      rw [hA, hdt] at hget
      rcases T.put_some hget with ⟨_, hx'⟩ | ⟨hne, _⟩
      · cases hx'
        have := hdn t hdt
        exact ⟨u', by simp [Act.put, hdt, hm.size, this], hu⟩
      · exact absurd rfl hne
    · have hk0 : Cur ops.size D (fun j => dstOf ops j = some t) k := hk.step_not hw
      obtain ⟨x, hx1, hx2⟩ := hm.tmp t k v hk0 hget
      refine ⟨x, ?_, hx2.mono hx.le⟩
      cases hd : o.dst with
      | none => simpa [Act.put] using hx1
      | some d =>
        have hne : d ≠ t := fun e => hw (by simp [dstOf, ho, hd, e])
        simp [Act.put, Array.getElem?_setIfInBounds_ne hne, hx1]
  · exact hm.ext.trans (hx.more fun j hj => h.inW hi hj) (fun j hj => hj)
  · rw [act_put_defers]; exact hm.defers
end
end Ev
end Go.Proofs.YtnjpdipombnigaaGreatDoor
namespace Go.Proofs.YtnjpdipombnigaaGreatDoor
namespace Ev
open Go.RowKit

section
variable {P : Program} {ops : Array Oper} {nt : Nat} {A : Nat → T AV} {S Tt : Nat → St} {G : Nat → Prop} {B : Nat} {E0 : Env} {w0 : World} {ds : List Deferred} {ro : Option Nat}

/-- Done, by the list. -/
def done (listed : Array Bool) (j : Nat) : Prop := listed.getD j false = true
theorem Mid.congr {D D' : Nat → Prop} {E : Env} {ac : Act} {w : World} (hm : Mid P ops nt A S Tt G B E0 w0 ds D E ac w) (h : ∀ j, D j ↔ D' j) : Mid P ops nt A S Tt G B E0 w0 ds D' E ac w := by
  have : D = D' := funext fun j => propext (h j)
  subst this; exact hm
theorem Mid.all (h : Run P ops nt A S Tt) (hG : ∀ j, In (S ops.size).l j → G j) (hfresh : ∀ id, (S 0).c ≤ id → G id → E0 id = .unborn) {D : Nat → Prop} {E : Env} {ac : Act} {w : World} (hm : Mid P ops nt A S Tt G B E0 w0 ds D E ac w) (hall : ∀ j, j < ops.size → D j) :
    TRel E nt (A ops.size) ac.tmps ∧ Sat G B E (S ops.size) w := by
  refine ⟨⟨hm.size, fun t v hv => ?_⟩, hm.inj, hm.lt, hm.base, hm.glob, fun id hid hg => ?_, fun id o hg ho => ?_, by rw [(h.steps 0 ops.size (Nat.zero_le _) (Nat.le_refl _)).o]; exact hm.orc, hm.prot, by rw [(h.steps 0 ops.size (Nat.zero_le _) (Nat.le_refl _)).o]; exact hm.dfs⟩
  · obtain ⟨k, hk⟩ := Cur.exists ops.size D (fun j => dstOf ops j = some t)
    have e := hk.ready (Nat.le_refl _) (fun j hj _ => .inl ⟨hj, hall j hj⟩) (fun k => (A k).get t) (h.tmp_same t)
    exact hm.tmp t k v hk (e.trans hv)
  · rw [hm.same id ?_]
    · exact hfresh id (Nat.le_trans (h.cs 0 ops.size (Nat.zero_le _) (Nat.le_refl _)) hid) hg
    · intro j hj _ hw
      have h1 : id < (S (j + 1)).c := by rw [h.next j hj]; exact h.lt j hj id (h.wl hj id hw)
      have h2 := h.cs (j + 1) ops.size (by omega) (Nat.le_refl _)
      omega
  · obtain ⟨k, hk⟩ := Cur.exists ops.size D (fun j => In (Tt j).w id)
    have e := hk.ready (Nat.le_refl _) (fun j hj _ => .inl ⟨hj, hall j hj⟩) (fun k => (S k).h.get id) (h.heap_same id)
    exact hm.fact id k o hg hk (e.trans ho)
theorem ready_nil (h : Run P ops nt A S Tt) {listed : Array Bool} (hsz : listed.size = ops.size) (hr : Region.ready .any ops listed = []) : ∀ j, j < ops.size → done listed j := by
  intro j
  induction j using Nat.strongRecOn with
  | _ j ih =>
    intro hj
    by_cases hd : done listed j
    · exact hd
    · exfalso
      have ho : ∃ o, ops[j]? = some o := ⟨ops[j], by simp [hj]⟩
      obtain ⟨o, ho⟩ := ho
      have : j ∈ Region.ready .any ops listed := by
        rw [mem_ready]
        refine ⟨?_, o, ho, fun e he hb => ?_⟩
        · unfold done at hd
          have hj' : j < listed.size := by omega
          simp [hj'] at hd ⊢
          exact hd
        · have hlt := h.back j o ho e he hb
          exact ih e.on hlt (by omega)
      rw [hr] at this
      cases this
theorem drawn_any (h : Run P ops nt A S Tt) (hG : ∀ j, In (S ops.size).l j → G j) (hfresh : ∀ id, (S 0).c ≤ id → G id → E0 id = .unborn) {Q : Exit → Act → World → Prop}
    (hQ : ∀ E' ac' w', TRel E' nt (A ops.size) ac'.tmps → ac'.defers = ds → Sat G B E' (S ops.size) w' → Ext B (S ops.size).w E0 E' w0 w' → Q .normal ac' w') :
    ∀ (fuel : Nat) (listed : Array Bool) (E : Env) (ac : Act) (w : World), listed.size = ops.size → card (fun j => listed.getD j false) ops.size + fuel = ops.size → Closed ops (done listed) → Mid P ops nt A S Tt G B E0 w0 ds (done listed) E ac w →
      wpAnyIn (fen ro) 0 P .any ops Q fuel listed ac w := by
  have fin : ∀ (listed : Array Bool) (E : Env) (ac : Act) (w : World), Mid P ops nt A S Tt G B E0 w0 ds (done listed) E ac w → (∀ j, j < ops.size → done listed j) → Q .normal ac w := by
    intro listed E ac w hm hall
    obtain ⟨h1, h2⟩ := hm.all h hG hfresh hall
    exact hQ E ac w h1 hm.defers h2 hm.ext
  intro fuel
  induction fuel with
  | zero =>
    intro listed E ac w hsz hcard hc hm
    have hall : ∀ j, j < ops.size → done listed j := card_all _ _ (by simpa using hcard)
    refine ⟨?_, fin listed E ac w hm hall⟩
    rw [List.eq_nil_iff_forall_not_mem]
    intro j hj
    obtain ⟨h1, o, ho, _⟩ := mem_ready.1 hj
    have hj' : j < ops.size := (Array.getElem?_eq_some_iff.1 ho).1
    have := hall j hj'
    unfold done at this
    have hj2 : j < listed.size := by omega
    simp [hj2] at h1 this
    rw [h1] at this; cases this
  | succ fuel ih =>
    intro listed E ac w hsz hcard hc hm
    refine ⟨fun hr => fin listed E ac w hm (ready_nil h hsz hr), fun i hi => ?_⟩
    obtain ⟨h1, o, ho, hr⟩ := mem_ready.1 hi
    have hi' : i < ops.size := (Array.getElem?_eq_some_iff.1 ho).1
    have hi2 : i < listed.size := by omega
    have hnd : ¬ done listed i := by
      unfold done
      simp [hi2] at h1 ⊢
      exact h1
    have hset : ∀ j, done (listed.setIfInBounds i true) j ↔ (done listed j ∨ j = i) := by
      intro j
      unfold done
      by_cases hji : j = i
      · subst hji; simp [hi2]
      · have : i ≠ j := fun e => hji e.symm
        simp [Array.getElem?_setIfInBounds_ne this, hji]
    refine hm.step h hG hfresh hc hi' hnd (fun o' e ho' he hb => ?_) fun E' ac' w' hm' => ?_
    · rw [ho] at ho'; cases ho'; exact hr e he hb
    · refine ih (listed.setIfInBounds i true) E' ac' w' (by simpa using hsz) ?_ ?_ (hm'.congr fun j => (hset j).symm)
      · have := card_set (fun j => listed.getD j false) (fun j => (listed.setIfInBounds i true).getD j false) i (by unfold done at hnd; simpa using hnd) (by simp [hi2]) (fun j hji => by
          have : i ≠ j := fun e => hji e.symm
          simp [Array.getElem?_setIfInBounds_ne this]) ops.size
        rw [this, if_pos hi']; omega
      · intro j oj e hd hoj he hb
        rcases (hset j).1 hd with hd | rfl
        · exact (hset _).2 (.inl (hc j oj e hd hoj he hb))
        · rw [ho] at hoj; cases hoj
          exact (hset _).2 (.inl (hr e he hb))
end
section
variable {P : Program} {r : Rec} {ops : Array Oper} {nt : Nat}
theorem run_of [IsProg P] (hcall : CallOk P r.call) (hyld : YieldOk P r.yld) (hst : staticOk ops = true) {a a' : T AV} {s s' : St} {ls : List Log} (h : evDrawn P r nt ops.toList ops.toList 0 a s = some (a', s', ls)) (hl : logsOk (ancs ops.toList []) ls = true) :
    ∃ A S Tt, Run P ops nt A S Tt ∧ A 0 = a ∧ S 0 = s ∧ A ops.size = a' ∧ S ops.size = s' := by
  obtain ⟨A, S, Tt, ⟨q1, q2, q3, q4⟩, hA, hS, hA', hS', hlog, hpair⟩ := evDrawn_trace (P := P) (r := r) (nt := nt) (ancs ops.toList []) ops.toList 0 rfl h
  simp only [Nat.zero_add, Array.length_toList] at q1 q2 q3 q4 hA' hS' hlog hpair
  unfold staticOk at hst
  simp only [Bool.and_eq_true] at hst
  obtain ⟨hback, htmp⟩ := hst
  have hreach : ∀ j m i, (ancs ops.toList [])[j]? = some m → In m i → Reach ops i j := ancs_ok ops.toList [] rfl (fun j m i hj => by simp at hj)
  refine ⟨A, S, Tt, ⟨?_, fun i hi => q2 i (Nat.zero_le _) hi, fun i hi => q3 i (Nat.zero_le _) hi, fun i hi => q4 i (Nat.zero_le _) hi, ?_, ?_, ?_⟩, hA, hS, hA', hS'⟩
  · intro i hi
    obtain ⟨o, ho, he⟩ := q1 i (Nat.zero_le _) hi
    exact ⟨o, ho, evOne_ok hcall hyld he⟩
  · intro i j hij hj
    have wl : ∀ k, k < ops.size → ∀ x, In (Tt k).w x → In (Tt k).l x := by
      intro k hk
      obtain ⟨o, ho, he⟩ := q1 k (Nat.zero_le _) hk
      exact (evOne_ok hcall hyld he).1.wl (fun x hx => absurd hx (not_in_zero x))
    rcases hpair hl i j (Nat.zero_le _) hij hj with h0 | h0 | h0
    · right
      refine ⟨fun id hw _ => ?_, fun id _ hl' => ?_⟩
      · have := wl i (by omega) id hw; rw [h0] at this; exact not_in_zero _ this
      · rw [h0] at hl'; exact not_in_zero _ hl'
    · right
      refine ⟨fun id _ hl' => ?_, fun id hw _ => ?_⟩
      · rw [h0] at hl'; exact not_in_zero _ hl'
      · have := wl j hj id hw; rw [h0] at this; exact not_in_zero _ this
    · rcases logsApart_ok h0 with ⟨m, hm, hin⟩ | hd
      · exact .inl (hreach j m i hm hin)
      · exact .inr hd
  · intro i j x y hij hx hy
    have hx' : ops.toList.zipIdx[i]? = some (x, i) := by
      rw [List.getElem?_zipIdx, Array.getElem?_toList, hx]; simp
    have hy' : ops.toList.zipIdx[j]? = some (y, j) := by
      rw [List.getElem?_zipIdx, Array.getElem?_toList, hy]; simp
    rcases tmpsApart_ok htmp i j _ _ hij hx' hy' with ⟨m, hm, hin⟩ | hap
    · exact .inl (hreach j m i hm hin)
    · exact .inr hap
  · intro i o ho e he hb
    have := edgesBack_ok hback i o (by rw [Array.getElem?_toList]; exact ho) e he hb
    omega
/-- A drawn region. -/
theorem evDraw_ok [IsProg P] (hcall : CallOk P r.call) (hyld : YieldOk P r.yld) (hmix : P.follows .mixedOrders = true) (hst : staticOk ops = true) {a a' : T AV} {s s' : St} {ls : List Log} (h : evDrawn P r nt ops.toList ops.toList 0 a s = some (a', s', ls)) (hl : logsOk (ancs ops.toList []) ls = true) :
    Step s s' ∧ ∀ {G : Nat → Prop} {B : Nat} {E : Env} {w : World} {ac : Act} {ro : Option Nat} {id : Nat}, (∀ j, In s'.l j → G j) → Sat G B E s w → TRel E nt a ac.tmps → ∀ {Q : Exit → Act → World → Prop},
      (∀ E' ac' w', TRel E' nt a' ac'.tmps → ac'.defers = ac.defers → Sat G B E' s' w' → Ext B s'.w E E' w w' → Q .normal ac' w') → (Code.region id ops true).wpIn (fen ro) 0 P Q ac w := by
  obtain ⟨A, S, Tt, hrun, rfl, rfl, rfl, rfl⟩ := run_of hcall hyld hst h hl
  refine ⟨hrun.steps 0 ops.size (Nat.zero_le _) (Nat.le_refl _), fun {G B E w ac ro id} hG hs ht {Q} hQ => ?_⟩
  refine wpIn_region_any hmix ?_
  have hs' := hs.drew (w.drawn + 1)
  have hnone : ∀ j, ¬ done (Array.replicate ops.size false) j := by
    intro j hj
    unfold done at hj
    simp [Array.getElem?_replicate] at hj
    split at hj <;> simp at hj
  refine drawn_any hrun hG hs.fresh (w0 := w) (E0 := E) (ds := ac.defers) hQ ops.size _ E ac _ (by simp) ?_ (fun j o e hd => absurd hd (hnone j)) ?_
  · have : ∀ n, card (fun j => (Array.replicate ops.size false).getD j false) n = 0 := by
      intro n
      induction n with
      | zero => rfl
      | succ n ih =>
        simp only [card, ih]
        have := hnone n
        unfold done at this
        simp [this]
    rw [this]; omega
  · have cur0 : ∀ (Wr : Nat → Prop) k, Cur ops.size (done (Array.replicate ops.size false)) Wr k → k = 0 := by
      intro Wr k hk
      rcases hk with ⟨rfl, _⟩ | ⟨j, _, _, hd, _⟩
      · rfl
      · exact absurd hd (hnone j)
    refine ⟨hs'.inj, hs'.lt, hs'.base, hs'.glob, ?_, fun _ _ => rfl, ht.1, ?_, Ext.drew _ _, rfl, hs'.orc, hs'.prot, hs'.defs⟩
    · intro x k o hg hk ho
      have := cur0 _ k hk
      subst this
      exact hs'.fact x o hg ho
    · intro t k v hk hv
      have := cur0 _ k hk
      subst this
      exact ht.2 t v hv
end
end Ev
end Go.Proofs.YtnjpdipombnigaaGreatDoor
