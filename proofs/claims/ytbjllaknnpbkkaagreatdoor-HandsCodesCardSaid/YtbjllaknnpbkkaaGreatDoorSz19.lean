/-
  The evaluator: regions whose order is drawn.
-/
import Derived.Test.YtbjllaknnpbkkaaGreatDoorSz18
namespace Go.Proofs.YtbjllaknnpbkkaaGreatDoor
namespace Ev
open Go.RowKit

/-- The last of those done that write: k - 1; none: 0. -/
def Cur (n : Nat) (D Wr : Nat → Prop) (k : Nat) : Prop :=
  (k = 0 ∧ ∀ j, j < n → D j → ¬ Wr j) ∨ ∃ j, j < n ∧ k = j + 1 ∧ D j ∧ Wr j ∧ ∀ j', j' < n → D j' → j < j' → ¬ Wr j'
theorem Cur.exists (n : Nat) (D Wr : Nat → Prop) : ∃ k, Cur n D Wr k := by
  induction n with
  | zero => exact ⟨0, .inl ⟨rfl, fun j hj => absurd hj (Nat.not_lt_zero _)⟩⟩
  | succ n ih =>
    by_cases h : D n ∧ Wr n
    · exact ⟨n + 1, .inr ⟨n, by omega, rfl, h.1, h.2, fun j' h1 _ h2 => absurd h1 (by omega)⟩⟩
    · obtain ⟨k, hk⟩ := ih
      refine ⟨k, ?_⟩
      rcases hk with ⟨rfl, hk⟩ | ⟨j, h1, h2, h3, h4, h5⟩
      · refine .inl ⟨rfl, fun j hj hd hw => ?_⟩
        by_cases hjn : j = n
        · subst hjn; exact h ⟨hd, hw⟩
        · exact hk j (by omega) hd hw
      · refine .inr ⟨j, by omega, h2, h3, h4, fun j' hj' hd hlt hw => ?_⟩
        by_cases hjn : j' = n
        · subst hjn; exact h ⟨hd, hw⟩
        · exact h5 j' (by omega) hd hlt hw
theorem const_run {β : Type} (f : Nat → β) {a b : Nat} (hab : a ≤ b) (h : ∀ j, a ≤ j → j < b → f (j + 1) = f j) : f b = f a := by
  induction b with
  | zero => have : a = 0 := by omega
            rw [this]
  | succ b ih =>
    by_cases hb : a ≤ b
    · rw [h b hb (by omega)]; exact ih hb fun j h1 h2 => h j h1 (by omega)
    · have : a = b + 1 := by omega
      rw [this]
/-- What is there for one that is ready is what was there for it in the text's order. -/
theorem Cur.ready {n i : Nat} {D Wr : Nat → Prop} (hi : i ≤ n) (hord : ∀ j, j < n → Wr j → (j < i ∧ D j) ∨ (i ≤ j ∧ ¬ D j)) {k : Nat} (hc : Cur n D Wr k) {β : Type} (f : Nat → β) (hf : ∀ j, j < n → ¬ Wr j → f (j + 1) = f j) : f k = f i := by
  rcases hc with ⟨rfl, hk⟩ | ⟨j, h1, rfl, h3, h4, h5⟩
  · refine (const_run f (Nat.zero_le _) fun j _ hj => hf j (by omega) fun hw => ?_).symm
    rcases hord j (by omega) hw with ⟨_, hd⟩ | ⟨hle, _⟩
    · exact hk j (by omega) hd hw
    · omega
  · have hji : j < i := by
      rcases hord j h1 h4 with ⟨hlt, _⟩ | ⟨_, hnd⟩
      · exact hlt
      · exact absurd h3 hnd
    refine (const_run f (by omega) fun j' h6 h7 => hf j' (by omega) fun hw => ?_).symm
    rcases hord j' (by omega) hw with ⟨_, hd⟩ | ⟨hle, _⟩
    · exact h5 j' (by omega) hd (by omega) hw
    · omega
theorem Cur.step_not {n i k : Nat} {D Wr : Nat → Prop} (hw : ¬ Wr i) (h : Cur n (fun j => D j ∨ j = i) Wr k) : Cur n D Wr k := by
  rcases h with ⟨rfl, hk⟩ | ⟨j, h1, h2, h3, h4, h5⟩
  · exact .inl ⟨rfl, fun j hj hd => hk j hj (.inl hd)⟩
  · refine .inr ⟨j, h1, h2, ?_, h4, fun j' hj' hd => h5 j' hj' (.inl hd)⟩
    rcases h3 with h3 | rfl
    · exact h3
    · exact absurd h4 hw
theorem Cur.step_is {n i k : Nat} {D Wr : Nat → Prop} (hi : i < n) (hw : Wr i) (hord : ∀ j, j < n → Wr j → D j → j < i) (h : Cur n (fun j => D j ∨ j = i) Wr k) : k = i + 1 := by
  rcases h with ⟨rfl, hk⟩ | ⟨j, h1, rfl, h3, h4, h5⟩
  · exact absurd hw (hk i hi (.inr rfl))
  · rcases h3 with h3 | rfl
    · exact absurd hw (h5 i hi (.inr rfl) (hord j h1 h4 h3))
    · rfl

/-- How many are done. -/
def card (D : Nat → Bool) : Nat → Nat
  | 0 => 0
  | k + 1 => card D k + (if D k then 1 else 0)
theorem card_le (D : Nat → Bool) : ∀ n, card D n ≤ n
  | 0 => Nat.le_refl _
  | n + 1 => by have := card_le D n; simp only [card]; split <;> omega
theorem card_all (D : Nat → Bool) : ∀ n, card D n = n → ∀ j, j < n → D j = true
  | 0, _, j, hj => absurd hj (Nat.not_lt_zero _)
  | n + 1, h, j, hj => by
    have hle := card_le D n
    simp only [card] at h
    by_cases hd : D n = true
    · simp [hd] at h
      by_cases hjn : j = n
      · subst hjn; exact hd
      · exact card_all D n h j (by omega)
    · simp [hd] at h; omega
theorem card_set (D D' : Nat → Bool) (i : Nat) (hi : D i = false) (hi' : D' i = true) (hne : ∀ j, j ≠ i → D' j = D j) : ∀ n, card D' n = card D n + (if i < n then 1 else 0)
  | 0 => rfl
  | n + 1 => by
    have ih := card_set D D' i hi hi' hne n
    simp only [card, ih]
    by_cases hin : i = n
    · subst hin; simp [hi, hi']
    · rw [hne n (fun e => hin e.symm)]
      by_cases h1 : i < n
      · have : i < n + 1 := by omega
        simp [h1, this]; omega
      · have : ¬ i < n + 1 := by omega
        simp [h1, this]

/-- Reached by edges that bind. -/
inductive Reach (ops : Array Oper) : Nat → Nat → Prop
  | edge {i j : Nat} {o : Oper} {e : Edge} (ho : ops[j]? = some o) (he : e ∈ o.after) (hb : Region.binds .any e = true) (hi : e.on = i) : Reach ops i j
  | step {i k j : Nat} {o : Oper} {e : Edge} (h : Reach ops i k) (ho : ops[j]? = some o) (he : e ∈ o.after) (hb : Region.binds .any e = true) (hk : e.on = k) : Reach ops i j
theorem ancOf_ok {acc : List Nat} {i : Nat} : ∀ (l : List Edge), In (ancOf acc l) i → ∃ e ∈ l, Region.binds .any e = true ∧ ∃ m, acc[e.on]? = some m ∧ (e.on = i ∨ In m i) := by
  intro l
  induction l with
  | nil => intro h; exact absurd h (not_in_zero _)
  | cons e l ih =>
    intro h
    simp only [ancOf] at h
    split at h
    · rename_i m hb hm
      rw [nth_get] at hm
      rcases (in_lor _ _ _).1 h with h | h
      · rcases (in_lor _ _ _).1 h with h | h
        · exact ⟨e, by simp, hb, m, hm, .inr h⟩
        · exact ⟨e, by simp, hb, m, hm, .inl ((in_bit _ _).1 h)⟩
      · obtain ⟨e', he', q⟩ := ih h
        exact ⟨e', by simp [he'], q⟩
    · obtain ⟨e', he', q⟩ := ih h
      exact ⟨e', by simp [he'], q⟩
theorem ancs_ok {ops : Array Oper} : ∀ (l : List Oper) (acc : List Nat), ops.toList.drop acc.length = l → (∀ j m i, acc[j]? = some m → In m i → Reach ops i j) → ∀ j m i, (ancs l acc)[j]? = some m → In m i → Reach ops i j := by
  intro l
  induction l with
  | nil => intro acc _ h; exact h
  | cons o l ih =>
    intro acc hk h
    have hi : ops[acc.length]? = some o := by
      rw [← Array.getElem?_toList]
      have := congrArg (fun l => l[0]?) hk
      simpa using this
    refine ih (acc ++ [ancOf acc o.after.toList]) (by rw [List.length_append, ← List.drop_drop, hk]; rfl) ?_
    intro j m i hj hm
    rw [List.getElem?_append] at hj
    split at hj
    · exact h j m i hj hm
    · rename_i hlt
      have hjl : j = acc.length := by
        have := (List.getElem?_eq_some_iff.1 hj).1
        simp at this; omega
      subst hjl
      simp at hj
      subst hj
      obtain ⟨e, he, hb, m, hm', hor⟩ := ancOf_ok _ hm
      have he' : e ∈ o.after := by simpa using he
      rcases hor with hor | hor
      · exact .edge hi he' hb hor
      · exact .step (h e.on m i hm' hor) hi he' hb rfl
/-- What is ahead has been done. -/
def Closed (ops : Array Oper) (D : Nat → Prop) : Prop := ∀ j o e, D j → ops[j]? = some o → e ∈ o.after → Region.binds .any e = true → D e.on
theorem Reach.done {ops : Array Oper} {D : Nat → Prop} (hc : Closed ops D) {i j : Nat} (h : Reach ops i j) (hj : D j) : D i := by
  induction h with
  | edge ho he hb hi => exact hi ▸ hc _ _ _ hj ho he hb
  | step h ho he hb hk ih => exact ih (hk ▸ hc _ _ _ hj ho he hb)
theorem Reach.ready {ops : Array Oper} {D : Nat → Prop} (hc : Closed ops D) {i j : Nat} (h : Reach ops i j) (hr : ∀ o e, ops[j]? = some o → e ∈ o.after → Region.binds .any e = true → D e.on) : D i := by
  cases h with
  | edge ho he hb hi => exact hi ▸ hr _ _ ho he hb
  | step h ho he hb hk => exact h.done hc (hk ▸ hr _ _ ho he hb)

theorem testBit_in {m i : Nat} : Nat.testBit m i = true ↔ In m i := Iff.rfl
theorem land_zero {a b : Nat} (h : Nat.land a b = 0) (j : Nat) (ha : In a j) (hb : In b j) : False := by
  have : (a &&& b).testBit j = true := by rw [Nat.testBit_and]; simp [show a.testBit j = true from ha, show b.testBit j = true from hb]
  rw [show a &&& b = 0 from h] at this
  simp at this
theorem logsApart_ok {anc : List Nat} {x y : Log} (h : logsApart anc x y = true) : (∃ m, anc[y.i]? = some m ∧ In m x.i) ∨ (∀ j, In x.w j → In y.l j → False) ∧ (∀ j, In y.w j → In x.l j → False) := by
  unfold logsApart at h
  split at h
  · rename_i m hm
    rw [nth_get] at hm
    split at h
    · rename_i hb; exact .inl ⟨m, hm, hb⟩
    · split at h
      · rename_i h1 h2; exact .inr ⟨fun j => land_zero h1 j, fun j => land_zero h2 j⟩
      · cases h
  · cases h
theorem logsApart1_ok {anc : List Nat} {x : Log} : ∀ {l : List Log}, logsApart1 anc x l = true → ∀ y ∈ l, logsApart anc x y = true := by
  intro l
  induction l with
  | nil => intro _ y hy; cases hy
  | cons z l ih =>
    intro h y hy
    simp only [logsApart1] at h
    split at h
    · rename_i hz
      cases hy with
      | head => exact hz
      | tail _ hm => exact ih h y hm
    · cases h
theorem tmpsApart1_ok {ops : Array Oper} {anc : List Nat} {i : Nat} {x : Oper} : ∀ {l : List (Oper × Nat)}, tmpsApart1 ops anc i x l = true → ∀ y ∈ l, (∃ m, anc[y.2]? = some m ∧ In m i) ∨ Oper.apart ops x y.1 = true := by
  intro l
  induction l with
  | nil => intro _ y hy; cases hy
  | cons z l ih =>
    obtain ⟨z1, z2⟩ := z
    intro h y hy
    simp only [tmpsApart1] at h
    split at h
    · rename_i hz
      cases hy with
      | head =>
        rcases Bool.or_eq_true _ _ ▸ hz with hz | hz
        · split at hz
          · rename_i m hm; rw [nth_get] at hm; exact .inl ⟨m, hm, hz⟩
          · cases hz
        · exact .inr hz
      | tail _ hm => exact ih h y hm
    · cases h
theorem tmpsApart_ok {ops : Array Oper} {anc : List Nat} : ∀ {l : List (Oper × Nat)}, tmpsApart ops anc l = true → ∀ (a b : Nat) x y, a < b → l[a]? = some x → l[b]? = some y → (∃ m, anc[y.2]? = some m ∧ In m x.2) ∨ Oper.apart ops x.1 y.1 = true := by
  intro l
  induction l with
  | nil => intro _ a b x y _ hx; simp at hx
  | cons z l ih =>
    obtain ⟨z1, z2⟩ := z
    intro h a b x y hab hx hy
    simp only [tmpsApart] at h
    split at h
    · rename_i hz
      cases b with
      | zero => omega
      | succ b =>
        simp at hy
        cases a with
        | zero =>
          simp at hx
          subst hx
          exact tmpsApart1_ok hz y (List.mem_of_getElem? hy)
        | succ a => simp at hx; exact ih h a b x y (by omega) hx hy
    · cases h
theorem edgesBack_ok : ∀ {l : List Oper} {k : Nat}, edgesBack l k = true → ∀ (i : Nat) o, l[i]? = some o → ∀ e ∈ o.after, Region.binds .any e = true → e.on < k + i := by
  intro l
  induction l with
  | nil => intro k _ i o ho; simp at ho
  | cons z l ih =>
    intro k h i o ho e he hb
    simp only [edgesBack, Bool.and_eq_true] at h
    cases i with
    | zero =>
      simp at ho
      subst ho
      have := List.all_eq_true.1 h.1 e (by simpa using he)
      simp [hb] at this
      omega
    | succ i =>
      simp at ho
      have := ih h.2 i o ho e he hb
      have h2 : Nat.succ k = k + 1 := rfl
      omega
end Ev
end Go.Proofs.YtbjllaknnpbkkaaGreatDoor
