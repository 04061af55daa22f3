/-
  The evaluator: reading, writing, making blocks, under the facts of a state.
-/
import Derived.Test.YtbjllaknnpbkkaaGreatDoorSz3
namespace Go.Proofs.YtbjllaknnpbkkaaGreatDoor
namespace Ev
open Go.RowKit

theorem dropN_eq (n : Nat) : ∀ l : List AV, dropN n l = l.drop n := by
  induction n with
  | zero => intro l; rfl
  | succ n ih =>
    intro l
    cases l with
    | nil => rfl
    | cons x t => exact ih t
theorem takeN_some (n : Nat) : ∀ {l r : List AV}, takeN n l = some r → r = l.take n ∧ n ≤ l.length := by
  induction n with
  | zero => intro l r h; cases h; simp
  | succ n ih =>
    intro l r h
    cases l with
    | nil => cases h
    | cons x t =>
      obtain ⟨r', h1, h2⟩ := oc_some (show oc (takeN n t) (fun r => some (x :: r)) = some r from h)
      cases h2
      obtain ⟨rfl, h3⟩ := ih h1
      exact ⟨by simp, by simp; exact h3⟩
theorem RelL.drop {E : Env} (n : Nat) : ∀ {l : List AV} {m : List Value}, RelL E l m → RelL E (l.drop n) (m.drop n) := by
  induction n with
  | zero => intro l m h; exact h
  | succ n ih =>
    intro l m h
    cases h with
    | nil => exact .nil
    | cons _ t => exact ih t
theorem RelL.take {E : Env} (n : Nat) : ∀ {l : List AV} {m : List Value}, RelL E l m → RelL E (l.take n) (m.take n) := by
  induction n with
  | zero => intro l m _; exact .nil
  | succ n ih =>
    intro l m h
    cases h with
    | nil => exact .nil
    | cons k t => exact .cons k (ih t)
theorem setFrom_some : ∀ (n : Nat) (ys l : List AV) {r : List AV}, setFrom n ys l = some r → ys = [] ∧ r = l ∨ n + ys.length ≤ l.length ∧ r = l.take n ++ ys ++ l.drop (n + ys.length)
  | n, [], l, r, h => by
    have : r = l := by cases n <;> cases l <;> simp [setFrom] at h <;> first | exact h.symm | simp_all
    exact .inl ⟨rfl, this⟩
  | 0, y :: ys, [], r, h => by simp [setFrom] at h
  | 0, y :: ys, x :: l, r, h => by
    simp only [setFrom] at h
    split at h
    · rename_i r' hr
      cases h
      right
      rcases setFrom_some 0 ys l hr with ⟨rfl, rfl⟩ | ⟨h1, rfl⟩
      · simp
      · simp at h1 ⊢
        exact h1
    · cases h
  | n + 1, y :: ys, [], r, h => by simp [setFrom] at h
  | n + 1, y :: ys, x :: l, r, h => by
    simp only [setFrom] at h
    split at h
    · rename_i r' hr
      cases h
      right
      rcases setFrom_some n (y :: ys) l hr with ⟨h1, _⟩ | ⟨h1, rfl⟩
      · cases h1
      · refine ⟨by simp at h1 ⊢; omega, ?_⟩
        rw [show n + 1 + (y :: ys).length = (n + (y :: ys).length) + 1 by omega]
        simp
    · cases h
theorem allOne_mem {l : List AV} (h : allOne l = true) : ∀ v ∈ l, v.one = true := by
  induction l with
  | nil => intro v hv; cases hv
  | cons x t ih =>
    simp only [allOne] at h
    split at h
    · rename_i hx
      intro v hv
      cases hv with
      | head => exact hx
      | tail _ hm => exact ih h v hm
    · cases h
theorem RelL.one {E : Env} : ∀ {l : List AV} {m : List Value}, RelL E l m → (∀ v ∈ l, v.one = true) → ∀ v ∈ m, v.oneCell' = true
  | _, _, .nil, _ => fun v hv => by cases hv
  | _, _, .cons h t, k => fun v hv => by
    cases hv with
    | head => rw [h.one]; exact k _ (by simp)
    | tail _ hm => exact t.one (fun u hu => k u (by simp [hu])) v hm

section
variable {G : Nat → Prop} {B : Nat} {E : Env} {s : St} {w : World}

theorem Sat.cells (h : Sat G B E s w) {i : Nat} {vs : List AV} (hg : G i) (hc : cellsAt s i = some vs) :
    ∃ b C c e f xs rest, E i = .live b C ∧ w.heap[b]? = some (.cells c e f) ∧ c.toList = xs ++ rest ∧ RelL E vs xs := by
  unfold cellsAt at hc
  split at hc
  · rename_i vs' e fz op ho
    cases hc
    obtain ⟨b, C, ob, he, hb, hok, _⟩ := h.fact i _ hg ho
    cases op with
    | none =>
      obtain ⟨c, f, rfl, hr, _⟩ := hok
      exact ⟨b, C, c, e, f, c.toList, [], he, hb, by simp, hr⟩
    | some z =>
      obtain ⟨c, f, xs, rest, b', C', rfl, hx, hr, _, _, _⟩ := hok
      exact ⟨b, C, c, e, f, xs, rest, he, hb, hx, hr⟩
  · rename_i vs' ho
    cases hc
    obtain ⟨b, C, ob, he, hb, hok, _⟩ := h.fact i _ hg ho
    obtain ⟨c, e, f, rfl, hr⟩ := hok
    exact ⟨b, C, c, e, f, c.toList, [], he, hb, by simp, hr⟩
  · cases hc

theorem Sat.loadN (h : Sat G B E s w) {i off n : Nat} {l : List AV} (hg : G i) (hl : loadN s i off n = some l) :
    ∃ b C ys, E i = .live b C ∧ RelL E l ys ∧ ys.length = n ∧ ∀ j v, ys[j]? = some v → w.cell? ⟨b, off + j, none⟩ = some v := by
  obtain ⟨vs, h1, h2⟩ := oc_some hl
  obtain ⟨b, C, c, e, f, xs, rest, he, hb, hx, hr⟩ := h.cells hg h1
  obtain ⟨rfl, h3⟩ := takeN_some _ h2
  rw [dropN_eq] at h3 ⊢
  have hlen := hr.length
  simp at h3
  refine ⟨b, C, (xs.drop off).take n, he, (hr.drop off).take n, by simp; omega, ?_⟩
  intro j v hj
  rw [List.getElem?_take] at hj
  split at hj
  · rw [List.getElem?_drop] at hj
    have : c[off + j]? = some v := by
      rw [← Array.getElem?_toList, hx, List.getElem?_append_left (by have := (List.getElem?_eq_some_iff.1 hj).1; exact this)]
      exact hj
    simp [World.cell?, hb, this]
  · cases hj
theorem Sat.rowN (h : Sat G B E s w) {i off n : Nat} {l : List AV} (hg : G i) (hl : rowN s i off n = some l) :
    ∃ b C ys, E i = .live b C ∧ RelL E l ys ∧ ys.length = n ∧ ∀ j v, ys[j]? = some v → w.cell? ⟨b, C + off + j, none⟩ = some v := by
  obtain ⟨o, ho, h2⟩ := oc_some hl
  unfold rowC at h2
  split at h2
  case h_2 => cases h2
  rename_i vs
  obtain ⟨b, C, ob, he, hb, hok, _⟩ := h.fact i _ hg ho
  obtain ⟨c, e, f, b2, C2, xs, rest, rfl, he2, hx, hr⟩ := hok
  rw [he] at he2
  cases he2
  obtain ⟨rfl, h3⟩ := takeN_some _ h2
  rw [dropN_eq] at h3 ⊢
  have hlen := hr.length
  simp at h3
  refine ⟨b, C, (xs.drop off).take n, he, (hr.drop off).take n, by simp; omega, ?_⟩
  intro j v hj
  rw [List.getElem?_take] at hj
  split at hj
  · rw [List.getElem?_drop] at hj
    have h4 : (c.toList.drop C)[off + j]? = some v := by
      rw [hx, List.getElem?_append_left (by have := (List.getElem?_eq_some_iff.1 hj).1; exact this)]
      exact hj
    rw [List.getElem?_drop, ← Nat.add_assoc] at h4
    have : c[C + off + j]? = some v := by rw [← Array.getElem?_toList]; exact h4
    simp [World.cell?, hb, this]
  · cases hj
end

/-- Cells written into a block, whatever of it is frozen elsewhere. -/
theorem run_storeCells_in {P : Program} (g o : Nat) (t : TypeId) (f : Nat × Nat) : ∀ (vs : List Value) (i : Nat) (cur : Array Value) (w : World), w.heap[g]? = some (.cells cur t f) → o + i + vs.length ≤ cur.size →
    (∀ j, j < vs.length → ¬ (f.1 ≤ o + i + j ∧ o + i + j < f.2)) → (∀ v ∈ vs, v.oneCell' = true) →
    (storeCells ⟨g, o, none⟩ vs i).run P w = .ok () (w.setRow g (cur.toList.take (o + i) ++ vs ++ cur.toList.drop (o + i + vs.length)).toArray)
  | [], i, cur, w, hg, _, _, _ => by
    simp only [storeCells, List.append_nil, List.length_nil, Nat.add_zero, List.take_append_drop, Array.toArray_toList]
    rw [setRow_self w g cur t f hg]
    rfl
  | v :: rest, i, cur, w, hg, hl, hf, h1 => by
    have hi : o + i < cur.size := by simp at hl; omega
    have hadd : (⟨g, o, none⟩ : Addr).add i = ⟨g, o + i, none⟩ := by unfold Addr.add; split <;> simp_all
    have hcell : w.cell? ⟨g, o + i, none⟩ = some cur[o + i] := by simp [World.cell?, hg, hi]
    have hfro : w.frozen? ⟨g, o + i, none⟩ = false := by
      have := hf 0 (by simp)
      simp [World.frozen?, hg]
      simp at this
      intro h; exact this h
    have hst : (store ((⟨g, o, none⟩ : Addr).add i) v).run P w = .ok () (w.setRow g (cur.setIfInBounds (o + i) v)) := by
      rw [hadd, run_store P w _ v _ (h1 v (by simp)), hcell]
      simp [hfro, setCell_eq_setRow w g (o + i) cur t f v hg]
    have ih := run_storeCells_in (P := P) g o t f rest (i + 1) (cur.setIfInBounds (o + i) v) (w.setRow g (cur.setIfInBounds (o + i) v)) (setRow_heap w g cur _ t _ hg) (by simp at hl ⊢; omega)
      (fun j hj => by have := hf (j + 1) (by simp; omega); rw [show o + (i + 1) + j = o + i + (j + 1) by omega]; exact this) (fun x hx => h1 x (by simp [hx]))
    simp only [storeCells, Sem.run_bind, hst, Result.andThen_ok, ih, setRow_setRow]
    congr 3
    have e := list_seg_step cur.toList (o + i) v rest (by simp at hl ⊢; omega)
    simpa [Array.toList_setIfInBounds, Nat.add_assoc] using e

section
variable {G : Nat → Prop} {B : Nat} {E : Env} {s : St} {w : World}

theorem heap_put {w : World} {b k : Nat} {o : Obj} (hb : b < w.heap.size) : (w.putObj b o).heap[k]? = if k = b then some o else w.heap[k]? := by
  by_cases h : k = b
  · subst h; simp [World.putObj_heap_same hb]
  · simp [World.putObj_heap_other h, h]

/-- An object is written anew. -/
theorem Sat.write (h : Sat G B E s w) {i b C : Nat} {o o' : AObj} {ob' : Obj} (hg : G i) (ho : s.h.get i = some o) (hf : o.fixed = false) (he : E i = .live b C) (hok : OkObj E i o' ob') :
    Sat G B E (s.set i (some o')) (w.putObj b ob') ∧ Ext B (s.set i (some o')).w E E w (w.putObj b ob') := by
  have hlt := h.lt i b C he
  have hB : B ≤ b := by
    obtain ⟨b', C', ob, he', _, _, hx⟩ := h.fact i o hg ho
    rw [he] at he'
    cases he'
    rcases hx with hx | hx
    · rw [hf] at hx; cases hx
    · exact hx
  refine ⟨⟨h.inj, fun j b' C' hj => by simpa [World.putObj] using h.lt j b' C' hj, by simpa [World.putObj] using h.base, h.glob, h.fresh, ?_, h.orc⟩, Env.le_refl _, fun _ _ => rfl, ?_, ⟨rfl, rfl, rfl, by simp [World.putObj], fun k hk => ?_⟩⟩
  · intro j oj hgj hj
    rcases T.put_some hj with ⟨rfl, hx⟩ | ⟨hne, hx⟩
    · cases hx
      exact ⟨b, C, ob', he, by rw [heap_put hlt]; simp, hok, .inr hB⟩
    · obtain ⟨b', C', ob, he', hb', hok', hx'⟩ := h.fact j oj hgj hx
      refine ⟨b', C', ob, he', ?_, hok', hx'⟩
      have hbb : b' ≠ b := fun e => hne (h.inj j i b' C' C (by rw [e]; exact hB) he' (by rw [e]; exact he))
      rw [heap_put hlt, if_neg hbb, hb']
  · intro j b' C' hj he'
    rw [heap_put hlt, if_neg]
    intro e
    have hji := h.inj j i b' C' C (by rw [e]; exact hB) he' (by rw [e]; exact he)
    exact hj ((in_lor _ _ _).2 (.inr ((in_bit _ _).2 hji.symm)))
  · rw [heap_put hlt, if_neg (by omega)]

theorem setRow_put {w : World} {g : Nat} {cur cells : Array Value} {t : TypeId} {f : Nat × Nat} (h : w.heap[g]? = some (.cells cur t f)) : w.setRow g cells = w.putObj g (.cells cells t f) := by
  have hlt : g < w.heap.size := (Array.getElem?_eq_some_iff.1 h).1
  unfold World.setRow World.putObj
  congr 1
  apply Array.ext_getElem?
  intro k
  rw [Array.getElem?_modify, Array.getElem?_setIfInBounds]
  by_cases hk : g = k
  · subst hk
    have h' : w.heap[g] = .cells cur t f := by simpa [Array.getElem?_eq_getElem hlt] using h
    simp [hlt, h']
  · simp [hk]

/-- The world without a turn. -/
theorem Sat.seen (h : Sat G B E s w) (i : Nat) : Sat G B E (s.see i) w := ⟨h.inj, h.lt, h.base, h.glob, h.fresh, h.fact, h.orc⟩
theorem Sat.drew (h : Sat G B E s w) (n : Nat) : Sat G B E s { w with drawn := n } := ⟨h.inj, h.lt, h.base, h.glob, h.fresh, h.fact, h.orc⟩
theorem Ext.drew (W : Nat) (n : Nat) : Ext B W E E w { w with drawn := n } := ⟨Env.le_refl _, fun _ _ => rfl, fun _ _ _ _ _ => rfl, ⟨rfl, rfl, rfl, Nat.le_refl _, fun _ _ => rfl⟩⟩

def Env.set (E : Env) (i : Nat) (x : Slot) : Env := ⟨fun j => if j = i then x else E j, E.ρ, E.st⟩
theorem Env.set_same (E : Env) (i : Nat) (x : Slot) : E.set i x i = x := by simp [Env.set]
theorem Env.set_ne (E : Env) {i j : Nat} (x : Slot) (h : j ≠ i) : E.set i x j = E j := by simp [Env.set, h]
theorem Env.set_le (E : Env) (i : Nat) (x : Slot) (h : (E i).le x) : E.le (E.set i x) := by
  refine ⟨fun j => ?_, rfl, fun _ _ => rfl⟩
  by_cases hj : j = i
  · subst hj; rw [Env.set_same]; exact h
  · rw [Env.set_ne _ _ hj]; exact Slot.le_refl _

/-- A new object. -/
theorem Sat.new (h : Sat G B E s w) {o : AObj} {ob : Obj} {C : Nat} (hg : G s.c) (hf : o.fixed = false) (hok : OkObj (E.set s.c (.live w.heap.size C)) s.c o ob) :
    Sat G B (E.set s.c (.live w.heap.size C)) (s.new o) (w.alloc ob) ∧ Ext B (s.new o).w E (E.set s.c (.live w.heap.size C)) w (w.alloc ob) := by
  have hu := h.fresh s.c (Nat.le_refl _) hg
  have hle : E.le (E.set s.c (.live w.heap.size C)) := E.set_le _ _ (by rw [hu]; trivial)
  have hold : ∀ k, k < w.heap.size → (w.alloc ob).heap[k]? = w.heap[k]? := fun k hk => Below.heap_alloc w ob k hk
  have hsz : (w.alloc ob).heap.size = w.heap.size + 1 := by simp
  refine ⟨⟨?_, ?_, by rw [hsz]; have := h.base; omega, fun g hg => Slot.at_le (hle g) (h.glob g hg), ?_, ?_, h.orc⟩, hle, ?_, ?_, ⟨rfl, rfl, rfl, by simp, fun k hk => hold k (by have := h.base; omega)⟩⟩
  · intro i j b X Y hb hi hj
    by_cases h1 : i = s.c <;> by_cases h2 : j = s.c
    · rw [h1, h2]
    · subst h1
      rw [Env.set_same] at hi
      rw [Env.set_ne _ _ h2] at hj
      cases hi
      exact absurd (h.lt _ _ _ hj) (Nat.lt_irrefl _)
    · subst h2
      rw [Env.set_same] at hj
      rw [Env.set_ne _ _ h1] at hi
      cases hj
      exact absurd (h.lt _ _ _ hi) (Nat.lt_irrefl _)
    · rw [Env.set_ne _ _ h1] at hi
      rw [Env.set_ne _ _ h2] at hj
      exact h.inj i j b X Y hb hi hj
  · intro i b X hi
    rw [hsz]
    by_cases h1 : i = s.c
    · subst h1
      rw [Env.set_same] at hi
      cases hi
      omega
    · rw [Env.set_ne _ _ h1] at hi
      have := h.lt i b X hi
      omega
  · intro i hi hgi
    have hi' : s.c + 1 ≤ i := hi
    rw [Env.set_ne _ _ (by omega)]
    exact h.fresh i (by omega) hgi
  · intro j oj hgj hj
    rcases T.put_some hj with ⟨rfl, hx⟩ | ⟨hne, hx⟩
    · cases hx
      exact ⟨w.heap.size, C, ob, Env.set_same _ _ _, World.alloc_heap_new w ob, hok, .inr h.base⟩
    · obtain ⟨b', C', ob', he', hb', hok', hx'⟩ := h.fact j oj hgj hx
      refine ⟨b', C', ob', (Env.set_ne _ _ hne).trans he', ?_, hok'.mono hle (fun b X hbx => (Env.set_ne _ _ hne).trans hbx), hx'⟩
      rw [hold b' (h.lt _ _ _ he'), hb']
  · intro j hj
    exact Env.set_ne _ _ (fun e => hj ((in_lor _ _ _).2 (.inr ((in_bit _ _).2 e.symm))))
  · intro j b X _ he
    exact hold b (h.lt _ _ _ he)

/-- Cells are stored. -/
theorem Sat.storeN (h : Sat G B E s w) {P : Program} {i off : Nat} {l : List AV} {ys : List Value} {s' : St} (hG : ∀ j, In s'.l j → G j) (hs : storeN s i off l = some s') (hr : RelL E l ys) :
    ∃ b C w', E i = .live b C ∧ (storeCells ⟨b, off, none⟩ ys).run P w = .ok () w' ∧ Sat G B E s' w' ∧ Ext B s'.w E E w w' := by
  obtain ⟨o, h1, h2⟩ := oc_some hs
  unfold cellsC at h2
  split at h2
  case h_2 => cases h2
  rename_i vs e fz op
  obtain ⟨hun, h2⟩ := bc_some h2
  obtain ⟨hone, h2⟩ := bc_some h2
  obtain ⟨vs', hset, h2⟩ := oc_some h2
  cases h2
  have hgi : G i := hG i ((in_lor _ _ _).2 (.inr ((in_bit _ _).2 rfl)))
  have hy1 := hr.one (allOne_mem hone)
  have hlen := hr.length
  have key : ∀ (c : Array Value) (f : Nat × Nat), (∀ off, off < c.size → f.1 ≤ off → off < f.2 → fz.1 ≤ off ∧ off < fz.2) → off + ys.length ≤ c.size ∨ ys = [] → ∀ j, j < ys.length → ¬ (f.1 ≤ off + 0 + j ∧ off + 0 + j < f.2) := by
    intro c f hf hfit j hj hx
    rcases hfit with hfit | rfl
    · have := hf (off + j) (by omega) (by omega) (by omega)
      simp only [unfrozen, Bool.or_eq_true, Nat.ble_eq] at hun
      omega
    · simp at hj
  obtain ⟨b, C, ob, he, hb, hok, hx⟩ := h.fact i _ hgi h1
  have fin : ∀ (c : Array Value) (f : Nat × Nat), w.heap[b]? = some (.cells c e f) → (storeCells ⟨b, off, none⟩ ys).run P w = .ok () (w.putObj b (.cells (c.toList.take off ++ ys ++ c.toList.drop (off + ys.length)).toArray e f)) →
      OkObj E i (.cells vs' e fz op) (.cells (c.toList.take off ++ ys ++ c.toList.drop (off + ys.length)).toArray e f) →
      ∃ b C w', E i = .live b C ∧ (storeCells ⟨b, off, none⟩ ys).run P w = .ok () w' ∧ Sat G B E (s.set i (some (.cells vs' e fz op))) w' ∧ Ext B (s.set i (some (.cells vs' e fz op))).w E E w w' := by
    intro c f hbc hrun hok'
    obtain ⟨k1, k2⟩ := h.write hgi h1 rfl he hok'
    exact ⟨b, C, _, he, hrun, k1, k2⟩
  cases op with
  | none =>
    obtain ⟨c, f, rfl, hrc, hfz⟩ := hok
    have hcl := hrc.length
    simp at hcl
    rcases setFrom_some _ _ _ hset with ⟨rfl, rfl⟩ | ⟨hfit, rfl⟩
    · cases hr
      have hsame : (c.toList.take off ++ [] ++ c.toList.drop (off + ([] : List Value).length)).toArray = c := by simp
      refine fin c f hb ?_ ?_
      · rw [hsame]
        simp only [storeCells]
        rw [← setRow_put hb, setRow_self w b c e f hb]; rfl
      · rw [hsame]; exact ⟨c, f, rfl, hrc, hfz⟩
    · have hfit' : off + ys.length ≤ c.size := by omega
      refine fin c f hb ?_ ⟨_, f, rfl, ?_, ?_⟩
      · have := run_storeCells_in (P := P) b off e f ys 0 c w hb (by omega) (key c f hfz (.inl hfit')) hy1
        rw [this, setRow_put hb]; simp
      · simp only [List.toList_toArray]
        refine ((hrc.take off).append hr).append ?_
        rw [hlen]; exact hrc.drop _
      · intro off' ho'
        refine hfz off' ?_
        simp at ho'
        omega
  | some z =>
    obtain ⟨c, f, xs, rest, b', C', rfl, hxr, hrc, he', hsz, hfz⟩ := hok
    have hcl := hrc.length
    have hcs : c.size = xs.length + rest.length := by rw [← Array.length_toList, hxr]; simp
    rcases setFrom_some _ _ _ hset with ⟨rfl, rfl⟩ | ⟨hfit, rfl⟩
    · cases hr
      have hsame : (c.toList.take off ++ [] ++ c.toList.drop (off + ([] : List Value).length)).toArray = c := by simp
      refine fin c f hb ?_ ?_
      · rw [hsame]
        simp only [storeCells]
        rw [← setRow_put hb, setRow_self w b c e f hb]; rfl
      · rw [hsame]; exact ⟨c, f, xs, rest, b', C', rfl, hxr, hrc, he', hsz, hfz⟩
    · have hfit' : off + ys.length ≤ xs.length := by omega
      have hnew : c.toList.take off ++ ys ++ c.toList.drop (off + ys.length) = (xs.take off ++ ys ++ xs.drop (off + ys.length)) ++ rest := by
        rw [hxr, List.take_append_of_le_length (by omega), List.drop_append_of_le_length (by omega)]
        simp
      refine fin c f hb ?_ ⟨_, f, xs.take off ++ ys ++ xs.drop (off + ys.length), rest, b', C', rfl, ?_, ?_, he', ?_, ?_⟩
      · have := run_storeCells_in (P := P) b off e f ys 0 c w hb (by omega) (key c f hfz (.inl (by omega))) hy1
        rw [this, setRow_put hb]; simp
      · simp only [List.toList_toArray]; exact hnew
      · refine ((hrc.take off).append hr).append ?_
        rw [hlen]; exact hrc.drop _
      · rw [← hsz]; simp; omega
      · intro off' ho'
        refine hfz off' ?_
        simp at ho'
        omega
end
end Ev
end Go.Proofs.YtbjllaknnpbkkaaGreatDoor
