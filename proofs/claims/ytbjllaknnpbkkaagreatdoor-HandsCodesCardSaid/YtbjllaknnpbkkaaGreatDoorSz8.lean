/-
  The evaluator: loads, stores, new blocks, literals.
-/
import Derived.Test.YtbjllaknnpbkkaaGreatDoorSz7
namespace Go.Proofs.YtbjllaknnpbkkaaGreatDoor
namespace Ev
open Go.RowKit

/-- A piece of the machine's work comes to an abstract value and a state. -/
def Ok1 (P : Program) (G : Nat → Prop) (B : Nat) (s' : St) (v : AV) (E : Env) (w : World) (m : Sem Value) : Prop :=
  ∃ E' v' w', m.run P w = .ok v' w' ∧ Rel E' v v' ∧ Sat G B E' s' w' ∧ Ext B s'.w E E' w w'

section
variable {P : Program} {G : Nat → Prop} {B : Nat} {E : Env} {s s' : St} {w : World} {v : AV}

theorem Ok1.pure {m : Sem Value} {v' : Value} (h : Sat G B E s w) (hm : m.run P w = .ok v' w) (hr : Rel E v v') : Ok1 P G B s v E w m :=
  ⟨E, v', w, hm, hr, h, Ext.refl _ _ _ _⟩
theorem Sat.at_live (h : Sat G B E s w) {i b b' C : Nat} (he : E i = .live b C) (ha : (E i).at b') : b' = b := by rw [he] at ha; exact ha

theorem run_loadCells_at {b off : Nat} {ys : List Value} (h : ∀ j v, ys[j]? = some v → w.cell? ⟨b, off + j, none⟩ = some v) {n : Nat} (hn : ys.length = n) : (loadCells ⟨b, off, none⟩ n).run P w = .ok ys.toArray w := by
  subst hn
  refine run_loadCells_list w _ ys fun j v hj => ?_
  rw [addr_add]; exact h j v hj
theorem run_load_at {a : Addr} {y : Value} (h : w.cell? a = some y) : (load a).run P w = .ok y w := by rw [run_load, h]

theorem loadVarA_ok {t : TypeId} {i off : Nat} (h : loadVarA P t i off s = some (v, s')) :
    s' = s.see i ∧ ∀ {G B E w b}, G i → Sat G B E s w → (E i).at b → ∃ v', (loadVar t ⟨b, off, none⟩).run P w = .ok v' w ∧ Rel E v v' := by
  obtain ⟨g, hg, h⟩ := oc_some h
  cases g with
  | true =>
    rw [bi_true] at h
    obtain ⟨n, hn, h⟩ := oc_some h
    obtain ⟨l, hl, h⟩ := oc_some h
    cases h
    refine ⟨rfl, fun {G B E w b} hG hs hb => ?_⟩
    obtain ⟨b', C, ys, he, hr, hlen, hc⟩ := hs.loadN hG hl
    obtain rfl := hs.at_live he hb
    exact ⟨.agg ys.toArray, by simp [loadVar, isAggB_run hg, szOf_run hn, run_loadCells_at hc hlen], .agg (by simpa using hr)⟩
  | false =>
    rw [bi_false] at h
    obtain ⟨l, hl, h⟩ := oc_some h
    unfold headA at h
    split at h
    · cases h
      refine ⟨rfl, fun {G B E w b} hG hs hb => ?_⟩
      obtain ⟨b', C, ys, he, hr, hlen, hc⟩ := hs.loadN hG hl
      obtain rfl := hs.at_live he hb
      cases hr with
      | cons hy ht =>
        cases ht
        have := hc 0 _ rfl
        exact ⟨_, by simp only [loadVar, Sem.run_bind, isAggB_run hg, Result.andThen_ok]; exact run_load_at this, hy⟩
    · cases h
theorem ptr2C_some {β : Type} {x : AV} {k r : Nat → Nat → Option β} {y : β} (h : x.ptr2C k r = some y) : (∃ i off, x = .ptr i off ∧ k i off = some y) ∨ ∃ i off, x = .aptr i off ∧ r i off = some y := by
  cases x <;> first | (cases h; done) | exact .inl ⟨_, _, rfl, h⟩ | exact .inr ⟨_, _, rfl, h⟩
theorem Sat.row_live (h : Sat G B E s w) {i b C b' C' : Nat} (he : E i = .live b C) (ha : (E i).row b' C') : b' = b ∧ C' = C := by rw [he] at ha; exact ha
theorem loadRowA_ok {t : TypeId} {i off : Nat} (h : loadRowA P t s i off = some (v, s')) :
    s' = s.see i ∧ ∀ {G B E w b C}, G i → Sat G B E s w → (E i).row b C → ∃ v', (loadVar t ⟨b, C + off, none⟩).run P w = .ok v' w ∧ Rel E v v' := by
  obtain ⟨g, hg, h⟩ := oc_some h
  cases g with
  | true =>
    rw [bi_true] at h
    obtain ⟨n, hn, h⟩ := oc_some h
    obtain ⟨l, hl, h⟩ := oc_some h
    cases h
    refine ⟨rfl, fun {G B E w b C} hG hs hb => ?_⟩
    obtain ⟨b', C', ys, he, hr, hlen, hc⟩ := hs.rowN hG hl
    obtain ⟨rfl, rfl⟩ := hs.row_live he hb
    exact ⟨.agg ys.toArray, by simp [loadVar, isAggB_run hg, szOf_run hn, run_loadCells_at hc hlen], .agg (by simpa using hr)⟩
  | false =>
    rw [bi_false] at h
    obtain ⟨l, hl, h⟩ := oc_some h
    unfold headA at h
    split at h
    · cases h
      refine ⟨rfl, fun {G B E w b C} hG hs hb => ?_⟩
      obtain ⟨b', C', ys, he, hr, hlen, hc⟩ := hs.rowN hG hl
      obtain ⟨rfl, rfl⟩ := hs.row_live he hb
      cases hr with
      | cons hy ht =>
        cases ht
        have := hc 0 _ rfl
        exact ⟨_, by simp only [loadVar, Sem.run_bind, isAggB_run hg, Result.andThen_ok]; exact run_load_at this, hy⟩
    · cases h
theorem in_see (s : St) (i : Nat) : In (s.see i).l i := (in_lor _ _ _).2 (.inr ((in_bit _ _).2 rfl))
theorem in_set (s : St) (i : Nat) (o : Option AObj) : In (s.set i o).l i := (in_lor _ _ _).2 (.inr ((in_bit _ _).2 rfl))
theorem in_new (s : St) (o : AObj) : In (s.new o).l s.c := (in_lor _ _ _).2 (.inr ((in_bit _ _).2 rfl))

theorem storeN_step {i off : Nat} {l : List AV} (h : storeN s i off l = some s') : Step s s' := by
  obtain ⟨o, h1, h2⟩ := oc_some h
  unfold cellsC at h2
  split at h2
  · obtain ⟨_, h2⟩ := bc_some h2
    obtain ⟨_, h2⟩ := bc_some h2
    obtain ⟨vs', hset, h2⟩ := oc_some h2
    cases h2
    exact Step.set _ _ _
  · cases h2
theorem storeVarA_ok {t : TypeId} {i off : Nat} {x : AV} (h : storeVarA P t i off x s = some (v, s')) :
    Step s s' ∧ v = undefA ∧ ∀ {G B E w b x'}, (∀ j, In s'.l j → G j) → Sat G B E s w → (E i).at b → Rel E x x' →
      ∃ w', (storeVar t ⟨b, off, none⟩ x').run P w = .ok () w' ∧ Sat G B E s' w' ∧ Ext B s'.w E E w w' := by
  obtain ⟨n, hn, h⟩ := oc_some h
  obtain ⟨hl, h⟩ := bc_some h
  obtain ⟨s1, hs1, h⟩ := oc_some h
  cases h
  refine ⟨storeN_step hs1, rfl, fun {G B E w b x'} hG hs hb hr => ?_⟩
  obtain ⟨b', C, w', he, hrun, hs', hx⟩ := hs.storeN (P := P) hG hs1 hr.cells
  obtain rfl := hs.at_live he hb
  have hsz : x'.cells.size = n := by
    have := hr.cells.length
    have hl' : x.cells.length = n := by simpa using hl
    simp at this; omega
  exact ⟨w', by simp [storeVar, szOf_run hn, hsz, hrun], hs', hx⟩

theorem zeroOf_run {t : TypeId} {z : AV} (h : zeroOf P t = some z) : ∃ v, (∀ w, (zeroValue t).run P w = .ok v w) ∧ ∀ E, Rel E z v := by
  unfold zeroOf at h
  split at h
  · rename_i i hi
    split at h
    · rename_i v hv
      exact ⟨v, fun w => by simp [zeroValue, typeInfo, hi, hv], fun E => ofVal_ok h⟩
    · cases h
  · cases h

/-- A new row of cells. -/
theorem new_cells (hs : Sat G B E s w) {e : TypeId} {l : List AV} {ys : Array Value} (hG : ∀ j, In (s.new (.cells l e (0, 0) none)).l j → G j) (hr : RelL E l ys.toList) :
    Sat G B (E.set s.c (.live w.heap.size 0)) (s.new (.cells l e (0, 0) none)) (w.alloc (.cells ys e)) ∧ Ext B (s.new (.cells l e (0, 0) none)).w E (E.set s.c (.live w.heap.size 0)) w (w.alloc (.cells ys e)) := by
  have hg := hG _ (in_new _ _)
  have hle : E.le (E.set s.c (.live w.heap.size 0)) := E.set_le _ _ (by rw [hs.fresh s.c (Nat.le_refl _) hg]; trivial)
  exact hs.new hg rfl ⟨ys, (0, 0), rfl, hr.mono hle, fun off _ _ h => by simp at h⟩
theorem newA_ok {e : TypeId} {l : List AV} (h : newA s e l = some (v, s')) :
    Step s s' ∧ ∀ {G B E w} {ys : Array Value}, (∀ j, In s'.l j → G j) → Sat G B E s w → RelL E l ys.toList → Ok1 P G B s' v E w (do pure (.pointer (some (← newRow e ys)))) := by
  obtain ⟨h1, h⟩ := bc_some h
  cases h
  refine ⟨Step.new _ _, fun {G B E w ys} hG hs hr => ?_⟩
  obtain ⟨k1, k2⟩ := new_cells hs hG hr
  exact ⟨_, .pointer (some ⟨w.heap.size, 0, none⟩), _, by simp [newRow], .ptr (by rw [Env.set_same]; rfl), k1, k2⟩

/-- Cells laid over an array, one behind the other. -/
theorem foldl_set (off : Nat) : ∀ (l : List Value) (k : Nat) (cs : Array Value), off + k + l.length ≤ cs.size →
    ((l.zipIdx k).foldl (fun (cs : Array Value) (p : Value × Nat) => cs.setIfInBounds (off + p.2) p.1) cs).toList = cs.toList.take (off + k) ++ l ++ cs.toList.drop (off + k + l.length)
  | [], k, cs, _ => by simp
  | v :: rest, k, cs, h => by
    simp only [List.zipIdx_cons, List.foldl_cons]
    rw [foldl_set off rest (k + 1) _ (by simp at h ⊢; omega)]
    have e := list_seg_step cs.toList (off + k) v rest (by simp at h ⊢; omega)
    simpa [Array.toList_setIfInBounds, Nat.add_assoc] using e
theorem fillA_ok {pl : Nat → Option (Nat × Nat)} (parts : List (Nat × AV)) : ∀ {parts' : List (Nat × Value)} {cells l : List AV} {cs : Array Value}, fillA pl cells parts = some l → RelP E parts parts' → RelL E cells cs.toList →
    ∃ cs', Instr.fill pl cs parts' = some cs' ∧ RelL E l cs'.toList := by
  induction parts with
  | nil => intro parts' cells l cs h hp hr; cases hp; cases h; exact ⟨cs, rfl, hr⟩
  | cons p rest ih =>
    obtain ⟨i, x⟩ := p
    intro parts' cells l cs h hp hr
    cases hp with
    | cons hx ht =>
      rename_i y m
      simp only [fillA] at h
      obtain ⟨off, size, hp, h⟩ := oc2_some h
      obtain ⟨hsz, h⟩ := bc_some h
      obtain ⟨hpos, h⟩ := bc_some h
      obtain ⟨hone, h⟩ := bc_some h
      obtain ⟨cells', hset, h⟩ := oc_some h
      have hlen := hx.cells.length
      have hcl := hr.length
      simp only [Array.length_toList] at hlen hcl
      have hxs : x.cells.length = size := by simpa using hsz
      have hpos' : 0 < size := by simpa using hpos
      rcases setFrom_some _ _ _ hset with ⟨hnil, _⟩ | ⟨hfit, rfl⟩
      · rw [hnil] at hxs; simp at hxs; omega
      · have hf : off + 0 + y.cells.toList.length ≤ cs.size := by simp; omega
        have hset' := foldl_set off y.cells.toList 0 cs hf
        obtain ⟨cs', h1, h2⟩ := ih (cs := y.cells.zipIdx.foldl (fun cs (p : Value × Nat) => cs.setIfInBounds (off + p.2) p.1) cs) h ht (by
          have e : (y.cells.zipIdx.foldl (fun cs (p : Value × Nat) => cs.setIfInBounds (off + p.2) p.1) cs).toList = cs.toList.take off ++ y.cells.toList ++ cs.toList.drop (off + y.cells.size) := by
            rw [← Array.foldl_toList]
            simpa using hset'
          rw [e]
          refine ((hr.take off).append hx.cells).append ?_
          rw [hlen]; exact hr.drop _)
        refine ⟨cs', ?_, h2⟩
        simp only [Instr.fill, hp]
        rw [if_neg (by simp; omega)]
        exact h1
theorem RelL.of_get : ∀ {l : List AV} {m : List Value}, l.length = m.length → (∀ (i : Nat) x y, l[i]? = some x → m[i]? = some y → Rel E x y) → RelL E l m
  | [], [], _, _ => .nil
  | [], _ :: _, h, _ => by cases h
  | _ :: _, [], h, _ => by cases h
  | a :: l, b :: m, h, k => .cons (k 0 a b rfl rfl) (RelL.of_get (by simpa using h) fun i x y hx hy => k (i + 1) x y hx hy)
theorem repL_length (z : List AV) : ∀ n, (repL z n).length = n * z.length
  | 0 => by simp [repL]
  | n + 1 => by simp [repL, repL_length z n, Nat.succ_mul]; omega
theorem repL_get (z : List AV) (hz : 0 < z.length) : ∀ n i, i < n * z.length → (repL z n)[i]? = z[i % z.length]?
  | 0, i, h => by simp at h
  | n + 1, i, h => by
    simp only [repL]
    by_cases hi : i < z.length
    · rw [List.getElem?_append_left hi, Nat.mod_eq_of_lt hi]
    · rw [List.getElem?_append_right (by omega), repL_get z hz n (i - z.length) (by rw [Nat.succ_mul] at h; omega)]
      congr 1
      rw [Nat.mod_eq_sub_mod (a := i) (by omega)]
/-- A row of zero values. -/
theorem repL_rel {z : AV} {v : Value} (hr : Rel E z v) {n k : Nat} (hk : z.cells.length = k) (hpos : 0 < k) :
    RelL E (repL z.cells n) ((Array.range (n * k)).map (v.cells[· % v.cells.size]!)).toList := by
  have hl := hr.cells.length
  simp only [Array.length_toList] at hl
  refine RelL.of_get (by rw [repL_length]; simp [hk]) fun i x y hx hy => ?_
  have hi : i < n * z.cells.length := by
    have := (List.getElem?_eq_some_iff.1 hx).1
    rw [repL_length] at this; exact this
  rw [repL_get _ (by omega) n i hi] at hx
  obtain ⟨y', hy', hr'⟩ := hr.cells.nth hx
  have : y = y' := by
    simp only [Array.toList_map, Array.toList_range, List.getElem?_map, List.getElem?_range, Option.map_eq_some_iff] at hy
    rw [hk] at hi
    have hm : i % v.cells.size < v.cells.size := Nat.mod_lt _ (by omega)
    rw [hl] at hy'
    rw [List.getElem?_eq_getElem (by simpa using hm)] at hy'
    simp only [Option.some.injEq] at hy'
    obtain ⟨j, hj, hjy⟩ := hy
    simp [hi] at hj
    subst hj
    rw [← hjy, ← hy']
    simp [hm]
  rw [this]; exact hr'
end
end Ev
end Go.Proofs.YtbjllaknnpbkkaaGreatDoor
