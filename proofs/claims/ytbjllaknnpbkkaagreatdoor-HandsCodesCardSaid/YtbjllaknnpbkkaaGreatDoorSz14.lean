/-
  The evaluator: maps, on.
-/
import Derived.Test.YtbjllaknnpbkkaaGreatDoorSz13
namespace Go.Proofs.YtbjllaknnpbkkaaGreatDoor
namespace Ev
open Go.RowKit

section
variable {P : Program} {G : Nat → Prop} {B : Nat} {E : Env} {s s' : St} {w : World} {v : AV}

theorem Sat.map (h : Sat G B E s w) {i b : Nat} {es : List Ent} {clock : Nat} (hg : G i) (ho : s.h.get i = some (.map es clock)) (hb : (E i).at b) :
    ∃ C a, E i = .live b C ∧ w.heap[b]? = some (.map a clock) ∧ RelE E es a.toList := by
  obtain ⟨b', C, ob, he, hh, hok, _⟩ := h.fact i _ hg ho
  obtain ⟨a, rfl, hr⟩ := hok
  obtain rfl := h.at_live he hb
  exact ⟨C, a, he, hh, hr⟩
theorem Sat.umap (h : Sat G B E s w) {i b : Nat} {es : List Ent} {K t : Nat} (hg : G i) (ho : s.h.get i = some (.umap es K t)) (hb : (E i).at b) :
    ∃ C a, E i = .live b C ∧ w.heap[b]? = some (.map a ((E.st t).f K)) ∧ AnyMap E es K t a := by
  obtain ⟨b', C, ob, he, hh, hok, _⟩ := h.fact i _ hg ho
  obtain ⟨a, rfl, hr⟩ := hok
  obtain rfl := h.at_live he hb
  exact ⟨C, a, he, hh, hr⟩
theorem mapU_some {β : Type} {o : AObj} {k : List Ent → Nat → Option β} {u : List Ent → Nat → Nat → Option β} {r : β} (h : mapU o k u = some r) : (∃ es clock, o = .map es clock ∧ k es clock = some r) ∨ ∃ es clock t, o = .umap es clock t ∧ u es clock t = some r := by
  cases o <;> first | (cases h; done) | exact .inl ⟨_, _, rfl, h⟩ | exact .inr ⟨_, _, _, rfl, h⟩
theorem iterU_some {β : Type} {o : AObj} {k : Option Nat → Nat → List Nat → Nat → Option β} {u : Nat → Nat → List Nat → Nat → Nat → Option β} {r : β} (h : iterU o k u = some r) : (∃ m a b c, o = .iter m a b c ∧ k m a b c = some r) ∨ ∃ m a b c t, o = .uiter m a b c t ∧ u m a b c t = some r := by
  cases o <;> first | (cases h; done) | exact .inl ⟨_, _, _, _, rfl, h⟩ | exact .inr ⟨_, _, _, _, _, rfl, h⟩
theorem perm_at {α : Type} : ∀ {l : List α} {j : Nat} {y : α}, l[j]? = some y → l.Perm (y :: l.eraseIdx j) ∧ ∀ g : α → α, (l.modify j g).Perm (g y :: l.eraseIdx j)
  | [], j, y, h => by simp at h
  | x :: l, 0, y, h => by
    simp at h; subst h
    exact ⟨.refl _, fun g => .refl _⟩
  | x :: l, j + 1, y, h => by
    obtain ⟨a, b⟩ := perm_at (l := l) (j := j) (y := y) (by simpa using h)
    exact ⟨(a.cons x).trans (.swap y x _), fun g => ((b g).cons x).trans (.swap (g y) x _)⟩
theorem perm_two {α : Type} {l m : List α} {j i : Nat} {y : α} (h : l.Perm m) (hj : l[j]? = some y) (hi : m[i]? = some y) : (l.eraseIdx j).Perm (m.eraseIdx i) ∧ ∀ g : α → α, (l.modify j g).Perm (m.modify i g) := by
  obtain ⟨a1, a2⟩ := perm_at hj
  obtain ⟨b1, b2⟩ := perm_at hi
  have e : (l.eraseIdx j).Perm (m.eraseIdx i) := ((a1.symm.trans h).trans b1).cons_inv
  exact ⟨e, fun g => (a2 g).trans ((e.cons (g y)).trans (b2 g).symm)⟩
theorem setE_born (k v : AV) : ∀ (j : Nat) (es : List Ent), (setE j k v es).map Ent.born = es.map Ent.born
  | j, [] => by cases j <;> rfl
  | 0, e :: es => rfl
  | j + 1, e :: es => by simp [setE, setE_born k v j es]
theorem delE_sub : ∀ (j : Nat) (es : List Ent), (delE j es).Sublist es
  | j, [] => by cases j <;> exact .slnil
  | 0, e :: es => List.sublist_cons_self ..
  | j + 1, e :: es => (delE_sub j es).cons_cons e
theorem setES_ok {S : Stamps} {k x : AV} {k' x' : Value} (hk : Rel E k k') (hx : Rel E x x') : ∀ (j : Nat) {es : List Ent} {l : List MapEntry}, RelS E S es l → RelS E S (setE j k x es) (l.modify j fun e => { e with key := k', val := x' })
  | _, _, _, .nil => by cases ‹Nat› <;> exact .nil
  | 0, _, _, .cons h1 h2 h3 t => .cons hk hx h3 t
  | j + 1, _, _, .cons h1 h2 h3 t => .cons h1 h2 h3 (setES_ok hk hx j t)
theorem delES_ok {S : Stamps} : ∀ (j : Nat) {es : List Ent} {l : List MapEntry}, RelS E S es l → RelS E S (delE j es) (l.eraseIdx j)
  | _, _, _, .nil => by cases ‹Nat› <;> exact .nil
  | 0, _, _, .cons h1 h2 h3 t => t
  | j + 1, _, _, .cons h1 h2 h3 t => .cons h1 h2 h3 (delES_ok j t)
theorem RelS.append {S : Stamps} : ∀ {a c : List Ent} {b d : List MapEntry}, RelS E S a b → RelS E S c d → RelS E S (a ++ c) (b ++ d)
  | _, _, _, _, .nil, k => k
  | _, _, _, _, .cons h1 h2 h3 t, k => .cons h1 h2 h3 (t.append k)
theorem AnyMap.set {es : List Ent} {K t : Nat} {a : Array MapEntry} {l : List MapEntry} (h : AnyMap E es K t a) (hp : l.Perm a.toList) (hl : RelS E (E.st t) es l) {j i : Nat} {y : MapEntry} (hj : l[j]? = some y) (hi : a.toList[i]? = some y) {k x : AV} {k' x' : Value} (hk : Rel E k k') (hx : Rel E x x') :
    AnyMap E (setE j k x es) K t (a.modify i fun e => { e with key := k', val := x' }) := by
  refine ⟨h.tag, h.le, fun e he => ?_, by rw [setE_born]; exact h.once, _, ?_, setES_ok hk hx j hl⟩
  · have : e.born ∈ (setE j k x es).map Ent.born := List.mem_map_of_mem he
    rw [setE_born] at this
    obtain ⟨e0, h0, h1⟩ := List.mem_map.1 this
    rw [← h1]; exact h.lt e0 h0
  · rw [Array.toList_modify]; exact (perm_two hp hj hi).2 _
theorem AnyMap.del {es : List Ent} {K t : Nat} {a : Array MapEntry} {l : List MapEntry} (h : AnyMap E es K t a) (hp : l.Perm a.toList) (hl : RelS E (E.st t) es l) {j i : Nat} {y : MapEntry} (hj : l[j]? = some y) (hi : a.toList[i]? = some y) :
    AnyMap E (delE j es) K t (a.eraseIdxIfInBounds i) := by
  refine ⟨h.tag, h.le, fun e he => h.lt e ((delE_sub j es).subset he), h.once.sublist ((delE_sub j es).map _), _, ?_, delES_ok j hl⟩
  rw [Array.toList_eraseIdxIfInBounds]; exact (perm_two hp hj hi).1
theorem AnyMap.push {es : List Ent} {K t : Nat} {a : Array MapEntry} (h : AnyMap E es K t a) {k x : AV} {k' x' : Value} (hk : Rel E k k') (hx : Rel E x x') :
    AnyMap E (es ++ [⟨k, x, K⟩]) (K + 1) t (a.push { key := k', val := x', born := (E.st t).f K }) := by
  obtain ⟨l, hp, hl⟩ := h.rel
  refine ⟨h.tag, Nat.le_succ_of_le h.le, fun e he => ?_, ?_, l ++ [{ key := k', val := x', born := (E.st t).f K }], ?_, hl.append (.cons hk hx rfl .nil)⟩
  · rcases List.mem_append.1 he with he | he
    · exact Nat.lt_succ_of_lt (h.lt e he)
    · rw [List.mem_singleton] at he; subst he; exact Nat.lt_succ_self K
  · rw [List.map_append, List.nodup_append]
    refine ⟨h.once, by simp, fun a ha b hb => ?_⟩
    simp at hb
    obtain ⟨e0, h0, h1⟩ := List.mem_map.1 ha
    have := h.lt e0 h0
    omega
  · rw [Array.toList_push]; exact hp.append_right _
theorem mapC_some {β : Type} {o : AObj} {k : List Ent → Nat → Option β} {r : β} (h : mapC o k = some r) : ∃ es clock, o = .map es clock ∧ k es clock = some r := by
  cases o <;> first | (cases h; done) | exact ⟨_, _, rfl, h⟩
theorem iterC_some {β : Type} {o : AObj} {k : Option Nat → Nat → List Nat → Nat → Option β} {r : β} (h : iterC o k = some r) : ∃ m a b c, o = .iter m a b c ∧ k m a b c = some r := by
  cases o <;> first | (cases h; done) | exact ⟨_, _, _, _, rfl, h⟩
theorem siterC_some {β : Type} {o : AObj} {k : List UInt8 → Nat → Option β} {r : β} (h : siterC o k = some r) : ∃ l pos, o = .siter l pos ∧ k l pos = some r := by
  cases o <;> first | (cases h; done) | exact ⟨_, _, rfl, h⟩
theorem ptrC_some {β : Type} {x : AV} {k : Nat → Nat → Option β} {r : β} (h : x.ptrC k = some r) : ∃ i off, x = .ptr i off ∧ k i off = some r := by
  cases x <;> first | (cases h; done) | exact ⟨_, _, rfl, h⟩

theorem lookupA_ok {t : TypeId} {m k : AV} {ok : Bool} (h : lookupA P t m k ok s = some (v, s')) :
    Step s s' ∧ ∀ {G B E w m' k'}, (∀ j, In s'.l j → G j) → Sat G B E s w → Rel E m m' → Rel E k k' → Ok1 P G B s' v E w (Instr.lookup t m' k' ok) := by
  unfold lookupA at h
  split at h
  case h_2 => cases h
  rename_i kt e hu
  split at h
  · obtain ⟨hk, h1⟩ := bc_some h
    clear h
    have hs' : s' = s := by
      unfold lookupFin at h1
      obtain ⟨z, _, h2⟩ := oc_some h1
      cases h2; rfl
    subst hs'
    refine ⟨Step.refl _, fun {G B E w m' k'} hG hs hm hkr => ?_⟩
    cases hm
    obtain ⟨_, v', hrun, hv⟩ := lookupFin_ok (P := P) (w := w) (E := E) (k' := k') (es' := []) h1 .none
    refine Ok1.pure hs (v' := v') ?_ hv
    have hck : (Instr.checkKey true 10000 kt k').run P w = .ok () w := by
      rcases Bool.or_eq_true _ _ ▸ hk with hk | hk
      · exact checkKey_plain hk hkr true 9999
      · exact checkKey_struct hk hkr true 9998
    have hfind : (Instr.findKey kt k' []).run P w = .ok none w := by
      simp only [Instr.findKey]
      cases hkt : P.underlying kt with
      | none =>
        rcases Bool.or_eq_true _ _ ▸ hk with hk | hk
        · unfold keyType at hk; rw [hkt] at hk; simp at hk
        · unfold plainKey at hk; rw [hkt] at hk; simp at hk
      | some d => simp [und_run hkt, Instr.findNow]
    simp only [Instr.lookup, Sem.run_bind, und_run hu, Result.andThen_ok, Sem.run_pure, List.isEmpty_toArray, List.isEmpty_nil, hck, hfind]
    simpa using hrun
  · rename_i i
    obtain ⟨hk, h1⟩ := bc_some h
    obtain ⟨o, ho, h2⟩ := oc_some h1
    rcases mapU_some h2 with ⟨es, clock, rfl, h3⟩ | ⟨es, K, t', rfl, h3⟩
    · skip
      obtain ⟨r, hr, h4⟩ := oc_some h3
      clear h h1 h2 h3
      have hs' : s' = s.see i := by
        unfold lookupFin at h4
        split at h4
        · cases h4; rfl
        · obtain ⟨z, _, h5⟩ := oc_some h4
          cases h5; rfl
      subst hs'
      refine ⟨Step.see _ _, fun {G B E w m' k'} hG hs hm hkr => ?_⟩
      cases hm
      rename_i b hb
      obtain ⟨C, a, he, hh, hes⟩ := hs.map (hG _ (in_see _ _)) ho hb
      obtain ⟨r', hfind, hrf⟩ := findKey_ok (P := P) (w := w) hs.orc hk hkr hr hes
      obtain ⟨_, v', hrun, hv⟩ := lookupFin_ok (P := P) (w := w) h4 hrf
      refine Ok1.pure (hs.seen i) (v' := v') ?_ hv
      have hget := run_getObj_of (P := P) hh (fun _ _ _ e => by cases e)
      have hck : ∀ emp, (Instr.checkKey emp 10000 kt k').run P w = .ok () w := fun emp => checkKey_plain hk hkr emp 9999
      simp only [Instr.lookup, Sem.run_bind, und_run hu, Result.andThen_ok, hget, Sem.run_pure, hck, hfind]
      cases r' <;> simpa using hrun
    · skip
      obtain ⟨r, hr, h4⟩ := oc_some h3
      clear h h1 h2 h3
      have hs' : s' = s.see i := by
        unfold lookupFin at h4
        split at h4
        · cases h4; rfl
        · obtain ⟨z, _, h5⟩ := oc_some h4
          cases h5; rfl
      subst hs'
      refine ⟨Step.see _ _, fun {G B E w m' k'} hG hs hm hkr => ?_⟩
      cases hm
      rename_i b hb
      obtain ⟨C, a, he, hh, hes⟩ := hs.umap (hG _ (in_see _ _)) ho hb
      obtain ⟨l, hp, hl⟩ := hes.rel
      obtain ⟨r', hfind, hru⟩ := findKeyU_ok (P := P) (w := w) hs.orc hk hkr hr hl hp
      obtain ⟨r2, h42, hrf⟩ : ∃ r2, lookupFin P e ok r2 (s.see i) = some (v, s.see i) ∧ RelF E k' a.toList r2 r' := by
        cases hru with
        | none => exact ⟨none, h4, .none⟩
        | @some j i x y q1 q2 q3 q4 q5 => exact ⟨some (i, x.val), h4, .some q4 q3 q5⟩
      obtain ⟨_, v', hrun, hv⟩ := lookupFin_ok (P := P) (w := w) h42 hrf
      refine Ok1.pure (hs.seen i) (v' := v') ?_ hv
      have hget := run_getObj_of (P := P) hh (fun _ _ _ e => by cases e)
      have hck : ∀ emp, (Instr.checkKey emp 10000 kt k').run P w = .ok () w := fun emp => checkKey_plain hk hkr emp 9999
      simp only [Instr.lookup, Sem.run_bind, und_run hu, Result.andThen_ok, hget, Sem.run_pure, hck, hfind]
      cases r' <;> simpa using hrun
  · cases h
theorem RelE.get : ∀ {es : List Ent} {es' : List MapEntry}, RelE E es es' → es.length = es'.length
  | _, _, .nil => rfl
  | _, _, .cons _ _ _ t => by simp [t.get]
theorem RelE.append : ∀ {a c : List Ent} {b d : List MapEntry}, RelE E a b → RelE E c d → RelE E (a ++ c) (b ++ d)
  | _, _, _, _, .nil, k => k
  | _, _, _, _, .cons h1 h2 h3 t, k => .cons h1 h2 h3 (t.append k)
theorem setE_ok {k x : AV} {k' x' : Value} (hk : Rel E k k') (hx : Rel E x x') : ∀ (j : Nat) {es : List Ent} {es' : List MapEntry}, RelE E es es' → RelE E (setE j k x es) (es'.modify j fun e => { e with key := k', val := x' })
  | _, _, _, .nil => by cases ‹Nat› <;> exact .nil
  | 0, _, _, .cons h1 h2 h3 t => .cons hk hx h3 t
  | j + 1, _, _, .cons h1 h2 h3 t => .cons h1 h2 h3 (setE_ok hk hx j t)
theorem delE_ok : ∀ (j : Nat) {es : List Ent} {es' : List MapEntry}, RelE E es es' → RelE E (delE j es) (es'.eraseIdx j)
  | _, _, _, .nil => by cases ‹Nat› <;> exact .nil
  | 0, _, _, .cons h1 h2 h3 t => t
  | j + 1, _, _, .cons h1 h2 h3 t => .cons h1 h2 h3 (delE_ok j t)
theorem mapUpdateA_ok {t : TypeId} {m k x : AV} (h : mapUpdateA P t m k x s = some (v, s')) :
    Step s s' ∧ v = undefA ∧ ∀ {G B E w m' k' x'}, (∀ j, In s'.l j → G j) → Sat G B E s w → Rel E m m' → Rel E k k' → Rel E x x' → ∃ w', (Instr.mapUpdate t m' k' x').run P w = .ok () w' ∧ Sat G B E s' w' ∧ Ext B s'.w E E w w' := by
  unfold mapUpdateA at h
  split at h
  case h_2 => cases h
  rename_i kt e hu
  split at h
  case h_2 => cases h
  rename_i i
  obtain ⟨hk, h1⟩ := bc_some h
  obtain ⟨o, ho, h2⟩ := oc_some h1
  rcases mapU_some h2 with ⟨es, clock, rfl, h3⟩ | ⟨es, K, t', rfl, h3⟩
  · skip
    obtain ⟨r, hr, h4⟩ := oc_some h3
    clear h h1 h2 h3
    have key : ∀ {G B E w k' m'}, (G i) → Sat G B E s w → Rel E (.map i) m' → Rel E k k' → ∃ b C a r', m' = .map (some b) ∧ E i = .live b C ∧ w.heap[b]? = some (.map a clock) ∧ RelE E es a.toList ∧ (Instr.findKey kt k' a.toList).run P w = .ok r' w ∧ RelF E k' a.toList r r' ∧
        (getObj b).run P w = .ok (.map a clock) w ∧ (∀ emp, (Instr.checkKey emp 10000 kt k').run P w = .ok () w) := by
      intro G B E w k' m' hg hs hm hkr
      cases hm
      rename_i b hb
      obtain ⟨C, a, he, hh, hes⟩ := hs.map hg ho hb
      obtain ⟨r', hfind, hrf⟩ := findKey_ok (P := P) (w := w) hs.orc hk hkr hr hes
      exact ⟨b, C, a, r', rfl, he, hh, hes, hfind, hrf, run_getObj_of hh (fun _ _ _ e => by cases e), fun emp => checkKey_plain hk hkr emp 9999⟩
    split at h4
    · rename_i j vv
      cases h4
      refine ⟨Step.set _ _ _, rfl, fun {G B E w m' k' x'} hG hs hm hkr hx => ?_⟩
      have hgi := hG _ (in_set _ _ _)
      obtain ⟨b, C, a, r', rfl, he, hh, hes, hfind, hrf, hget, hck⟩ := key hgi hs hm hkr
      cases hrf with
      | some hv hej hsame =>
        rename_i v' e'
        have haj : a[j]? = some e' := by rw [← Array.getElem?_toList]; exact hej
        have hset : OkObj E i (.map (setE j k x es) clock) (.map (a.modify j fun e => { e with key := k', val := x' }) clock) := ⟨_, rfl, by
          have := setE_ok hkr hx j hes
          rwa [Array.toList_modify]⟩
        obtain ⟨k1, k2⟩ := hs.write hgi ho rfl he hset
        refine ⟨_, ?_, k1, k2⟩
        have hst := run_setObj_of (P := P) (.map (a.modify j fun e => { e with key := k', val := x' }) clock) hh (fun _ _ _ e => by cases e)
        simp only [Instr.mapUpdate, Sem.run_bind, und_run hu, Result.andThen_ok, hget, hck, hfind, haj, Option.map_some, Option.getD_some, Instr.keyThatStays, hsame, if_true, Sem.run_pure]
        exact hst
    · cases h4
      refine ⟨Step.set _ _ _, rfl, fun {G B E w m' k' x'} hG hs hm hkr hx => ?_⟩
      have hgi := hG _ (in_set _ _ _)
      obtain ⟨b, C, a, r', rfl, he, hh, hes, hfind, hrf, hget, hck⟩ := key hgi hs hm hkr
      cases hrf
      have hset : OkObj E i (.map (es ++ [⟨k, x, clock⟩]) (clock + 1)) (.map (a.push { key := k', val := x', born := clock }) (clock + 1)) := ⟨_, rfl, by
        rw [Array.toList_push]
        exact hes.append (.cons hkr hx rfl .nil)⟩
      obtain ⟨k1, k2⟩ := hs.write hgi ho rfl he hset
      refine ⟨_, ?_, k1, k2⟩
      have hst := run_setObj_of (P := P) (.map (a.push { key := k', val := x', born := clock }) (clock + 1)) hh (fun _ _ _ e => by cases e)
      simp only [Instr.mapUpdate, Sem.run_bind, und_run hu, Result.andThen_ok, hget, hck, hfind]
      exact hst
  · skip
    obtain ⟨r, hr, h4⟩ := oc_some h3
    clear h h1 h2 h3
    have key : ∀ {G B E w k' m'}, (G i) → Sat G B E s w → Rel E (.map i) m' → Rel E k k' → ∃ b C a r' l, m' = .map (some b) ∧ E i = .live b C ∧ w.heap[b]? = some (.map a ((E.st t').f K)) ∧ AnyMap E es K t' a ∧ l.Perm a.toList ∧ RelS E (E.st t') es l ∧ (Instr.findKey kt k' a.toList).run P w = .ok r' w ∧ RelU E k' es l a.toList r r' ∧
        (getObj b).run P w = .ok (.map a ((E.st t').f K)) w ∧ (∀ emp, (Instr.checkKey emp 10000 kt k').run P w = .ok () w) := by
      intro G B E w k' m' hg hs hm hkr
      cases hm
      rename_i b hb
      obtain ⟨C, a, he, hh, hes⟩ := hs.umap hg ho hb
      obtain ⟨l, hp, hl⟩ := hes.rel
      obtain ⟨r', hfind, hru⟩ := findKeyU_ok (P := P) (w := w) hs.orc hk hkr hr hl hp
      exact ⟨b, C, a, r', l, rfl, he, hh, hes, hp, hl, hfind, hru, run_getObj_of hh (fun _ _ _ e => by cases e), fun emp => checkKey_plain hk hkr emp 9999⟩
    split at h4
    · rename_i j vv
      cases h4
      refine ⟨Step.set _ _ _, rfl, fun {G B E w m' k' x'} hG hs hm hkr hx => ?_⟩
      have hgi := hG _ (in_set _ _ _)
      obtain ⟨b, C, a, r', l, rfl, he, hh, hes, hp, hl, hfind, hru, hget, hck⟩ := key hgi hs hm hkr
      cases hru with
      | some hj hjl hjm hv hsame =>
        rename_i i' x0 e'
        have haj : a[i']? = some e' := by rw [← Array.getElem?_toList]; exact hjm
        have hset : OkObj E i (.umap (setE j k x es) K t') (.map (a.modify i' fun e => { e with key := k', val := x' }) ((E.st t').f K)) := ⟨_, rfl, hes.set hp hl hjl hjm hkr hx⟩
        obtain ⟨k1, k2⟩ := hs.write hgi ho rfl he hset
        refine ⟨_, ?_, k1, k2⟩
        have hst := run_setObj_of (P := P) (.map (a.modify i' fun e => { e with key := k', val := x' }) ((E.st t').f K)) hh (fun _ _ _ e => by cases e)
        simp only [Instr.mapUpdate, Sem.run_bind, und_run hu, Result.andThen_ok, hget, hck, hfind, haj, Option.map_some, Option.getD_some, Instr.keyThatStays, hsame, if_true, Sem.run_pure]
        exact hst
    · cases h4
      refine ⟨Step.set _ _ _, rfl, fun {G B E w m' k' x'} hG hs hm hkr hx => ?_⟩
      have hgi := hG _ (in_set _ _ _)
      obtain ⟨b, C, a, r', l, rfl, he, hh, hes, hp, hl, hfind, hru, hget, hck⟩ := key hgi hs hm hkr
      cases hru
      have hset : OkObj E i (.umap (es ++ [⟨k, x, K⟩]) (K + 1) t') (.map (a.push { key := k', val := x', born := (E.st t').f K }) ((E.st t').f K + 1)) := ⟨_, by rw [Stamps.succ _ hes.le], hes.push hkr hx⟩
      obtain ⟨k1, k2⟩ := hs.write hgi ho rfl he hset
      refine ⟨_, ?_, k1, k2⟩
      have hst := run_setObj_of (P := P) (.map (a.push { key := k', val := x', born := (E.st t').f K }) ((E.st t').f K + 1)) hh (fun _ _ _ e => by cases e)
      simp only [Instr.mapUpdate, Sem.run_bind, und_run hu, Result.andThen_ok, hget, hck, hfind]
      exact hst
theorem deleteA_ok {t : TypeId} {m k : AV} (h : deleteA P t m k s = some (v, s')) (ts : Array TypeId) (ty : TypeId) (hts : ts[0]? = some t) :
    Step s s' ∧ ∀ {G B E w m' k'}, (∀ j, In s'.l j → G j) → Sat G B E s w → Rel E m m' → Rel E k k' → Ok1 P G B s' v E w (Builtin.delete_ ts ty #[m', k']) := by
  unfold deleteA at h
  split at h
  case h_2 => cases h
  rename_i kt e hu
  split at h
  · obtain ⟨hk, h1⟩ := bc_some h
    cases h1
    refine ⟨Step.refl _, fun {G B E w m' k'} hG hs hm hkr => ?_⟩
    cases hm
    refine Ok1.pure hs (v' := .tuple #[]) ?_ (.tuple .nil)
    have hck := checkKey_plain (P := P) (w := w) hk hkr true 9999
    simp only [Builtin.delete_, hts, Sem.run_bind, und_run hu, Result.andThen_ok, List.getElem?_toArray, List.getElem?_cons_zero, List.getElem?_cons_succ, hck, Sem.run_pure]
  · rename_i i
    obtain ⟨hk, h1⟩ := bc_some h
    obtain ⟨o, ho, h2⟩ := oc_some h1
    rcases mapU_some h2 with ⟨es, clock, rfl, h3⟩ | ⟨es, K, t', rfl, h3⟩
    · skip
      obtain ⟨r, hr, h4⟩ := oc_some h3
      clear h h1 h2 h3
      have key : ∀ {G B E w k' m'}, (G i) → Sat G B E s w → Rel E (.map i) m' → Rel E k k' → ∃ b C a r', m' = .map (some b) ∧ E i = .live b C ∧ w.heap[b]? = some (.map a clock) ∧ RelE E es a.toList ∧ (Instr.findKey kt k' a.toList).run P w = .ok r' w ∧ RelF E k' a.toList r r' ∧
          (getObj b).run P w = .ok (.map a clock) w ∧ (∀ emp, (Instr.checkKey emp 10000 kt k').run P w = .ok () w) := by
        intro G B E w k' m' hg hs hm hkr
        cases hm
        rename_i b hb
        obtain ⟨C, a, he, hh, hes⟩ := hs.map hg ho hb
        obtain ⟨r', hfind, hrf⟩ := findKey_ok (P := P) (w := w) hs.orc hk hkr hr hes
        exact ⟨b, C, a, r', rfl, he, hh, hes, hfind, hrf, run_getObj_of hh (fun _ _ _ e => by cases e), fun emp => checkKey_plain hk hkr emp 9999⟩
      split at h4
      · rename_i j vv
        cases h4
        refine ⟨Step.set _ _ _, fun {G B E w m' k'} hG hs hm hkr => ?_⟩
        have hgi := hG _ (in_set _ _ _)
        obtain ⟨b, C, a, r', rfl, he, hh, hes, hfind, hrf, hget, hck⟩ := key hgi hs hm hkr
        cases hrf with
        | some hv hej hsame =>
          have hset : OkObj E i (.map (delE j es) clock) (.map (a.eraseIdxIfInBounds j) clock) := ⟨_, rfl, by
            have := delE_ok j hes
            rwa [Array.toList_eraseIdxIfInBounds]⟩
          obtain ⟨k1, k2⟩ := hs.write hgi ho rfl he hset
          refine ⟨E, .tuple #[], _, ?_, .tuple .nil, k1, k2⟩
          have hst := run_setObj_of (P := P) (.map (a.eraseIdxIfInBounds j) clock) hh (fun _ _ _ e => by cases e)
          simp only [Builtin.delete_, hts, Sem.run_bind, und_run hu, Result.andThen_ok, List.getElem?_toArray, List.getElem?_cons_zero, List.getElem?_cons_succ, hget, hck, hfind, hst, Sem.run_pure]
      · cases h4
        refine ⟨Step.set _ _ _, fun {G B E w m' k'} hG hs hm hkr => ?_⟩
        have hgi := hG _ (in_set _ _ _)
        obtain ⟨b, C, a, r', rfl, he, hh, hes, hfind, hrf, hget, hck⟩ := key hgi hs hm hkr
        cases hrf
        obtain ⟨k1, k2⟩ := hs.write (o' := .map es clock) (ob' := .map a clock) hgi ho rfl he ⟨a, rfl, hes⟩
        refine ⟨E, .tuple #[], _, ?_, .tuple .nil, k1, k2⟩
        have hst := run_setObj_of (P := P) (.map a clock) hh (fun _ _ _ e => by cases e)
        simp only [Builtin.delete_, hts, Sem.run_bind, und_run hu, Result.andThen_ok, List.getElem?_toArray, List.getElem?_cons_zero, List.getElem?_cons_succ, hget, hck, hfind, hst, Sem.run_pure]
    · skip
      obtain ⟨r, hr, h4⟩ := oc_some h3
      clear h h1 h2 h3
      have key : ∀ {G B E w k' m'}, (G i) → Sat G B E s w → Rel E (.map i) m' → Rel E k k' → ∃ b C a r' l, m' = .map (some b) ∧ E i = .live b C ∧ w.heap[b]? = some (.map a ((E.st t').f K)) ∧ AnyMap E es K t' a ∧ l.Perm a.toList ∧ RelS E (E.st t') es l ∧ (Instr.findKey kt k' a.toList).run P w = .ok r' w ∧ RelU E k' es l a.toList r r' ∧
          (getObj b).run P w = .ok (.map a ((E.st t').f K)) w ∧ (∀ emp, (Instr.checkKey emp 10000 kt k').run P w = .ok () w) := by
        intro G B E w k' m' hg hs hm hkr
        cases hm
        rename_i b hb
        obtain ⟨C, a, he, hh, hes⟩ := hs.umap hg ho hb
        obtain ⟨l, hp, hl⟩ := hes.rel
        obtain ⟨r', hfind, hru⟩ := findKeyU_ok (P := P) (w := w) hs.orc hk hkr hr hl hp
        exact ⟨b, C, a, r', l, rfl, he, hh, hes, hp, hl, hfind, hru, run_getObj_of hh (fun _ _ _ e => by cases e), fun emp => checkKey_plain hk hkr emp 9999⟩
      split at h4
      · rename_i j vv
        cases h4
        refine ⟨Step.set _ _ _, fun {G B E w m' k'} hG hs hm hkr => ?_⟩
        have hgi := hG _ (in_set _ _ _)
        obtain ⟨b, C, a, r', l, rfl, he, hh, hes, hp, hl, hfind, hru, hget, hck⟩ := key hgi hs hm hkr
        cases hru with
        | some hj hjl hjm hv hsame =>
          rename_i i' x0 e'
          have hset : OkObj E i (.umap (delE j es) K t') (.map (a.eraseIdxIfInBounds i') ((E.st t').f K)) := ⟨_, rfl, hes.del hp hl hjl hjm⟩
          obtain ⟨k1, k2⟩ := hs.write hgi ho rfl he hset
          refine ⟨E, .tuple #[], _, ?_, .tuple .nil, k1, k2⟩
          have hst := run_setObj_of (P := P) (.map (a.eraseIdxIfInBounds i') ((E.st t').f K)) hh (fun _ _ _ e => by cases e)
          simp only [Builtin.delete_, hts, Sem.run_bind, und_run hu, Result.andThen_ok, List.getElem?_toArray, List.getElem?_cons_zero, List.getElem?_cons_succ, hget, hck, hfind, hst, Sem.run_pure]
      · cases h4
        refine ⟨Step.set _ _ _, fun {G B E w m' k'} hG hs hm hkr => ?_⟩
        have hgi := hG _ (in_set _ _ _)
        obtain ⟨b, C, a, r', l, rfl, he, hh, hes, hp, hl, hfind, hru, hget, hck⟩ := key hgi hs hm hkr
        cases hru
        obtain ⟨k1, k2⟩ := hs.write (o' := .umap es K t') (ob' := .map a ((E.st t').f K)) hgi ho rfl he ⟨a, rfl, hes⟩
        refine ⟨E, .tuple #[], _, ?_, .tuple .nil, k1, k2⟩
        have hst := run_setObj_of (P := P) (.map a ((E.st t').f K)) hh (fun _ _ _ e => by cases e)
        simp only [Builtin.delete_, hts, Sem.run_bind, und_run hu, Result.andThen_ok, List.getElem?_toArray, List.getElem?_cons_zero, List.getElem?_cons_succ, hget, hck, hfind, hst, Sem.run_pure]
  · cases h
end
end Ev
end Go.Proofs.YtbjllaknnpbkkaaGreatDoor
