/-
  The evaluator: maps, on.
-/
import Derived.Test.YtpklliedmplpdaaGreatDoorSy13
namespace Go.Proofs.YtpklliedmplpdaaGreatDoor
namespace Ev
open Go.RowKit

section
variable {P : Program} {G : Nat → Prop} {B : Nat} {E : Env} {s s' : St} {w : World} {v : AV}

theorem Sat.map (h : Sat G B E s w) {i b : Nat} {es : List Ent} {clock : Nat} (hg : G i) (ho : s.h.get i = some (.map es clock)) (hb : (E i).at b) :
    ∃ C a, E i = .live b C ∧ w.heap[b]? = some (.map a clock) ∧ RelE E es a.toList := by
  obtain ⟨b', C, ob, he, hh, hok, _⟩ := h.fact i _ hg ho
  obtain ⟨a, rfl, hr⟩ := hok
  obtain rfl := h.at_live he hb
  exact ⟨C, a, he, hh, hr⟩
theorem mapC_some {β : Type} {o : AObj} {k : List Ent → Nat → Option β} {r : β} (h : mapC o k = some r) : ∃ es clock, o = .map es clock ∧ k es clock = some r := by
  cases o <;> first | (cases h; done) | exact ⟨_, _, rfl, h⟩
theorem iterC_some {β : Type} {o : AObj} {k : Option Nat → Nat → List Nat → Nat → Option β} {r : β} (h : iterC o k = some r) : ∃ m a b c, o = .iter m a b c ∧ k m a b c = some r := by
  cases o <;> first | (cases h; done) | exact ⟨_, _, _, _, rfl, h⟩
theorem siterC_some {β : Type} {o : AObj} {k : List UInt8 → Nat → Option β} {r : β} (h : siterC o k = some r) : ∃ l pos, o = .siter l pos ∧ k l pos = some r := by
  cases o <;> first | (cases h; done) | exact ⟨_, _, rfl, h⟩
theorem ptrC_some {β : Type} {x : AV} {k : Nat → Nat → Option β} {r : β} (h : x.ptrC k = some r) : ∃ i off, x = .ptr i off ∧ k i off = some r := by
  cases x <;> first | (cases h; done) | exact ⟨_, _, rfl, h⟩

theorem lookupA_ok {t : TypeId} {m k : AV} {ok : Bool} (h : lookupA P t m k ok s = some (v, s')) :
    Step s s' ∧ ∀ {G B E w m' k'}, (∀ j, In s'.l j → G j) → Sat G B E s w → Rel E m m' → Rel E k k' → Ok1 P G B s' v E w (Instr.lookup t m' k' ok) := by
  unfold lookupA at h
  split at h
  case h_2 => cases h
  rename_i kt e hu
  split at h
  · obtain ⟨hk, h1⟩ := bc_some h
    clear h
    have hs' : s' = s := by
      unfold lookupFin at h1
      obtain ⟨z, _, h2⟩ := oc_some h1
      cases h2; rfl
    subst hs'
    refine ⟨Step.refl _, fun {G B E w m' k'} hG hs hm hkr => ?_⟩
    cases hm
    obtain ⟨_, v', hrun, hv⟩ := lookupFin_ok (P := P) (w := w) (E := E) (k' := k') (es' := []) h1 .none
    refine Ok1.pure hs (v' := v') ?_ hv
    have hck : (Instr.checkKey true 10000 kt k').run P w = .ok () w := by
      rcases Bool.or_eq_true _ _ ▸ hk with hk | hk
      · exact checkKey_plain hk hkr true 9999
      · exact checkKey_struct hk hkr true 9998
    have hfind : (Instr.findKey kt k' []).run P w = .ok none w := by
      simp only [Instr.findKey]
      cases hkt : P.underlying kt with
      | none =>
        rcases Bool.or_eq_true _ _ ▸ hk with hk | hk
        · unfold keyType at hk; rw [hkt] at hk; simp at hk
        · unfold plainKey at hk; rw [hkt] at hk; simp at hk
      | some d => simp [und_run hkt, Instr.findNow]
    simp only [Instr.lookup, Sem.run_bind, und_run hu, Result.andThen_ok, Sem.run_pure, List.isEmpty_toArray, List.isEmpty_nil, hck, hfind]
    simpa using hrun
  · rename_i i
    obtain ⟨hk, h1⟩ := bc_some h
    obtain ⟨o, ho, h2⟩ := oc_some h1
    obtain ⟨es, clock, rfl, h3⟩ := mapC_some h2
    obtain ⟨r, hr, h4⟩ := oc_some h3
    clear h h1 h2 h3
    have hs' : s' = s.see i := by
      unfold lookupFin at h4
      split at h4
      · cases h4; rfl
      · obtain ⟨z, _, h5⟩ := oc_some h4
        cases h5; rfl
    subst hs'
    refine ⟨Step.see _ _, fun {G B E w m' k'} hG hs hm hkr => ?_⟩
    cases hm
    rename_i b hb
    obtain ⟨C, a, he, hh, hes⟩ := hs.map (hG _ (in_see _ _)) ho hb
    obtain ⟨r', hfind, hrf⟩ := findKey_ok (P := P) (w := w) hs.orc hk hkr hr hes
    obtain ⟨_, v', hrun, hv⟩ := lookupFin_ok (P := P) (w := w) h4 hrf
    refine Ok1.pure (hs.seen i) (v' := v') ?_ hv
    have hget := run_getObj_of (P := P) hh (fun _ _ _ e => by cases e)
    have hck : ∀ emp, (Instr.checkKey emp 10000 kt k').run P w = .ok () w := fun emp => checkKey_plain hk hkr emp 9999
    simp only [Instr.lookup, Sem.run_bind, und_run hu, Result.andThen_ok, hget, Sem.run_pure, hck, hfind]
    cases r' <;> simpa using hrun
  · cases h
theorem RelE.get : ∀ {es : List Ent} {es' : List MapEntry}, RelE E es es' → es.length = es'.length
  | _, _, .nil => rfl
  | _, _, .cons _ _ _ t => by simp [t.get]
theorem RelE.append : ∀ {a c : List Ent} {b d : List MapEntry}, RelE E a b → RelE E c d → RelE E (a ++ c) (b ++ d)
  | _, _, _, _, .nil, k => k
  | _, _, _, _, .cons h1 h2 h3 t, k => .cons h1 h2 h3 (t.append k)
theorem setE_ok {k x : AV} {k' x' : Value} (hk : Rel E k k') (hx : Rel E x x') : ∀ (j : Nat) {es : List Ent} {es' : List MapEntry}, RelE E es es' → RelE E (setE j k x es) (es'.modify j fun e => { e with key := k', val := x' })
  | _, _, _, .nil => by cases ‹Nat› <;> exact .nil
  | 0, _, _, .cons h1 h2 h3 t => .cons hk hx h3 t
  | j + 1, _, _, .cons h1 h2 h3 t => .cons h1 h2 h3 (setE_ok hk hx j t)
theorem delE_ok : ∀ (j : Nat) {es : List Ent} {es' : List MapEntry}, RelE E es es' → RelE E (delE j es) (es'.eraseIdx j)
  | _, _, _, .nil => by cases ‹Nat› <;> exact .nil
  | 0, _, _, .cons h1 h2 h3 t => t
  | j + 1, _, _, .cons h1 h2 h3 t => .cons h1 h2 h3 (delE_ok j t)
theorem mapUpdateA_ok {t : TypeId} {m k x : AV} (h : mapUpdateA P t m k x s = some (v, s')) :
    Step s s' ∧ v = undefA ∧ ∀ {G B E w m' k' x'}, (∀ j, In s'.l j → G j) → Sat G B E s w → Rel E m m' → Rel E k k' → Rel E x x' → ∃ w', (Instr.mapUpdate t m' k' x').run P w = .ok () w' ∧ Sat G B E s' w' ∧ Ext B s'.w E E w w' := by
  unfold mapUpdateA at h
  split at h
  case h_2 => cases h
  rename_i kt e hu
  split at h
  case h_2 => cases h
  rename_i i
  obtain ⟨hk, h1⟩ := bc_some h
  obtain ⟨o, ho, h2⟩ := oc_some h1
  obtain ⟨es, clock, rfl, h3⟩ := mapC_some h2
  obtain ⟨r, hr, h4⟩ := oc_some h3
  clear h h1 h2 h3
  have key : ∀ {G B E w k' m'}, (G i) → Sat G B E s w → Rel E (.map i) m' → Rel E k k' → ∃ b C a r', m' = .map (some b) ∧ E i = .live b C ∧ w.heap[b]? = some (.map a clock) ∧ RelE E es a.toList ∧ (Instr.findKey kt k' a.toList).run P w = .ok r' w ∧ RelF E k' a.toList r r' ∧
      (getObj b).run P w = .ok (.map a clock) w ∧ (∀ emp, (Instr.checkKey emp 10000 kt k').run P w = .ok () w) := by
    intro G B E w k' m' hg hs hm hkr
    cases hm
    rename_i b hb
    obtain ⟨C, a, he, hh, hes⟩ := hs.map hg ho hb
    obtain ⟨r', hfind, hrf⟩ := findKey_ok (P := P) (w := w) hs.orc hk hkr hr hes
    exact ⟨b, C, a, r', rfl, he, hh, hes, hfind, hrf, run_getObj_of hh (fun _ _ _ e => by cases e), fun emp => checkKey_plain hk hkr emp 9999⟩
  split at h4
  · rename_i j vv
    cases h4
    refine ⟨Step.set _ _ _, rfl, fun {G B E w m' k' x'} hG hs hm hkr hx => ?_⟩
    have hgi := hG _ (in_set _ _ _)
    obtain ⟨b, C, a, r', rfl, he, hh, hes, hfind, hrf, hget, hck⟩ := key hgi hs hm hkr
    cases hrf with
    | some hv hej hsame =>
      rename_i v' e'
      have haj : a[j]? = some e' := by rw [← Array.getElem?_toList]; exact hej
      have hset : OkObj E i (.map (setE j k x es) clock) (.map (a.modify j fun e => { e with key := k', val := x' }) clock) := ⟨_, rfl, by
        have := setE_ok hkr hx j hes
        rwa [Array.toList_modify]⟩
      obtain ⟨k1, k2⟩ := hs.write hgi ho rfl he hset
      refine ⟨_, ?_, k1, k2⟩
      have hst := run_setObj_of (P := P) (.map (a.modify j fun e => { e with key := k', val := x' }) clock) hh (fun _ _ _ e => by cases e)
      simp only [Instr.mapUpdate, Sem.run_bind, und_run hu, Result.andThen_ok, hget, hck, hfind, haj, Option.map_some, Option.getD_some, Instr.keyThatStays, hsame, if_true, Sem.run_pure]
      exact hst
  · cases h4
    refine ⟨Step.set _ _ _, rfl, fun {G B E w m' k' x'} hG hs hm hkr hx => ?_⟩
    have hgi := hG _ (in_set _ _ _)
    obtain ⟨b, C, a, r', rfl, he, hh, hes, hfind, hrf, hget, hck⟩ := key hgi hs hm hkr
    cases hrf
    have hset : OkObj E i (.map (es ++ [⟨k, x, clock⟩]) (clock + 1)) (.map (a.push { key := k', val := x', born := clock }) (clock + 1)) := ⟨_, rfl, by
      rw [Array.toList_push]
      exact hes.append (.cons hkr hx rfl .nil)⟩
    obtain ⟨k1, k2⟩ := hs.write hgi ho rfl he hset
    refine ⟨_, ?_, k1, k2⟩
    have hst := run_setObj_of (P := P) (.map (a.push { key := k', val := x', born := clock }) (clock + 1)) hh (fun _ _ _ e => by cases e)
    simp only [Instr.mapUpdate, Sem.run_bind, und_run hu, Result.andThen_ok, hget, hck, hfind]
    exact hst
theorem deleteA_ok {t : TypeId} {m k : AV} (h : deleteA P t m k s = some (v, s')) (ts : Array TypeId) (ty : TypeId) (hts : ts[0]? = some t) :
    Step s s' ∧ ∀ {G B E w m' k'}, (∀ j, In s'.l j → G j) → Sat G B E s w → Rel E m m' → Rel E k k' → Ok1 P G B s' v E w (Builtin.delete_ ts ty #[m', k']) := by
  unfold deleteA at h
  split at h
  case h_2 => cases h
  rename_i kt e hu
  split at h
  · obtain ⟨hk, h1⟩ := bc_some h
    cases h1
    refine ⟨Step.refl _, fun {G B E w m' k'} hG hs hm hkr => ?_⟩
    cases hm
    refine Ok1.pure hs (v' := .tuple #[]) ?_ (.tuple .nil)
    have hck := checkKey_plain (P := P) (w := w) hk hkr true 9999
    simp only [Builtin.delete_, hts, Sem.run_bind, und_run hu, Result.andThen_ok, List.getElem?_toArray, List.getElem?_cons_zero, List.getElem?_cons_succ, hck, Sem.run_pure]
  · rename_i i
    obtain ⟨hk, h1⟩ := bc_some h
    obtain ⟨o, ho, h2⟩ := oc_some h1
    obtain ⟨es, clock, rfl, h3⟩ := mapC_some h2
    obtain ⟨r, hr, h4⟩ := oc_some h3
    clear h h1 h2 h3
    have key : ∀ {G B E w k' m'}, (G i) → Sat G B E s w → Rel E (.map i) m' → Rel E k k' → ∃ b C a r', m' = .map (some b) ∧ E i = .live b C ∧ w.heap[b]? = some (.map a clock) ∧ RelE E es a.toList ∧ (Instr.findKey kt k' a.toList).run P w = .ok r' w ∧ RelF E k' a.toList r r' ∧
        (getObj b).run P w = .ok (.map a clock) w ∧ (∀ emp, (Instr.checkKey emp 10000 kt k').run P w = .ok () w) := by
      intro G B E w k' m' hg hs hm hkr
      cases hm
      rename_i b hb
      obtain ⟨C, a, he, hh, hes⟩ := hs.map hg ho hb
      obtain ⟨r', hfind, hrf⟩ := findKey_ok (P := P) (w := w) hs.orc hk hkr hr hes
      exact ⟨b, C, a, r', rfl, he, hh, hes, hfind, hrf, run_getObj_of hh (fun _ _ _ e => by cases e), fun emp => checkKey_plain hk hkr emp 9999⟩
    split at h4
    · rename_i j vv
      cases h4
      refine ⟨Step.set _ _ _, fun {G B E w m' k'} hG hs hm hkr => ?_⟩
      have hgi := hG _ (in_set _ _ _)
      obtain ⟨b, C, a, r', rfl, he, hh, hes, hfind, hrf, hget, hck⟩ := key hgi hs hm hkr
      cases hrf with
      | some hv hej hsame =>
        have hset : OkObj E i (.map (delE j es) clock) (.map (a.eraseIdxIfInBounds j) clock) := ⟨_, rfl, by
          have := delE_ok j hes
          rwa [Array.toList_eraseIdxIfInBounds]⟩
        obtain ⟨k1, k2⟩ := hs.write hgi ho rfl he hset
        refine ⟨E, .tuple #[], _, ?_, .tuple .nil, k1, k2⟩
        have hst := run_setObj_of (P := P) (.map (a.eraseIdxIfInBounds j) clock) hh (fun _ _ _ e => by cases e)
        simp only [Builtin.delete_, hts, Sem.run_bind, und_run hu, Result.andThen_ok, List.getElem?_toArray, List.getElem?_cons_zero, List.getElem?_cons_succ, hget, hck, hfind, hst, Sem.run_pure]
    · cases h4
      refine ⟨Step.set _ _ _, fun {G B E w m' k'} hG hs hm hkr => ?_⟩
      have hgi := hG _ (in_set _ _ _)
      obtain ⟨b, C, a, r', rfl, he, hh, hes, hfind, hrf, hget, hck⟩ := key hgi hs hm hkr
      cases hrf
      obtain ⟨k1, k2⟩ := hs.write (o' := .map es clock) (ob' := .map a clock) hgi ho rfl he ⟨a, rfl, hes⟩
      refine ⟨E, .tuple #[], _, ?_, .tuple .nil, k1, k2⟩
      have hst := run_setObj_of (P := P) (.map a clock) hh (fun _ _ _ e => by cases e)
      simp only [Builtin.delete_, hts, Sem.run_bind, und_run hu, Result.andThen_ok, List.getElem?_toArray, List.getElem?_cons_zero, List.getElem?_cons_succ, hget, hck, hfind, hst, Sem.run_pure]
  · cases h
end
end Ev
end Go.Proofs.YtpklliedmplpdaaGreatDoor
