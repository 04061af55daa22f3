/-
  The evaluator: calls, rounds, the whole.
  The evaluator: what is laid at the start; a call without arguments that answers true.
-/
import Derived.Test.YtnjpdipombnigaaGreatDoorYj
import Derived.Lib.LaidTab
namespace Go.Proofs.YtnjpdipombnigaaGreatDoor
namespace Ev
open Go.RowKit

def readVar (tmps : Array Value) : ResultVar → Sem Value
  | .tmp t => pure (tmps.getD t undef)
  | .cell a t => do loadVar t (← asAddr (tmps.getD a undef))
theorem results_eq (fn : Func) (tmps : Array Value) : results fn tmps = (do let vs ← fn.results.mapM (readVar tmps); pure (if h : vs.size = 1 then vs[0] else .tuple vs)) := by
  unfold results
  have : (fun | .tmp t => pure (tmps.getD t undef) | .cell a t => do loadVar t (← asAddr (tmps.getD a undef)) : ResultVar → Sem Value) = readVar tmps := by
    funext x; cases x <;> rfl
  rw [← this]
  rfl

section
variable {P : Program} {r : Rec} {n : Nat}

theorem resultsA_ok {a : T AV} : ∀ (l : List ResultVar) {s s' : St} {vs : List AV}, resultsA P a l s = some (vs, s') →
    Step s s' ∧ ∀ {G : Nat → Prop} {B : Nat} {E : Env} {w : World} {nt : Nat} {tmps : Array Value}, (∀ j, In s'.l j → G j) → Sat G B E s w → TRel E nt a tmps → ∃ vs' : List Value, (l.mapM (readVar tmps)).run P w = .ok vs' w ∧ RelL E vs vs' ∧ Sat G B E s' w := by
  intro l
  induction l with
  | nil => intro s s' vs h; cases h; exact ⟨Step.refl _, fun hG hs ht => ⟨[], by simp [List.mapM_nil], .nil, hs⟩⟩
  | cons x l ih =>
    intro s s' vs h
    cases x with
    | tmp t =>
      simp only [resultsA] at h
      split at h
      · rename_i v l1 s1 hv hl
        cases h
        obtain ⟨q1, q2⟩ := ih hl
        refine ⟨q1, fun hG hs ht => ?_⟩
        obtain ⟨vs', h1, h2, h3⟩ := q2 hG hs ht
        obtain ⟨y, hy, hr⟩ := ht.2 t v hv
        exact ⟨y :: vs', by simp [List.mapM_cons, readVar, hy, h1], .cons hr h2, h3⟩
      · cases h
    | cell t ty =>
      simp only [resultsA] at h
      split at h
      · rename_i i off ht
        split at h
        · rename_i v s1 hv
          split at h
          · rename_i l1 s2 hl
            cases h
            obtain ⟨rfl, p2⟩ := loadVarA_ok hv
            obtain ⟨q1, q2⟩ := ih hl
            refine ⟨(Step.see _ _).trans q1, fun {G B E w nt tmps} hG hs htr => ?_⟩
            obtain ⟨y, hy, hr⟩ := htr.2 t _ ht
            cases hr
            rename_i b hb
            obtain ⟨v', h1, h2⟩ := p2 (hG _ (q1.l _ (in_see _ _))) hs hb
            obtain ⟨vs', h3, h4, h5⟩ := q2 hG (hs.seen i) htr
            exact ⟨v' :: vs', by simp [List.mapM_cons, readVar, hy, h1, h3, asAddr], .cons h2 h4, h5⟩
          · cases h
        · cases h
      · cases h
theorem tupA_ok {E : Env} {l : List AV} {a : Array Value} (h : RelL E l a.toList) : Rel E (tupA l) (if h : a.size = 1 then a[0] else .tuple a) := by
  obtain ⟨m⟩ := a
  cases h with
  | nil => exact .tuple .nil
  | cons h1 t =>
    cases t with
    | nil => exact h1
    | cons h2 t => exact .tuple (.cons h1 (.cons h2 t))
theorem takeA_ok : ∀ (m : List Nat) {s s' : St}, takeA m s = some s' → Step s s' ∧ ∀ {G : Nat → Prop} {B : Nat} {E : Env} {w : World} {ds : List Deferred} {fn : Func} {tmps : Array Value} {R : Ending → World → Prop}, (∀ j, In s'.l j → G j) → Sat G B E s w → RelM E m ds →
    (∀ w', Sat G B E s' w' → Ext B s'.w E E w w' → LeavesIn Fence.wide 0 P fn tmps R [] .returning w') → LeavesInM Fence.wide 0 P fn tmps R ds .returning w := by
  intro m
  induction m with
  | nil => intro s s' h; cases h; exact ⟨Step.refl _, fun hG hs hm hR => by cases hm; exact hR _ hs (Ext.refl _ _ _ _)⟩
  | cons d m ih =>
    intro s s' h
    simp only [takeA] at h
    split at h
    · rename_i hd
      obtain ⟨q1, q2⟩ := ih h
      refine ⟨(Step.set _ _ _).trans q1, fun {G B E w ds fn tmps R} hG hs hm hR => ?_⟩
      cases hm
      rename_i b ds hb hm
      have hg : G d := hG _ (q1.l _ (in_set _ _ _))
      obtain ⟨b', C, ob, he, hh, hok, _⟩ := hs.fact d _ hg hd
      obtain rfl := hs.at_live he hb
      have hob : ob = .deferred (some []) := hok
      subst hob
      obtain ⟨k1, k2⟩ := hs.write (o' := .defd false) (ob' := .deferred none) hg hd rfl he rfl
      refine ⟨by simp, .inl ⟨b, _, rfl, run_takeDeferred hh, ?_⟩⟩
      exact q2 hG k1 hm fun w' hs' hx' => hR w' hs' (k2.trans hx' q1.w)
    · cases h
theorem finB_ok {fn : Func} {fr : Fr} {s1 s' : St} {v : AV} (h : finB P fn fr s1 = some (v, s')) :
    Step s1 s' ∧ ∀ {G : Nat → Prop} {B : Nat} {E : Env} {w : World} {nt : Nat} {ac : Act} {R : Ending → World → Prop}, (∀ j, In s'.l j → G j) → Sat G B E s1 w → FRel E nt fr ac →
      (∀ v' w', Rel E v v' → Sat G B E s' w' → Ext B s'.w E E w w' → R (.returned v') w') → LeavesInM Fence.wide 0 P fn ac.tmps R ac.defers .returning w := by
  obtain ⟨s2, h1, h2⟩ := oc_some h
  obtain ⟨l, s3, h3, h4⟩ := oc2_some h2
  cases h4
  obtain ⟨p1, p2⟩ := takeA_ok (P := P) _ h1
  obtain ⟨q1, q2⟩ := resultsA_ok _ h3
  refine ⟨p1.trans q1, fun {G B E w nt ac R} hG hs hf hR => ?_⟩
  refine p2 (fun j hj => hG j (q1.l j hj)) hs hf.2 fun w' hs' hx' => ?_
  obtain ⟨vs', h5, h6, h7⟩ := q2 hG hs' hf.1
  refine ⟨_, ?_, hR (if h : vs'.toArray.size = 1 then vs'.toArray[0] else .tuple vs'.toArray) w' (tupA_ok (by simpa using h6)) h7 (hx'.more q1.w)⟩
  rw [results_eq, Array.mapM_eq_mapM_toList]
  simp only [Sem.run_bind, map_eq_pure_bind, bind_assoc, h5, Result.andThen_ok, pure_bind, Sem.run_pure]

theorem argsA_get : ∀ (l : List AV) (i : Nat) (a : T AV) {t : Nat} {v : AV}, (argsA i l a).get t = some v → (∃ k, t = i + k ∧ l[k]? = some v) ∨ a.get t = some v := by
  intro l
  induction l with
  | nil => intro i a t v h; exact .inr h
  | cons x l ih =>
    intro i a t v h
    rcases ih (i + 1) _ h with ⟨k, rfl, hk⟩ | h
    · exact .inl ⟨k + 1, by omega, by simpa using hk⟩
    · rcases T.put_some h with ⟨rfl, h1⟩ | ⟨_, h1⟩
      · exact .inl ⟨0, rfl, by simpa using h1⟩
      · exact .inr h1
theorem args_rel {E : Env} {args : List AV} {args' : Array Value} (h : RelL E args args'.toList) {nt : Nat} (hle : args.length ≤ nt) : TRel E nt (argsA 0 args .e) (args' ++ Array.replicate (nt - args'.size) undef) := by
  have hl : args.length = args'.size := by simpa using h.length
  refine ⟨by simp; omega, fun t v ht => ?_⟩
  rcases argsA_get args 0 .e ht with ⟨k, rfl, hk⟩ | h'
  · obtain ⟨v', h1, h2⟩ := h.nth hk
    rw [Array.getElem?_toList] at h1
    refine ⟨v', ?_, h2⟩
    have hlt : k < args'.size := (Array.getElem?_eq_some_iff.1 h1).1
    rw [Nat.zero_add, Array.getElem?_append_left hlt]; exact h1
  · rw [T.get_e] at h'; cases h'
/-- What is promised of one of the ways, behind a base. -/
def WayTo (P : Program) (fn : Func) (base : St) (s' : St) (v : AV) (a : Alt) (W : Exit → (R : Ending → World → Prop) → Act → World → Prop) : Prop :=
  ∀ {G : Nat → Prop} {B : Nat} {E0 : Env} {w0 : World}, (∀ j, In s'.l j → G j) → Sat G B E0 base w0 → ∀ {E : Env} {w : World} {ac : Act}, FRel E fn.ntmps a.2.1 ac → Sat G B E a.2.2 w → Ext B a.2.2.w E0 E w0 w → ∀ {R : Ending → World → Prop},
    (∀ E' v' w', Rel E' v v' → Sat G B E' s' w' → Ext B s'.w E0 E' w0 w' → R (.returned v') w') → W a.1.out R ac w
theorem finL_ok {fn : Func} : ∀ {l : List Alt} {ways : List (List AV × St)}, finL P fn l = some ways → (∀ a ∈ l, (a.1 = .normal ∨ a.1 = .ret) ∧ ∃ v s, finB P fn a.2.1 a.2.2 = some (v, s) ∧ ([v], s) ∈ ways) ∧ ∀ x ∈ ways, ∃ a ∈ l, ∃ v, finB P fn a.2.1 a.2.2 = some (v, x.2) ∧ x.1 = [v]
  | [], ways, h => by cases h; exact ⟨fun a h => (by cases h), fun a h => (by cases h)⟩
  | (e, fr, s) :: r, ways, h => by
    have key : ∀ {k : C}, (oc2 (finB P fn fr s) fun v s => oc (finL P fn r) fun l => some (([v], s) :: l)) = some ways → (e = .normal ∨ e = .ret) → (∀ a ∈ (e, fr, s) :: r, (a.1 = .normal ∨ a.1 = .ret) ∧ ∃ v s, finB P fn a.2.1 a.2.2 = some (v, s) ∧ ([v], s) ∈ ways) ∧ ∀ x ∈ ways, ∃ a ∈ (e, fr, s) :: r, ∃ v, finB P fn a.2.1 a.2.2 = some (v, x.2) ∧ x.1 = [v] := by
      intro _ h he
      obtain ⟨v, s1, h1, h2⟩ := oc2_some h
      obtain ⟨l, h3, h4⟩ := oc_some h2
      cases h4
      obtain ⟨q1, q2⟩ := finL_ok h3
      refine ⟨fun a ha => ?_, fun x hx => ?_⟩
      · rcases List.mem_cons.1 ha with rfl | ha
        · exact ⟨he, v, s1, h1, List.mem_cons_self ..⟩
        · obtain ⟨p1, v', s', p2, p3⟩ := q1 a ha
          exact ⟨p1, v', s', p2, List.mem_cons_of_mem _ p3⟩
      · rcases List.mem_cons.1 hx with rfl | hx
        · exact ⟨(e, fr, s), List.mem_cons_self .., v, h1, rfl⟩
        · obtain ⟨a, ha, q⟩ := q2 x hx
          exact ⟨a, List.mem_cons_of_mem _ ha, q⟩
    cases e with
    | exit id => cases (show none = some ways from h)
    | normal => exact key (k := none) h (.inl rfl)
    | ret => exact key (k := none) h (.inr rfl)
theorem post_of {fn : Func} {R : Ending → World → Prop} {e : AX} (he : e = .normal ∨ e = .ret) {ac : Act} {w : World} (h : LeavesInM Fence.wide 0 P fn ac.tmps R ac.defers .returning w) : bodyPostM Fence.wide 0 P fn R e.out ac w := by
  rcases he with rfl | rfl <;> exact h
theorem fin_way {fn : Func} {base : St} {a : Alt} {v : AV} {s' : St} (he : a.1 = .normal ∨ a.1 = .ret) (h : finB P fn a.2.1 a.2.2 = some (v, s')) (hst : Step base a.2.2) :
    Step base s' ∧ (∀ j, In a.2.2.l j → In s'.l j) ∧ WayTo P fn base s' v a (fun e R ac w => bodyPostM Fence.wide 0 P fn R e ac w) := by
  obtain ⟨q1, q2⟩ := finB_ok h
  refine ⟨hst.trans q1, q1.l, fun {G B E0 w0} hG hs0 {E w ac} hf hs hx {R} hR => post_of he ?_⟩
  exact q2 hG hs hf fun v' w' hv hs' hx' => hR E v' w' hv hs' (hx.trans hx' q1.w)
theorem endB_ok {fn : Func} {base : St} (hbl : ∀ j, In base.w j → In base.l j) {l : List Alt} {v : AV} {s' : St} (h : endB P fn base l = some (v, s')) (hst : ∀ a ∈ l, Step base a.2.2) :
    Step base s' ∧ (∀ a ∈ l, ∀ j, In a.2.2.l j → In s'.l j) ∧ ∀ a ∈ l, WayTo P fn base s' v a (fun e R ac w => bodyPostM Fence.wide 0 P fn R e ac w) := by
  have many : (oc (finL P fn l) fun ways => match ways with | ([v], _) :: _ => oc (mrg base ways) fun T => some (v, T) | _ => none) = some (v, s') → Step base s' ∧ (∀ a ∈ l, ∀ j, In a.2.2.l j → In s'.l j) ∧ ∀ a ∈ l, WayTo P fn base s' v a (fun e R ac w => bodyPostM Fence.wide 0 P fn R e ac w) := by
    intro h
    obtain ⟨ways, h1, h2⟩ := oc_some h
    obtain ⟨f1, f2⟩ := finL_ok h1
    split at h2
    case h_2 => cases h2
    rename_i v0 s0 rest
    obtain ⟨T, h3, h4⟩ := oc_some h2
    cases h4
    have hws : ∀ x ∈ ([v], s0) :: rest, Step base x.2 := fun x hx => by
      obtain ⟨a, ha, v', h5, _⟩ := f2 x hx
      exact (hst a ha).trans (finB_ok h5).1
    obtain ⟨m1, m2, roots, sr, rr, hrr, m3⟩ := mrg_ok h3 hbl hws
    cases hrr
    refine ⟨m1, fun a ha j hj => ?_, fun a ha => ?_⟩
    · obtain ⟨_, va, sa, h5, h6⟩ := f1 a ha
      exact m2 _ h6 j ((finB_ok h5).1.l j hj)
    · obtain ⟨he, va, sa, h5, h6⟩ := f1 a ha
      obtain ⟨q1, q2⟩ := finB_ok h5
      intro G B E0 w0 hG hs0 E w ac hf hs hx R hR
      refine post_of he (q2 (fun j hj => hG j (m2 _ h6 j hj)) hs hf fun v' w' hv hs' hx' => ?_)
      obtain ⟨F, k1, k2, k3⟩ := m3 hG hs0 _ h6 hs' (hx.trans hx' q1.w) (.cons hv .nil)
      cases k2 with
      | cons kv _ => exact hR F v' w' kv k1 k3
  match l, h, many, hst with
  | [], h, many, hst => exact many h
  | [a], h, many, hst =>
    have h' : (match a.1 with | .exit _ => none | .normal => finB P fn a.2.1 a.2.2 | .ret => finB P fn a.2.1 a.2.2) = some (v, s') := h
    have hfe : finB P fn a.2.1 a.2.2 = some (v, s') ∧ (a.1 = .normal ∨ a.1 = .ret) := by
      cases he : a.1 with
      | exit id => rw [he] at h'; cases h'
      | normal => rw [he] at h'; exact ⟨h', .inl rfl⟩
      | ret => rw [he] at h'; exact ⟨h', .inr rfl⟩
    obtain ⟨q1, q2, q3⟩ := fin_way hfe.2 hfe.1 (hst a (List.mem_cons_self ..))
    refine ⟨q1, fun b hb => ?_, fun b hb => ?_⟩
    · rw [List.mem_singleton] at hb; subst hb; exact q2
    · rw [List.mem_singleton] at hb; subst hb; exact q3
  | a :: b :: r, h, many, hst => exact many h
theorem rootsOf_ok {E : Env} {nt : Nat} {a : T AV} {tmps : Array Value} (ht : TRel E nt a tmps) : ∀ {lv : List Tmp} {r : List AV}, rootsOf a lv = some r → ∃ vals, RelL E r vals ∧ ∀ i t, lv[i]? = some t → tmps[t]? = vals[i]? ∧ i < vals.length
  | [], r, h => by cases h; exact ⟨[], .nil, fun i t h => by simp at h⟩
  | t :: lv, r, h => by
    obtain ⟨v, h1, h2⟩ := oc_some h
    obtain ⟨r', h3, h4⟩ := oc_some h2
    cases h4
    obtain ⟨vals, q1, q2⟩ := rootsOf_ok ht h3
    obtain ⟨x, hx, hr⟩ := ht.2 t v h1
    refine ⟨x :: vals, .cons hr q1, fun i t' hi => ?_⟩
    cases i with
    | zero => simp at hi; subst hi; exact ⟨hx, by simp⟩
    | succ i =>
      obtain ⟨p1, p2⟩ := q2 i t' (by simpa using hi)
      exact ⟨by simpa using p1, by simp; omega⟩
theorem putRoots_get : ∀ {lv : List Tmp} {r : List AV} {t : Nat} {u : AV}, (putRoots lv r .e).get t = some u → ∃ i : Nat, lv[i]? = some t ∧ r[i]? = some u
  | [], r, t, u, h => by
    have h' : (T.e : T AV).get t = some u := by cases r <;> exact h
    rw [T.get_e] at h'; cases h'
  | t0 :: lv, [], t, u, h => by
    have h' : (T.e : T AV).get t = some u := h
    rw [T.get_e] at h'; cases h'
  | t0 :: lv, v :: r, t, u, h => by
    rcases T.put_some (show ((putRoots lv r .e).put t0 (some v)).get t = some u from h) with ⟨rfl, hx⟩ | ⟨_, hx⟩
    · cases hx; exact ⟨0, rfl, rfl⟩
    · obtain ⟨i, h1, h2⟩ := putRoots_get hx
      exact ⟨i + 1, by simpa using h1, by simpa using h2⟩
theorem waysOf_ok {lv : List Tmp} : ∀ {l : List Alt} {ways : List (List AV × St)}, waysOf lv l = some ways → (∀ a ∈ l, ∃ v, rootsOf a.2.1.a lv = some v ∧ (v, a.2.2) ∈ ways) ∧ (∀ x ∈ ways, ∃ a ∈ l, x.2 = a.2.2) ∧ ∀ a r, l = a :: r → ∃ v rr, rootsOf a.2.1.a lv = some v ∧ ways = (v, a.2.2) :: rr
  | [], ways, h => by cases h; exact ⟨fun a h => (by cases h), fun a h => (by cases h), fun a r h => by cases h⟩
  | a :: l, ways, h => by
    obtain ⟨v, h1, h2⟩ := oc_some (show oc (rootsOf a.2.1.a lv) (fun v => oc (waysOf lv l) fun l => some ((v, a.2.2) :: l)) = some ways from h)
    obtain ⟨l', h3, h4⟩ := oc_some h2
    cases h4
    obtain ⟨q1, q2, _⟩ := waysOf_ok h3
    refine ⟨fun b hb => ?_, fun x hx => ?_, fun b r hb => by cases hb; exact ⟨v, l', h1, rfl⟩⟩
    · rcases List.mem_cons.1 hb with rfl | hb
      · exact ⟨v, h1, List.mem_cons_self ..⟩
      · obtain ⟨v', p1, p2⟩ := q1 b hb
        exact ⟨v', p1, List.mem_cons_of_mem _ p2⟩
    · rcases List.mem_cons.1 hx with rfl | hx
      · exact ⟨a, List.mem_cons_self .., rfl⟩
      · obtain ⟨b, hb, e⟩ := q2 x hx
        exact ⟨b, List.mem_cons_of_mem _ hb, e⟩
theorem goesOn_ok : ∀ {l : List Alt}, goesOn l = true → ∀ a ∈ l, a.1 = .normal ∧ a.2.1.m = []
  | [], _ => fun a h => (by cases h)
  | b :: r, h => by
    have h' : ((match b.1 with | .normal => isE b.2.1.m | _ => false) && goesOn r) = true := h
    rw [Bool.and_eq_true] at h'
    intro a ha
    rcases List.mem_cons.1 ha with rfl | ha
    · have h1 := h'.1
      cases he : a.1 with
      | normal =>
        rw [he] at h1
        refine ⟨rfl, ?_⟩
        have h2 : isE a.2.1.m = true := h1
        unfold isE at h2
        split at h2
        · assumption
        · cases h2
      | exit id => rw [he] at h1; cases h1
      | ret => rw [he] at h1; cases h1
    · exact goesOn_ok h'.2 a ha
/-- Ways, and fewer ones that tell of them. -/
def Told (fn : Func) (base : St) (l l' : List Alt) : Prop :=
  l' ≠ [] ∧ (∀ a ∈ l', a.1 = .normal ∧ Step base a.2.2) ∧ (∀ a ∈ l, ∀ j, In a.2.2.l j → ∃ a' ∈ l', In a'.2.2.l j) ∧
  ∀ {G : Nat → Prop} {B : Nat} {E0 : Env} {w0 : World}, (∀ a ∈ l', ∀ j, In a.2.2.l j → G j) → Sat G B E0 base w0 → ∀ a ∈ l, ∀ {E : Env} {w : World} {ac : Act}, FRel E fn.ntmps a.2.1 ac → Sat G B E a.2.2 w → Ext B a.2.2.w E0 E w0 w →
    ∃ a' ∈ l', ∃ E', FRel E' fn.ntmps a'.2.1 ac ∧ Sat G B E' a'.2.2 w ∧ Ext B a'.2.2.w E0 E' w0 w
theorem Told.same {fn : Func} {base : St} {l : List Alt} (h : l ≠ []) (h1 : ∀ a ∈ l, a.1 = .normal ∧ Step base a.2.2) : Told fn base l l :=
  ⟨h, h1, fun a ha j hj => ⟨a, ha, hj⟩, fun {G B E0 w0} _ _ a ha {E w ac} hf hs hx => ⟨a, ha, E, hf, hs, hx⟩⟩
theorem tryM_ok {fn : Func} {base : St} (hbl : ∀ j, In base.w j → In base.l j) {m : Nat} {l : List Alt} {fr : Fr} {T : St} (h : tryM base fn.ntmps m l = some (fr, T)) (hst : ∀ a ∈ l, Step base a.2.2) : Told fn base l [(.normal, fr, T)] := by
  match l, h, hst with
  | [], h, hst => cases h
  | a0 :: r, h, hst =>
    obtain ⟨hgo, h1⟩ := bc_some h
    obtain ⟨ways, h2, h3⟩ := oc_some (show oc (waysOf (liveT m a0.2.1.a fn.ntmps) (a0 :: r)) (fun ways => oc (rootsOf a0.2.1.a (liveT m a0.2.1.a fn.ntmps)) fun v => oc (mrg base ways) fun T => some ((⟨putRoots (liveT m a0.2.1.a fn.ntmps) v .e, []⟩ : Fr), T)) = some (fr, T) from h1)
    obtain ⟨v, h4, h5⟩ := oc_some h3
    obtain ⟨T', h6, h7⟩ := oc_some h5
    cases h7
    generalize liveT m a0.2.1.a fn.ntmps = lv at *
    obtain ⟨w1, w2, w3⟩ := waysOf_ok h2
    obtain ⟨v', rr, h8, h9⟩ := w3 a0 r rfl
    rw [h4] at h8
    cases h8
    have hws : ∀ x ∈ ways, Step base x.2 := fun x hx => by
      obtain ⟨a, ha, e⟩ := w2 x hx
      rw [e]; exact hst a ha
    obtain ⟨m1, m2, roots, sr, rr', hrr, m3⟩ := mrg_ok h6 hbl hws
    rw [h9] at hrr
    cases hrr
    refine ⟨by simp, fun a ha => ?_, fun a ha j hj => ?_, fun {G B E0 w0} hG hs0 a ha {E w ac} hf hs hx => ?_⟩
    · rw [List.mem_singleton] at ha; subst ha; exact ⟨rfl, m1⟩
    · obtain ⟨va, _, hm⟩ := w1 a ha
      exact ⟨_, List.mem_singleton.2 rfl, m2 _ hm j hj⟩
    · obtain ⟨va, hva, hm⟩ := w1 a ha
      obtain ⟨vals, q1, q2⟩ := rootsOf_ok hf.1 hva
      obtain ⟨F, k1, k2, k3⟩ := m3 (hG _ (List.mem_singleton.2 rfl)) hs0 _ hm hs hx q1
      refine ⟨_, List.mem_singleton.2 rfl, F, ⟨⟨hf.1.1, fun t u hu => ?_⟩, ?_⟩, k1, k3⟩
      · obtain ⟨i, hi1, hi2⟩ := putRoots_get hu
        obtain ⟨y, hy1, hy2⟩ := k2.nth hi2
        exact ⟨y, by rw [(q2 i t hi1).1, hy1], hy2⟩
      · have := (goesOn_ok hgo a ha).2
        have hd := hf.2
        rw [this] at hd
        cases hdd : ac.defers with
        | nil => exact .nil
        | cons x y => rw [hdd] at hd; cases hd
theorem normL_ok {fn : Func} {base : St} (hbl : ∀ j, In base.w j → In base.l j) {m : Nat} {l : List Alt} (hne : l ≠ []) (hst : ∀ a ∈ l, a.1 = .normal ∧ Step base a.2.2) : Told fn base l (normL base fn.ntmps m l) := by
  have many : Told fn base l (orM (tryM base fn.ntmps m l) l) := by
    cases ht : tryM base fn.ntmps m l with
    | none => exact Told.same hne hst
    | some p => exact tryM_ok hbl ht fun a ha => (hst a ha).2
  match l, hne, hst, many with
  | [], hne, _, _ => exact absurd rfl hne
  | [a], hne, hst, _ => exact Told.same hne hst
  | a :: b :: r, hne, hst, many => exact many
theorem allN_ok : ∀ {l : List Alt}, allN l = true → ∀ a ∈ l, a.1 = .normal
  | [], _ => fun a h => (by cases h)
  | b :: r, h => by
    have h' : (onN b.1 && allN r) = true := h
    rw [Bool.and_eq_true] at h'
    intro a ha
    rcases List.mem_cons.1 ha with rfl | ha
    · have h1 := h'.1
      cases he : a.1 with
      | normal => rfl
      | exit id => rw [he] at h1; cases h1
      | ret => rw [he] at h1; cases h1
    · exact allN_ok h'.2 a ha
theorem noneN_ok : ∀ {l : List Alt}, noneN l = true → ∀ a ∈ l, a.1 ≠ .normal
  | [], _ => fun a h => (by cases h)
  | b :: r, h => by
    have h' : (!onN b.1 && noneN r) = true := h
    rw [Bool.and_eq_true] at h'
    intro a ha
    rcases List.mem_cons.1 ha with rfl | ha
    · intro he
      have h1 := h'.1
      rw [he] at h1; cases h1
    · exact noneN_ok h'.2 a ha
/-- What is promised of a text from its top. -/
def TopOk (P : Program) (fn : Func) (base : St) (c : Code) (l : List Alt) (v : AV) (s' : St) : Prop :=
  Step base s' ∧ (∀ a ∈ l, ∀ j, In a.2.2.l j → In s'.l j) ∧ ∀ a ∈ l, WayTo P fn base s' v a fun _ R ac w => c.wpIn Fence.wide 0 P (bodyPostM Fence.wide 0 P fn R) ac w
theorem topS_ok (hr : RecOk P n r) {fn : Func} {base : St} (hbl : ∀ j, In base.w j → In base.l j) : ∀ (k : Nat) (c : Code) (l : List Alt) (v : AV) (s' : St), topS P r fn base k c l = some (v, s') → (∀ a ∈ l, a.1 = .normal ∧ Step base a.2.2) → TopOk P fn base c l v s' := by
  intro k
  induction k with
  | zero => intro c l v s' h; cases h
  | succ k ih =>
    -- a text's run, on each of the ways
    have run : ∀ {c : Code} {l L : List Alt}, flatC (fun _ fr s => r.code fn.ntmps none c fr s) l = some L → (∀ a ∈ l, a.1 = .normal ∧ Step base a.2.2) → (l ≠ [] → L ≠ []) ∧ (∀ b ∈ L, Step base b.2.2) ∧ (∀ a ∈ l, ∀ j, In a.2.2.l j → ∃ b ∈ L, In b.2.2.l j) ∧
        ∀ {G : Nat → Prop} {B : Nat} {E0 : Env} {w0 : World}, (∀ b ∈ L, ∀ j, In b.2.2.l j → G j) → ∀ a ∈ l, ∀ {E : Env} {w : World} {ac : Act}, FRel E fn.ntmps a.2.1 ac → Sat G B E a.2.2 w → Ext B a.2.2.w E0 E w0 w → ∀ {Q : Exit → Act → World → Prop},
          (∀ b ∈ L, ∀ E' ac' w', FRel E' fn.ntmps b.2.1 ac' → Sat G B E' b.2.2 w' → Ext B b.2.2.w E0 E' w0 w' → Q b.1.out ac' w') → c.wpIn Fence.wide 0 P Q ac w := by
      intro c l L h hl
      obtain ⟨f1, f2⟩ := flatC_some h
      refine ⟨fun hne => ?_, fun b hb => ?_, fun a ha j hj => ?_, fun {G B E0 w0} hG a ha {E w ac} hf hs hx {Q} hQ => ?_⟩
      · obtain ⟨a, ha⟩ := List.exists_mem_of_ne_nil _ hne
        obtain ⟨La, h1, h2⟩ := f1 a ha
        obtain ⟨b, hb⟩ := List.exists_mem_of_ne_nil _ (hr.code h1).1
        exact List.ne_nil_of_mem (h2 b hb)
      · obtain ⟨a, ha, La, h1, h2⟩ := f2 b hb
        exact (hl a ha).2.trans ((hr.code h1).2.1 b h2)
      · obtain ⟨La, h1, h2⟩ := f1 a ha
        obtain ⟨b, hb⟩ := List.exists_mem_of_ne_nil _ (hr.code h1).1
        exact ⟨b, h2 b hb, ((hr.code h1).2.1 b hb).l j hj⟩
      · obtain ⟨La, h1, h2⟩ := f1 a ha
        obtain ⟨q0, q1, q2⟩ := hr.code h1
        exact (q2 (rb := none) (fun b hb => hG b (h2 b hb)) hs hf rfl fun b hb E' ac' w' hf' hs' hx' => hQ b (h2 b hb) E' ac' w' hf' hs' (hx.trans hx' (q1 b hb).w)).1
    have last : ∀ {c : Code} {l : List Alt} {v : AV} {s' : St}, (oc (flatC (fun _ fr s => r.code fn.ntmps none c fr s) l) (endB P fn base)) = some (v, s') → (∀ a ∈ l, a.1 = .normal ∧ Step base a.2.2) → TopOk P fn base c l v s' := by
      intro c l v s' h hl
      obtain ⟨L, h1, h2⟩ := oc_some h
      obtain ⟨r0, r1, r2, r3⟩ := run h1 hl
      obtain ⟨e1, e2, e3⟩ := endB_ok hbl h2 r1
      refine ⟨e1, fun a ha j hj => ?_, fun a ha => ?_⟩
      · obtain ⟨b, hb, hj'⟩ := r2 a ha j hj
        exact e2 b hb j hj'
      · intro G B E0 w0 hG hs0 E w ac hf hs hx R hR
        exact r3 (fun b hb j hj => hG j (e2 b hb j hj)) a ha hf hs hx fun b hb E' ac' w' hf' hs' hx' => e3 b hb hG hs0 hf' hs' hx' hR
    intro c l v s' h hl
    cases c
    case seq x y =>
      obtain ⟨L, h1, h2⟩ := oc_some (show oc (flatC (fun _ fr s => r.code fn.ntmps none x fr s) l) (fun l => bi (allN l)
        (loneC l (fun e fr s => s.force fun s => topS P r fn base k y [(e, fr, s)]) (topS P r fn base k y (normL base fn.ntmps (uses y (usesR fn.results.toList (nat_lit 0))) l)))
        (bc (noneN l) (endB P fn base l))) = some (v, s') from h)
      obtain ⟨r0, r1, r2, r3⟩ := run h1 hl
      cases hn : allN L with
      | true =>
        rw [hn, bi_true] at h2
        have hL : ∀ b ∈ L, b.1 = .normal ∧ Step base b.2.2 := fun b hb => ⟨allN_ok hn b hb, r1 b hb⟩
        -- what goes on
        have go : ∀ {L' : List Alt}, Told fn base L L' → topS P r fn base k y L' = some (v, s') → TopOk P fn base (.seq x y) l v s' := by
          intro L' ⟨t0, t1, t2, t3⟩ hy
          obtain ⟨y1, y2, y3⟩ := ih y L' v s' hy t1
          refine ⟨y1, fun a ha j hj => ?_, fun a ha => ?_⟩
          · obtain ⟨b, hb, hj'⟩ := r2 a ha j hj
            obtain ⟨b', hb', hj''⟩ := t2 b hb j hj'
            exact y2 b' hb' j hj''
          · intro G B E0 w0 hG hs0 E w ac hf hs hx R hR
            have hGL' : ∀ b ∈ L', ∀ j, In b.2.2.l j → G j := fun b hb j hj => hG j (y2 b hb j hj)
            refine wpIn_seq (r3 (fun b hb j hj => ?_) a ha hf hs hx fun b hb E' ac' w' hf' hs' hx' => ?_)
            · obtain ⟨b', hb', hj'⟩ := t2 b hb j hj
              exact hGL' b' hb' j hj'
            · rw [(hL b hb).1]
              obtain ⟨b', hb', E2, g1, g2, g3⟩ := t3 hGL' hs0 b hb hf' hs' hx'
              exact y3 b' hb' hG hs0 g1 g2 g3 hR
        by_cases hne : L = []
        · subst hne
          have h3 : topS P r fn base k y (normL base fn.ntmps (uses y (usesR fn.results.toList 0)) []) = some (v, s') := h2
          have hn0 : normL base fn.ntmps (uses y (usesR fn.results.toList 0)) [] = [] := rfl
          rw [hn0] at h3
          obtain ⟨y1, y2, y3⟩ := ih y [] v s' h3 (fun a ha => by cases ha)
          have hl0 : l = [] := by
            cases l with
            | nil => rfl
            | cons a r => exact absurd rfl (r0 (by simp))
          subst hl0
          exact ⟨y1, fun a ha => (by cases ha), fun a ha => (by cases ha)⟩
        · have go' : ∀ L', Told fn base L L' → topS P r fn base k y L' = some (v, s') → TopOk P fn base (.seq x y) l v s' := fun L' => go
          clear go
          cases L with
          | nil => exact absurd rfl hne
          | cons a L =>
          cases L with
          | nil =>
            have h3 : (a.2.2.force fun s => topS P r fn base k y [(a.1, a.2.1, s)]) = some (v, s') := h2
            rw [St.force_eq] at h3
            exact go' _ (Told.same hne hL) h3
          | cons b r' =>
            exact go' _ (normL_ok hbl hne hL) h2
      | false =>
        rw [hn, bi_false] at h2
        obtain ⟨hnn, h3⟩ := bc_some h2
        obtain ⟨e1, e2, e3⟩ := endB_ok hbl h3 r1
        refine ⟨e1, fun a ha j hj => ?_, fun a ha => ?_⟩
        · obtain ⟨b, hb, hj'⟩ := r2 a ha j hj
          exact e2 b hb j hj'
        · intro G B E0 w0 hG hs0 E w ac hf hs hx R hR
          exact wpIn_seq (r3 (fun b hb j hj => hG j (e2 b hb j hj)) a ha hf hs hx fun b hb E' ac' w' hf' hs' hx' => then_out (noneN_ok hnn b hb) (e3 b hb hG hs0 hf' hs' hx' hR))
    all_goals exact last h hl
theorem bare_step (s : St) {s' : St} (h : Step (bareS s) s') : Step s ⟨s'.c, s'.h, Nat.lor s.l s'.l, Nat.lor s.w s'.w, s'.o⟩ := by
  refine ⟨fun j hj => (in_lor _ _ _).2 (.inl hj), fun j hj => (in_lor _ _ _).2 (.inl hj), fun hwl j hj => ?_, fun j hj => h.h j fun h' => hj ((in_lor _ _ _).2 (.inr h')), h.o⟩
  rcases (in_lor _ _ _).1 hj with h1 | h1
  · exact (in_lor _ _ _).2 (.inl (hwl j h1))
  · exact (in_lor _ _ _).2 (.inr (h.wl (fun j hj => absurd hj (not_in_zero j)) j h1))
theorem evBody_ok (hr : RecOk P n r) {f : FuncId} {fn : Func} {c : Code} (hf : P.funcs[f]? = some fn) (hb : fn.body = some c) (hname : fn.name ≠ "runtime.NumGoroutine") {args : List AV} {s s' : St} {v : AV} (h : evBody P r fn c args s = some (v, s')) :
    Step s s' ∧ ∀ {G : Nat → Prop} {B : Nat} {E : Env} {w : World} {args' : Array Value}, (∀ j, In s'.l j → G j) → Sat G B E s w → RelL E args args'.toList → CallRes P f args' w (RetOk G B s' v E w) := by
  obtain ⟨hle, h1⟩ := bc_some h
  obtain ⟨v1, s1, h2, h3⟩ := oc2_some h1
  cases h3
  obtain ⟨p1, p2, p3⟩ := topS_ok hr (fun j hj => absurd hj (not_in_zero j)) _ _ _ _ _ h2 (fun a ha => by rw [List.mem_singleton] at ha; subst ha; exact ⟨rfl, Step.refl _⟩)
  refine ⟨bare_step s p1, fun {G B E w args'} hG hs ha => ⟨?_, ?_⟩⟩
  · simp [callFunc, run_program, hf, hname, hb]
  · refine callsIn_of_wp_marks hf hb trivial ?_
    have hle' : args.length ≤ fn.ntmps := by simpa using hle
    have hsb : Sat G B E (bareS s) w := ⟨hs.inj, hs.lt, hs.base, hs.glob, hs.fresh, hs.fact, hs.orc, hs.prot, hs.defs⟩
    exact p3 _ (List.mem_singleton.2 rfl) (fun j hj => hG j ((in_lor _ _ _).2 (.inr hj))) hsb ⟨args_rel ha hle', .nil⟩ hsb (Ext.refl _ _ _ _) fun E' v' w' hv hs' hx' =>
      ⟨E', v', rfl, hv, ⟨hs'.inj, hs'.lt, hs'.base, hs'.glob, hs'.fresh, hs'.fact, hs'.orc, hs'.prot, hs'.defs⟩, hx'.more fun j hj => (in_lor _ _ _).2 (.inr hj)⟩
def CtrOk (P : Program) (ctr : Ctr) : Prop := ∀ f g, ctr f = some g → ∀ {args : List AV} {s : St} {v : AV} {s' : St}, g args s = some (v, s') → Step s s' ∧ ∀ {G : Nat → Prop} {B : Nat} {E : Env} {w : World} {args' : Array Value}, (∀ j, In s'.l j → G j) → Sat G B E s w → RelL E args args'.toList →
    CallRes P f args' w (RetOk G B s' v E w)
theorem evCall_ok {ctr : Ctr} (hctr : CtrOk P ctr) (hnames : ∀ (f : FuncId) (fn : Func), P.funcs[f]? = some fn → fn.name ≠ "runtime.NumGoroutine") (hr : RecOk P n r) : CallOk P (evCall P ctr r) := by
  have body : ∀ {f args s v s'}, (bodyS P f).run r args s = some (v, s') → _ := fun {f args s v s'} h => show Step s s' ∧ ∀ {G : Nat → Prop} {B : Nat} {E : Env} {w : World} {args' : Array Value}, (∀ j, In s'.l j → G j) → Sat G B E s w → RelL E args args'.toList → CallRes P f args' w (RetOk G B s' v E w) by
    unfold bodyS at h
    split at h
    · rename_i fn hfn
      split at h
      · rename_i c hc
        exact evBody_ok hr hfn hc (hnames f fn hfn) h
      · cases h
    · cases h
  intro f args s v s' h
  unfold evCall at h
  unfold callS at h
  split at h
  · rename_i g hg
    simp only [orR] at h
    cases h0 : g args s with
    | some p =>
      rw [h0] at h
      cases h
      exact hctr f g hg h0
    | none =>
      rw [h0] at h
      exact body h
  · exact body h

theorem paramsA_ok {E : Env} {nt : Nat} : ∀ (ps : List Tmp) {args : List AV} {args' : List Value} {a a0 : T AV} {tmps : Array Value}, paramsA nt ps args a = some a0 → RelL E args args' → TRel E nt a tmps →
    args'.length = ps.length ∧ TRel E nt a0 ((ps.zip args').foldl (fun (tmps : Array Value) (p : Tmp × Value) => tmps.setIfInBounds p.1 p.2) tmps) := by
  intro ps
  induction ps with
  | nil =>
    intro args args' a a0 tmps h hr ht
    cases args with
    | nil => cases h; cases hr; exact ⟨rfl, ht⟩
    | cons x l => cases h
  | cons t ps ih =>
    intro args args' a a0 tmps h hr ht
    cases args with
    | nil => cases h
    | cons x l =>
      simp only [paramsA] at h
      split at h
      · rename_i hlt
        cases hr
        rename_i y m hx hr
        have ht' : TRel E nt (a.put t (some x)) (tmps.setIfInBounds t y) :=
          TRel.put (ac := { tmps := tmps, defers := [] }) (d := some t) ht (fun t' h' => by cases h'; simpa using hlt) hx
        obtain ⟨h1, h2⟩ := ih h hr ht'
        exact ⟨by simp [h1], h2⟩
      · cases h
theorem roundC_some {x : C} {k : AX → Fr → St → R} {y : AV × St} (h : roundC x k = some y) : ∃ e fr s, x = some [(e, fr, s)] ∧ k e fr s = some y := by
  obtain ⟨l, h1, h2⟩ := oc_some h
  match l, h2 with
  | [], h2 => cases h2
  | [a], h2 => exact ⟨a.1, a.2.1, a.2.2, h1, h2⟩
  | a :: b :: r, h2 => cases h2
/-- One way alone. -/
theorem code_lone {nt : Nat} {ro : Option Nat} {c : Code} {fr : Fr} {s : St} {e : AX} {fr' : Fr} {s' : St} (h : CodeOk1 P n nt ro c fr s [(e, fr', s')]) :
    Step s s' ∧ ∀ {G : Nat → Prop} {B : Nat} {E : Env} {w : World} {ac : Act} {rb : Option Nat}, (∀ j, In s'.l j → G j) → Sat G B E s w → FRel E nt fr ac → RoRel E ro rb → ∀ {Q : Exit → Act → World → Prop},
      (∀ E' ac' w', FRel E' nt fr' ac' → Sat G B E' s' w' → Ext B s'.w E E' w w' → Q e.out ac' w') → c.wpIn (fen rb) 0 P Q ac w ∧ ∀ x, c = .loop x → Code.roundsIn (fen rb) 0 P x Q n ac w := by
  obtain ⟨_, h1, h2⟩ := h
  refine ⟨h1 _ (List.mem_singleton.2 rfl), fun {G B E w ac rb} hG hs hf hro {Q} hQ => h2 (fun a ha => ?_) hs hf hro fun a ha => ?_⟩
  · rw [List.mem_singleton] at ha; subst ha; exact hG
  · rw [List.mem_singleton] at ha; subst ha; exact hQ
theorem evYield_ok (hr : RecOk P n r) : YieldOk P (evYield r) := by
  intro l args s v s' h
  obtain ⟨o, ho, h1⟩ := oc_some h
  obtain ⟨st, pend, nt, a, ps, assign, body, d, rfl, h2⟩ := loopC_some h1
  obtain ⟨a0, ha0, h3⟩ := oc_some h2
  obtain ⟨e1, fr1, s1, h4, h5⟩ := roundC_some h3
  clear h h1 h2 h3
  cases e1 <;> first | (cases h5; done) | skip
  obtain ⟨o1, ho1, h6⟩ := oc_some h5
  obtain ⟨st1, pend1, nt1, a1, ps1, as1, bo1, d1, rfl, h7⟩ := loopC_some h6
  obtain ⟨hready, h8⟩ := bc_some h7
  obtain ⟨e2, fr2, s3, h9, h10⟩ := roundC_some h8
  obtain ⟨o3, ho3, h11⟩ := oc_some h10
  obtain ⟨st3, pend3, nt3, a3, ps3, as3, bo3, d3, rfl, h12⟩ := loopC_some h11
  clear h5 h6 h7 h8 h10 h11
  have hst1 : st1 = .ready := by cases st1 <;> simp_all [isReady]
  subst hst1
  obtain ⟨p1, p2⟩ := code_lone (hr.code h4)
  obtain ⟨q1, q2⟩ := code_lone (hr.code h9)
  -- the round's end
  have hend : ∃ (jump : Option Code) (st' : LoopState), v = .bool jump.isNone ∧ s' = s3.set l (some (.loop st' jump nt3 a3 ps3 as3 bo3 d3)) ∧ st' = (if jump.isNone then .ready else .done) ∧ (e2 = .normal ∧ jump = none ∨ e2 = .ret ∧ jump = some .ret ∨ ∃ id, e2 = .exit id ∧ jump = some (.exit id)) := by
    cases e2 with
    | normal => cases h12; exact ⟨none, _, rfl, rfl, rfl, .inl ⟨rfl, rfl⟩⟩
    | ret => cases h12; exact ⟨some .ret, _, rfl, rfl, rfl, .inr (.inl ⟨rfl, rfl⟩)⟩
    | exit id => cases h12; exact ⟨some (.exit id), _, rfl, rfl, rfl, .inr (.inr ⟨id, rfl, rfl⟩)⟩
  obtain ⟨jump, st', rfl, rfl, hst', hej⟩ := hend
  clear h12
  refine ⟨(((Step.see _ _).trans p1).trans ((Step.set _ _ _).trans q1)).trans (Step.set _ _ _), fun {G B E w args' b} hG hs ha hb => ?_⟩
  have hG3 : ∀ j, In s3.l j → G j := fun j hj => hG j ((Step.set s3 l _).l j hj)
  have hG1 : ∀ j, In s1.l j → G j := fun j hj => hG3 j (q1.l j ((Step.set s1 l _).l j hj))
  have hgl : G l := hG l (in_set _ _ _)
  obtain ⟨C, rl, he, hh, hrst, hrpd, hrps, hras, hrbo, htm, hde⟩ := hs.loop hgl ho hb
  obtain ⟨hlen, htr⟩ := paramsA_ok ps ha0 ha htm
  have hsz : args'.size = rl.params.size := by
    rw [← hrps] at hlen
    simpa using hlen
  refine ⟨_, _, _, _, run_yield hh hsz, roundIn_of_wpIn trivial ?_⟩
  have hzip : (rl.params.zip args').foldl (fun tmps (t, a) => tmps.setIfInBounds t a) rl.tmps = (ps.zip args'.toList).foldl (fun (tmps : Array Value) (p : Tmp × Value) => tmps.setIfInBounds p.1 p.2) rl.tmps := by
    rw [← hrps, ← Array.foldl_toList, Array.toList_zip]
  rw [hzip, hras, hrbo]
  refine (p2 (rb := some b) hG1 (hs.seen l) ⟨htr, .nil⟩ ⟨b, rfl, hb⟩ fun E1 ac1 w1 hf1 hs1 hx1 => ?_).1
  obtain ⟨C1, rl1, he1, hh1, hrst1, hrpd1, hrps1, hras1, hrbo1, htm1, hde1⟩ := hs1.loop hgl ho1 (Slot.at_le (hx1.le l) hb)
  refine ⟨_, run_beginRound hh1 hrst1, ?_⟩
  obtain ⟨k1, k2⟩ := hs1.write (o' := .loop .busy pend1 nt1 a1 ps1 as1 bo1 d1) (ob' := .loop { rl1 with state := .busy }) hgl ho1 rfl he1 ⟨_, rfl, rfl, hrpd1, hrps1, hras1, hrbo1, htm1, hde1⟩
  refine (q2 (rb := some b) hG3 k1 (hf1.mono k2.le) ⟨b, rfl, Slot.at_le (hx1.le l) hb⟩ fun E3 ac3 w3 hf3 hs3 hx3 => ?_).1
  obtain ⟨C3, rl3, he3, hh3, hrst3, hrpd3, hrps3, hras3, hrbo3, htm3, hde3⟩ := hs3.loop hgl ho3 (Slot.at_le (hx3.le l) (Slot.at_le (hx1.le l) hb))
  obtain ⟨m1, m2⟩ := hs3.write (o' := .loop st' jump nt3 a3 ps3 as3 bo3 d3) (ob' := .loop { rl3 with state := if jump.isNone then .ready else .done, pending := jump }) hgl ho3 rfl he3 ⟨_, rfl, hst'.symm, rfl, hrps3, hras3, hrbo3, htm3, hde3⟩
  have hret : RetOk G B (s3.set l (some (.loop st' jump nt3 a3 ps3 as3 bo3 d3))) (.bool jump.isNone) E w (.returned (.bool jump.isNone)) (w3.putObj b (.loop { rl3 with state := if jump.isNone then .ready else .done, pending := jump })) := by
    refine ⟨E3, _, rfl, .bool _, m1, ?_⟩
    have x1 := hx1.trans k2 (Step.set s1 l _).w
    have x2 := x1.trans hx3 q1.w
    exact x2.trans m2 (Step.set s3 l _).w
  rcases hej with ⟨rfl, rfl⟩ | ⟨rfl, rfl⟩ | ⟨id, rfl, rfl⟩
  · exact ⟨_, _, run_endRound _ hh3, hret⟩
  · exact ⟨_, _, run_endRound _ hh3, hret⟩
  · exact ⟨_, _, run_endRound _ hh3, hret⟩

theorem ev_ok [IsProg P] {ctr : Ctr} (hmix : P.follows .mixedOrders = true) (hctr : CtrOk P ctr) (hnames : ∀ (f : FuncId) (fn : Func), P.funcs[f]? = some fn → fn.name ≠ "runtime.NumGoroutine") : ∀ n, RecOk P n (ev P ctr n) := by
  intro n
  induction n with
  | zero =>
    refine ⟨?_, ?_, ?_⟩
    · intro f args s v s' h; cases h
    · intro l args s v s' h; cases h
    · intro nt ro c fr s L h; cases h
  | succ n ih => exact ⟨evCall_ok hctr hnames ih, evYield_ok ih, fun h => evCode_ok hmix ih h⟩
/-- A call, by the evaluator. -/
theorem ev_call [IsProg P] {ctr : Ctr} (hmix : P.follows .mixedOrders = true) (hctr : CtrOk P ctr) (hnames : ∀ (f : FuncId) (fn : Func), P.funcs[f]? = some fn → fn.name ≠ "runtime.NumGoroutine") {n : Nat} {f : FuncId} {args : List AV} {s s' : St} {v : AV} (h : (ev P ctr n).call f args s = some (v, s'))
    {B : Nat} {E : Env} {w : World} {args' : Array Value} (hs : Sat (fun _ => True) B E s w) (ha : RelL E args args'.toList) : Calls P f args' w (RetOk (fun _ => True) B s' v E w) :=
  callsIn_wide.1 (((ev_ok hmix hctr hnames n).call h).2 (fun _ _ => trivial) hs ha).2
end
end Ev
end Go.Proofs.YtnjpdipombnigaaGreatDoor
namespace Go.Proofs.YtnjpdipombnigaaGreatDoor
namespace Ev
open Go.RowKit

noncomputable def flatA (g : DataW Unit → Option (List AV)) : List (DataW Unit) → Option (List AV)
  | [] => some []
  | d :: ds => oc (g d) fun a => oc (flatA g ds) fun b => some (a ++ b)
noncomputable def flatF (P : Program) (g : TypeId → DataW Unit → Option (List AV)) (n : Nat) : Nat → List Field → List (DataW Unit) → Option (List AV)
  | off, [], [] => bc (Nat.beq off n) (some [])
  | off, f :: fs, d :: ds => bc (Nat.beq f.offset off) (oc (g f.type d) fun a => oc (flatF P g n (off + P.cellsOf f.type) fs ds) fun b => some (a ++ b))
  | _, _, _ => none
/-- The cells of a datum that holds no address. -/
noncomputable def flat (P : Program) : Nat → TypeId → DataW Unit → Option (List AV)
  | 0, _, _ => none
  | f + 1, t, d => match P.underlying t, d with
    | some .bool, .lit (.bool b) => some [.bool b]
    | some (.int _), .lit (.int k n) => some [.int k n]
    | some .string, .lit (.string l) => some [.str l]
    | some (.struct fs), .agg ds => flatF P (flat P f) (P.cellsOf t) 0 fs.toList ds
    | some (.array n e), .agg ds => bc (Nat.beq ds.length n) (bc (Nat.beq (n * P.cellsOf e) (P.cellsOf t)) (flatA (flat P f e) ds))
    | _, _ => none

section
variable {P : Program} {E : Env} {cs : List Value}
theorem flatF_ok {g : TypeId → DataW Unit → Option (List AV)} {n : Nat} {tr : TypeId → List Value → Option (DataW Unit × List MemPlace)} (hlen : cs.length = n)
    (hg : ∀ t d a c p, g t d = some a → tr t c = some (d, p) → RelL E a c) : ∀ (fs : List Field) (off : Nat) {ds : List (DataW Unit)} {b : List AV} {xs : List (DataW Unit × List MemPlace)},
      flatF P g n off fs ds = some b → fs.mapM (fun f => tr f.type ((cs.drop f.offset).take (P.cellsOf f.type))) = some xs → xs.map (·.1) = ds → RelL E b (cs.drop off) := by
  intro fs
  induction fs with
  | nil =>
    intro off ds b xs h hm hx
    cases hm
    cases hx
    obtain ⟨h1, h2⟩ := bc_some h
    cases h2
    have : off = n := by simpa using h1
    rw [List.drop_eq_nil_of_le (by omega)]
    exact .nil
  | cons f fs ih =>
    intro off ds b xs h hm hx
    rw [List.mapM_cons] at hm
    obtain ⟨y, hy, hm⟩ := Option.bind_eq_some_iff.1 hm
    obtain ⟨ys, hys, hm⟩ := Option.bind_eq_some_iff.1 hm
    cases hm
    cases hx
    obtain ⟨h1, h⟩ := bc_some h
    obtain ⟨a, ha, h⟩ := oc_some h
    obtain ⟨b', hb, h⟩ := oc_some h
    cases h
    have hoff : f.offset = off := by simpa using h1
    rw [hoff] at hy
    have r1 := hg _ _ _ _ y.2 ha hy
    have r2 := ih _ hb hys rfl
    have := r1.append r2
    rw [← List.drop_drop, List.take_append_drop] at this
    exact this
theorem flatA_ok {g : DataW Unit → Option (List AV)} {c : Nat} {tr : List Value → Option (DataW Unit × List MemPlace)}
    (hg : ∀ d a c p, g d = some a → tr c = some (d, p) → RelL E a c) : ∀ (ds : List (DataW Unit)) (i : Nat) {b : List AV} {xs : List (DataW Unit × List MemPlace)},
      cs.length = (i + ds.length) * c → flatA g ds = some b → (List.range' i ds.length).mapM (fun i => tr ((cs.drop (i * c)).take c)) = some xs → xs.map (·.1) = ds → RelL E b (cs.drop (i * c)) := by
  intro ds
  induction ds with
  | nil =>
    intro i b xs hl h hm hx
    cases h
    rw [List.drop_eq_nil_of_le (by simp at hl; omega)]
    exact .nil
  | cons d ds ih =>
    intro i b xs hl h hm hx
    have hr : List.range' i (d :: ds).length = i :: List.range' (i + 1) ds.length := rfl
    rw [hr, List.mapM_cons] at hm
    obtain ⟨y, hy, hm⟩ := Option.bind_eq_some_iff.1 hm
    obtain ⟨ys, hys, hm⟩ := Option.bind_eq_some_iff.1 hm
    cases hm
    rw [List.map_cons, List.cons.injEq] at hx
    obtain ⟨rfl, hx⟩ := hx
    obtain ⟨a, ha, h⟩ := oc_some h
    obtain ⟨b', hb, h⟩ := oc_some h
    cases h
    have r1 := hg _ _ _ y.2 ha hy
    have r2 := ih (i + 1) (by rw [hl, List.length_cons]; congr 1; omega) hb hys hx
    have := r1.append r2
    rw [show (i + 1) * c = i * c + c from by rw [Nat.add_mul, Nat.one_mul], ← List.drop_drop, List.take_append_drop] at this
    exact this
theorem mapM_len {α β : Type} {f : α → Option β} : ∀ {l : List α} {r : List β}, l.mapM f = some r → r.length = l.length := by
  intro l
  induction l with
  | nil => intro r h; cases h; rfl
  | cons x l ih =>
    intro r hr
    rw [List.mapM_cons] at hr
    obtain ⟨y, -, hr⟩ := Option.bind_eq_some_iff.1 hr
    obtain ⟨ys, hys, hr⟩ := Option.bind_eq_some_iff.1 hr
    cases hr
    simp [ih hys]
theorem trod_flat {enc : TypeId × Value → Unit} {w : World} {base : Nat} {sp : Nat → Bool} {held : Bool} : ∀ (f : Nat) {fuel : Nat} {t : TypeId} {d : DataW Unit} {l : List AV} {cs : List Value} {p : List MemPlace},
    flat P f t d = some l → DataW.trod enc P w base sp held fuel t cs = some (d, p) → RelL E l cs := by
  intro f
  induction f with
  | zero => intro fuel t d l cs p hf; cases hf
  | succ f ih =>
    intro fuel t d l cs p hf h
    simp only [flat] at hf
    split at hf
    · rename_i b hu
      cases hf
      obtain ⟨b', rfl, hx⟩ := DataW.trod_bool hu h
      cases hx
      exact .cons (.bool _) .nil
    · rename_i k' k n hu
      cases hf
      obtain ⟨b', rfl, hx, _⟩ := DataW.trod_int hu h
      cases hx
      exact .cons (.int _ _) .nil
    · rename_i s hu
      cases hf
      obtain ⟨b', rfl, hx, _⟩ := DataW.trod_string hu h
      cases hx
      exact .cons (.str _) .nil
    · rename_i fs ds hu
      cases fuel with
      | zero => simp [DataW.trod] at h
      | succ fuel =>
        simp only [DataW.trod, hu] at h
        split at h
        · rename_i hl
          obtain ⟨xs, hm, hx⟩ := Option.map_eq_some_iff.1 h
          have hds : xs.map (·.1) = ds := by
            have := congrArg Prod.fst hx
            simpa using this
          have := flatF_ok (P := P) (E := E) (cs := cs) (tr := fun t c => DataW.trod enc P w base sp held fuel t c) hl (fun t d a c p h1 h2 => ih h1 h2) fs.toList 0 hf hm hds
          simpa using this
        · cases h
    · rename_i n e ds hu
      obtain ⟨hn, hf⟩ := bc_some hf
      obtain ⟨hc, hf⟩ := bc_some hf
      cases fuel with
      | zero => simp [DataW.trod] at h
      | succ fuel =>
        simp only [DataW.trod, hu] at h
        split at h
        · rename_i hl
          obtain ⟨xs, hm, hx⟩ := Option.map_eq_some_iff.1 h
          have hds : xs.map (·.1) = ds := by
            have := congrArg Prod.fst hx
            simpa using this
          have hn' : ds.length = n := by simpa using hn
          have hc' : n * P.cellsOf e = P.cellsOf t := by simpa using hc
          rw [List.range_eq_range', ← hn'] at hm
          have := flatA_ok (E := E) (cs := cs) (c := P.cellsOf e) (tr := fun c => DataW.trod enc P w base sp held fuel e c) (fun d a c p h1 h2 => ih h1 h2) ds 0 (by rw [hl, ← hc', ← hn']; simp) hf hm hds
          simpa using this
        · cases h
    · cases hf
end

/-- The variables that are laid, as cells. -/
noncomputable def tabsOf (P : Program) : List (String × DataW Unit) → List (Nat × List AV)
  | [] => []
  | (n, d) :: r => match P.globalNamed n with
    | some g => match (P.globals[g]?).map (·.type) with
      | some t => match flat P 6 t d with
        | some l => bi (Nat.blt g 64) ((g, l) :: tabsOf P r) (tabsOf P r)
        | none => tabsOf P r
      | none => tabsOf P r
    | none => tabsOf P r
noncomputable def initH : List (Nat × List AV) → T AObj
  | [] => .e
  | p :: r => (initH r).put p.1 (some (.tab p.2))
noncomputable def start0 (P : Program) (laid : List (String × DataW Unit)) (O : Orc) : St := ⟨64, initH (tabsOf P laid), 0, 0, O⟩
noncomputable def okT (r : R) : Bool := Option.rec (motive := fun _ => Bool) false (fun p => Prod.rec (motive := fun _ => Bool) (fun v _ => match v with
  | .bool b => b
  | _ => false) p) r
theorem okT_some {r : R} (h : okT r = true) : ∃ s, r = some (.bool true, s) := by
  cases r with
  | none => cases h
  | some p =>
    obtain ⟨v, s⟩ := p
    cases v <;> first | (cases h; done) | skip
    rename_i b
    have : b = true := h
    subst this
    exact ⟨s, rfl⟩

section
variable {P : Program} {w : World}
theorem tabsOf_ok (E : Env) : ∀ {laid : List (String × DataW Unit)} {ps : List MemPlace}, DataW.LaidVars P w laid ps → ∀ g l, (g, l) ∈ tabsOf P laid → g < 64 ∧ ∃ c e f, w.heap[g]? = some (.cells c e f) ∧ RelL E l c.toList := by
  intro laid
  induction laid with
  | nil => intro ps _ g l h; cases h
  | cons x r ih =>
    obtain ⟨n, d⟩ := x
    intro ps h g l hm
    obtain ⟨g0, t0, cs, fuel, p, q, hg, ht, hv, hd, hrest, _⟩ := h
    simp only [tabsOf, hg, ht] at hm
    split at hm
    · rename_i l0 hl
      have hcase : (g < 64 ∧ (g, l) = (g0, l0)) ∨ (g, l) ∈ tabsOf P r := by
        cases hb : Nat.blt g0 64 with
        | false => rw [hb, bi_false] at hm; exact .inr hm
        | true =>
          rw [hb, bi_true] at hm
          rcases List.mem_cons.1 hm with h1 | h1
          · cases h1; exact .inl ⟨by simpa using hb, rfl⟩
          · exact .inr h1
      rcases hcase with ⟨hlt, h1⟩ | h1
      · cases h1
        refine ⟨hlt, ?_⟩
        unfold World.var? at hv
        rw [hg, Option.bind_some] at hv
        split at hv
        · rename_i c e f hh
          cases hv
          exact ⟨_, e, f, hh, trod_flat 6 hl hd⟩
        · cases hv
      · exact ih hrest g l h1
    · exact ih hrest g l hm
theorem initH_get {i : Nat} {o : AObj} : ∀ {l : List (Nat × List AV)}, (initH l).get i = some o → ∃ vs, (i, vs) ∈ l ∧ o = .tab vs := by
  intro l
  induction l with
  | nil => intro h; rw [show initH [] = T.e from rfl, T.get_e] at h; cases h
  | cons p r ih =>
    intro h
    rcases T.put_some h with ⟨rfl, h1⟩ | ⟨_, h1⟩
    · cases h1; exact ⟨p.2, by simp, rfl⟩
    · obtain ⟨vs, h2, h3⟩ := ih h1
      exact ⟨vs, by simp [h2], h3⟩
def env0 (ρ : Nat → Int) (l : List (Nat × List AV)) : Env := ⟨fun i => if i < 64 then (if l.any (fun p => p.1 == i) then .live i 0 else .dead) else .unborn, ρ, fun _ => Stamps.same, fun _ => default, fun _ => False, fun _ => none⟩
theorem env0_live {ρ : Nat → Int} {l : List (Nat × List AV)} {i b C : Nat} (h : env0 ρ l i = .live b C) : b = i ∧ i < 64 ∧ ∃ vs, (i, vs) ∈ l := by
  simp only [env0] at h
  split at h
  · rename_i hi
    split at h
    · rename_i ha
      cases h
      obtain ⟨p, hp, he⟩ := List.any_eq_true.1 ha
      have : p.1 = i := by simpa using he
      subst this
      exact ⟨rfl, hi, p.2, hp⟩
    · cases h
  · cases h
theorem sat0 {laid : List (String × DataW Unit)} (h : laidMet P laid w) {O : Orc} {ρ : Nat → Int} (ho : OrcOk O ρ) (hd : ∀ d ∈ O.defs, DefOk O.tabs ρ (fun _ => default) d := by intro d h; exact absurd h List.not_mem_nil) : Sat (fun _ => True) w.heap.size (env0 ρ (tabsOf P laid)) (start0 P laid O) w := by
  obtain ⟨ps, hl, _⟩ := h
  have ok := tabsOf_ok (env0 ρ (tabsOf P laid)) hl
  refine ⟨?_, ?_, Nat.le_refl _, ?_, ?_, ?_, ho, fun b hb => hb.elim, hd⟩
  · intro i j b C D _ hi hj
    have h1 := (env0_live hi).1
    have h2 := (env0_live hj).1
    omega
  · intro i b C hi
    obtain ⟨rfl, _, vs, hm⟩ := env0_live hi
    obtain ⟨_, c, e, f, hh, _⟩ := ok _ _ hm
    exact (Array.getElem?_eq_some_iff.1 hh).1
  · intro g hg
    simp only [env0]
    rw [if_pos hg]
    split
    · rfl
    · trivial
  · intro i hi _
    have hi' : 64 ≤ i := hi
    simp only [env0]
    rw [if_neg (by omega)]
  · intro i o _ hg
    obtain ⟨vs, hm, rfl⟩ := initH_get hg
    obtain ⟨hlt, c, e, f, hh, hr⟩ := ok _ _ hm
    refine ⟨i, 0, _, ?_, hh, ⟨c, e, f, rfl, hr⟩, .inl rfl⟩
    simp only [env0]
    rw [if_pos hlt, if_pos]
    exact List.any_eq_true.2 ⟨(i, vs), hm, by simp⟩
/-- A call without arguments, that the evaluator shows to answer true. -/
theorem closed_true [IsProg P] {laid : List (String × DataW Unit)} (hmix : P.follows .mixedOrders = true) (hnames : (P.funcs.toList.all fun fn => fn.name != "runtime.NumGoroutine") = true) {n : Nat} {f : FuncId}
    (hrun : okT ((ev P (fun _ => none) n).call f [] (start0 P laid noOrc)) = true) (h : laidMet P laid w) : Calls P f #[] w fun e w' => e = .returned (.bool true) ∧ Below w.heap.size w w' := by
  obtain ⟨s', hs'⟩ := okT_some hrun
  have hn : ∀ (f : FuncId) (fn : Func), P.funcs[f]? = some fn → fn.name ≠ "runtime.NumGoroutine" := by
    intro f fn hf
    have := List.all_eq_true.1 hnames fn (by
      rw [← Array.getElem?_toList] at hf
      exact List.mem_of_getElem? hf)
    simpa using this
  refine (ev_call hmix (fun f g hg => by cases hg) hn hs' (sat0 h (noOrc_ok fun _ => 0)) (args' := #[]) .nil).mono ?_
  rintro e w' ⟨E', v', rfl, hv, _, hx⟩
  cases hv
  exact ⟨rfl, hx.below⟩
end
end Ev
end Go.Proofs.YtnjpdipombnigaaGreatDoor
