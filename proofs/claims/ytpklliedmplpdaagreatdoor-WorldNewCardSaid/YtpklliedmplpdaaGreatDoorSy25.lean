/-
  The evaluator: calls, rounds, the whole.
-/
import Derived.Test.YtpklliedmplpdaaGreatDoorSy24
namespace Go.Proofs.YtpklliedmplpdaaGreatDoor
namespace Ev
open Go.RowKit

def readVar (tmps : Array Value) : ResultVar → Sem Value
  | .tmp t => pure (tmps.getD t undef)
  | .cell a t => do loadVar t (← asAddr (tmps.getD a undef))
theorem results_eq (fn : Func) (tmps : Array Value) : results fn tmps = (do let vs ← fn.results.mapM (readVar tmps); pure (if h : vs.size = 1 then vs[0] else .tuple vs)) := by
  unfold results
  have : (fun | .tmp t => pure (tmps.getD t undef) | .cell a t => do loadVar t (← asAddr (tmps.getD a undef)) : ResultVar → Sem Value) = readVar tmps := by
    funext x; cases x <;> rfl
  rw [← this]
  rfl

section
variable {P : Program} {r : Rec} {n : Nat}

theorem resultsA_ok {a : T AV} : ∀ (l : List ResultVar) {s s' : St} {vs : List AV}, resultsA P a l s = some (vs, s') →
    Step s s' ∧ ∀ {G : Nat → Prop} {B : Nat} {E : Env} {w : World} {nt : Nat} {tmps : Array Value}, (∀ j, In s'.l j → G j) → Sat G B E s w → TRel E nt a tmps → ∃ vs' : List Value, (l.mapM (readVar tmps)).run P w = .ok vs' w ∧ RelL E vs vs' ∧ Sat G B E s' w := by
  intro l
  induction l with
  | nil => intro s s' vs h; cases h; exact ⟨Step.refl _, fun hG hs ht => ⟨[], by simp [List.mapM_nil], .nil, hs⟩⟩
  | cons x l ih =>
    intro s s' vs h
    cases x with
    | tmp t =>
      simp only [resultsA] at h
      split at h
      · rename_i v l1 s1 hv hl
        cases h
        obtain ⟨q1, q2⟩ := ih hl
        refine ⟨q1, fun hG hs ht => ?_⟩
        obtain ⟨vs', h1, h2, h3⟩ := q2 hG hs ht
        obtain ⟨y, hy, hr⟩ := ht.2 t v hv
        exact ⟨y :: vs', by simp [List.mapM_cons, readVar, hy, h1], .cons hr h2, h3⟩
      · cases h
    | cell t ty =>
      simp only [resultsA] at h
      split at h
      · rename_i i off ht
        split at h
        · rename_i v s1 hv
          split at h
          · rename_i l1 s2 hl
            cases h
            obtain ⟨rfl, p2⟩ := loadVarA_ok hv
            obtain ⟨q1, q2⟩ := ih hl
            refine ⟨(Step.see _ _).trans q1, fun {G B E w nt tmps} hG hs htr => ?_⟩
            obtain ⟨y, hy, hr⟩ := htr.2 t _ ht
            cases hr
            rename_i b hb
            obtain ⟨v', h1, h2⟩ := p2 (hG _ (q1.l _ (in_see _ _))) hs hb
            obtain ⟨vs', h3, h4, h5⟩ := q2 hG (hs.seen i) htr
            exact ⟨v' :: vs', by simp [List.mapM_cons, readVar, hy, h1, h3, asAddr], .cons h2 h4, h5⟩
          · cases h
        · cases h
      · cases h
theorem tupA_ok {E : Env} {l : List AV} {a : Array Value} (h : RelL E l a.toList) : Rel E (tupA l) (if h : a.size = 1 then a[0] else .tuple a) := by
  obtain ⟨m⟩ := a
  cases h with
  | nil => exact .tuple .nil
  | cons h1 t =>
    cases t with
    | nil => exact h1
    | cons h2 t => exact .tuple (.cons h1 (.cons h2 t))
theorem takeA_ok : ∀ (m : List Nat) {s s' : St}, takeA m s = some s' → Step s s' ∧ ∀ {G : Nat → Prop} {B : Nat} {E : Env} {w : World} {ds : List Deferred} {fn : Func} {tmps : Array Value} {R : Ending → World → Prop}, (∀ j, In s'.l j → G j) → Sat G B E s w → RelM E m ds →
    (∀ w', Sat G B E s' w' → Ext B s'.w E E w w' → LeavesIn Fence.wide 0 P fn tmps R [] .returning w') → LeavesInM Fence.wide 0 P fn tmps R ds .returning w := by
  intro m
  induction m with
  | nil => intro s s' h; cases h; exact ⟨Step.refl _, fun hG hs hm hR => by cases hm; exact hR _ hs (Ext.refl _ _ _ _)⟩
  | cons d m ih =>
    intro s s' h
    simp only [takeA] at h
    split at h
    · rename_i hd
      obtain ⟨q1, q2⟩ := ih h
      refine ⟨(Step.set _ _ _).trans q1, fun {G B E w ds fn tmps R} hG hs hm hR => ?_⟩
      cases hm
      rename_i b ds hb hm
      have hg : G d := hG _ (q1.l _ (in_set _ _ _))
      obtain ⟨b', C, ob, he, hh, hok, _⟩ := hs.fact d _ hg hd
      obtain rfl := hs.at_live he hb
      have hob : ob = .deferred (some []) := hok
      subst hob
      obtain ⟨k1, k2⟩ := hs.write (o' := .defd false) (ob' := .deferred none) hg hd rfl he rfl
      refine ⟨by simp, .inl ⟨b, _, rfl, run_takeDeferred hh, ?_⟩⟩
      exact q2 hG k1 hm fun w' hs' hx' => hR w' hs' (k2.trans hx' q1.w)
    · cases h
theorem finB_ok {fn : Func} {fr : Fr} {s1 s' : St} {v : AV} (h : finB P fn fr s1 = some (v, s')) :
    Step s1 s' ∧ ∀ {G : Nat → Prop} {B : Nat} {E : Env} {w : World} {nt : Nat} {ac : Act} {R : Ending → World → Prop}, (∀ j, In s'.l j → G j) → Sat G B E s1 w → FRel E nt fr ac →
      (∀ v' w', Rel E v v' → Sat G B E s' w' → Ext B s'.w E E w w' → R (.returned v') w') → LeavesInM Fence.wide 0 P fn ac.tmps R ac.defers .returning w := by
  obtain ⟨s2, h1, h2⟩ := oc_some h
  obtain ⟨l, s3, h3, h4⟩ := oc2_some h2
  cases h4
  obtain ⟨p1, p2⟩ := takeA_ok (P := P) _ h1
  obtain ⟨q1, q2⟩ := resultsA_ok _ h3
  refine ⟨p1.trans q1, fun {G B E w nt ac R} hG hs hf hR => ?_⟩
  refine p2 (fun j hj => hG j (q1.l j hj)) hs hf.2 fun w' hs' hx' => ?_
  obtain ⟨vs', h5, h6, h7⟩ := q2 hG hs' hf.1
  refine ⟨_, ?_, hR (if h : vs'.toArray.size = 1 then vs'.toArray[0] else .tuple vs'.toArray) w' (tupA_ok (by simpa using h6)) h7 (hx'.more q1.w)⟩
  rw [results_eq, Array.mapM_eq_mapM_toList]
  simp only [Sem.run_bind, map_eq_pure_bind, bind_assoc, h5, Result.andThen_ok, pure_bind, Sem.run_pure]

theorem argsA_get : ∀ (l : List AV) (i : Nat) (a : T AV) {t : Nat} {v : AV}, (argsA i l a).get t = some v → (∃ k, t = i + k ∧ l[k]? = some v) ∨ a.get t = some v := by
  intro l
  induction l with
  | nil => intro i a t v h; exact .inr h
  | cons x l ih =>
    intro i a t v h
    rcases ih (i + 1) _ h with ⟨k, rfl, hk⟩ | h
    · exact .inl ⟨k + 1, by omega, by simpa using hk⟩
    · rcases T.put_some h with ⟨rfl, h1⟩ | ⟨_, h1⟩
      · exact .inl ⟨0, rfl, by simpa using h1⟩
      · exact .inr h1
theorem args_rel {E : Env} {args : List AV} {args' : Array Value} (h : RelL E args args'.toList) {nt : Nat} (hle : args.length ≤ nt) : TRel E nt (argsA 0 args .e) (args' ++ Array.replicate (nt - args'.size) undef) := by
  have hl : args.length = args'.size := by simpa using h.length
  refine ⟨by simp; omega, fun t v ht => ?_⟩
  rcases argsA_get args 0 .e ht with ⟨k, rfl, hk⟩ | h'
  · obtain ⟨v', h1, h2⟩ := h.nth hk
    rw [Array.getElem?_toList] at h1
    refine ⟨v', ?_, h2⟩
    have hlt : k < args'.size := (Array.getElem?_eq_some_iff.1 h1).1
    rw [Nat.zero_add, Array.getElem?_append_left hlt]; exact h1
  · rw [T.get_e] at h'; cases h'
theorem evBody_ok (hr : RecOk P n r) {f : FuncId} {fn : Func} {c : Code} (hf : P.funcs[f]? = some fn) (hb : fn.body = some c) (hname : fn.name ≠ "runtime.NumGoroutine") {args : List AV} {s s' : St} {v : AV} (h : evBody P r fn c args s = some (v, s')) :
    Step s s' ∧ ∀ {G : Nat → Prop} {B : Nat} {E : Env} {w : World} {args' : Array Value}, (∀ j, In s'.l j → G j) → Sat G B E s w → RelL E args args'.toList → CallRes P f args' w (RetOk G B s' v E w) := by
  obtain ⟨hle, h1⟩ := bc_some h
  obtain ⟨e, y, h2, h3⟩ := oc2_some h1
  obtain ⟨fr1, s1⟩ := y
  obtain ⟨p1, p2⟩ := hr.code h2
  have hfin : finB P fn fr1 s1 = some (v, s') ∧ (e = .normal ∨ e = .ret) := by
    cases e with
    | exit id => cases h3
    | normal => exact ⟨h3, .inl rfl⟩
    | ret => exact ⟨h3, .inr rfl⟩
  obtain ⟨hfin, he⟩ := hfin
  obtain ⟨q1, q2⟩ := finB_ok hfin
  refine ⟨p1.trans q1, fun {G B E w args'} hG hs ha => ⟨?_, ?_⟩⟩
  · simp [callFunc, run_program, hf, hname, hb]
  · refine callsIn_of_wp_marks hf hb trivial ?_
    have hle' : args.length ≤ fn.ntmps := by simpa using hle
    refine (p2 (rb := none) (fun j hj => hG j (q1.l j hj)) hs ⟨args_rel ha hle', .nil⟩ rfl fun E1 ac1 w1 hf1 hs1 hx1 => ?_).1
    have hl := q2 (R := RetOk G B s' v E w) hG hs1 hf1 fun v' w' hv hs' hx' => ⟨E1, v', rfl, hv, hs', hx1.trans hx' q1.w⟩
    rcases he with rfl | rfl
    · exact hl
    · exact hl
def CtrOk (P : Program) (ctr : Ctr) : Prop := ∀ f g, ctr f = some g → ∀ {args : List AV} {s : St} {v : AV} {s' : St}, g args s = some (v, s') → Step s s' ∧ ∀ {G : Nat → Prop} {B : Nat} {E : Env} {w : World} {args' : Array Value}, (∀ j, In s'.l j → G j) → Sat G B E s w → RelL E args args'.toList →
    CallRes P f args' w (RetOk G B s' v E w)
theorem evCall_ok {ctr : Ctr} (hctr : CtrOk P ctr) (hnames : ∀ (f : FuncId) (fn : Func), P.funcs[f]? = some fn → fn.name ≠ "runtime.NumGoroutine") (hr : RecOk P n r) : CallOk P (evCall P ctr r) := by
  intro f args s v s' h
  unfold evCall at h
  unfold callS at h
  split at h
  · rename_i g hg
    exact hctr f g hg h
  · split at h
    · rename_i fn hfn
      split at h
      · rename_i c hc
        exact evBody_ok hr hfn hc (hnames f fn hfn) h
      · cases h
    · cases h

theorem paramsA_ok {E : Env} {nt : Nat} : ∀ (ps : List Tmp) {args : List AV} {args' : List Value} {a a0 : T AV} {tmps : Array Value}, paramsA nt ps args a = some a0 → RelL E args args' → TRel E nt a tmps →
    args'.length = ps.length ∧ TRel E nt a0 ((ps.zip args').foldl (fun (tmps : Array Value) (p : Tmp × Value) => tmps.setIfInBounds p.1 p.2) tmps) := by
  intro ps
  induction ps with
  | nil =>
    intro args args' a a0 tmps h hr ht
    cases args with
    | nil => cases h; cases hr; exact ⟨rfl, ht⟩
    | cons x l => cases h
  | cons t ps ih =>
    intro args args' a a0 tmps h hr ht
    cases args with
    | nil => cases h
    | cons x l =>
      simp only [paramsA] at h
      split at h
      · rename_i hlt
        cases hr
        rename_i y m hx hr
        have ht' : TRel E nt (a.put t (some x)) (tmps.setIfInBounds t y) :=
          TRel.put (ac := { tmps := tmps, defers := [] }) (d := some t) ht (fun t' h' => by cases h'; simpa using hlt) hx
        obtain ⟨h1, h2⟩ := ih h hr ht'
        exact ⟨by simp [h1], h2⟩
      · cases h
theorem roundC_some {x : C} {k : AX → Fr → St → R} {y : AV × St} (h : roundC x k = some y) : ∃ e fr s, x = some (e, fr, s) ∧ k e fr s = some y := by
  obtain ⟨e, p, h1, h2⟩ := oc2_some h
  exact ⟨e, p.1, p.2, h1, h2⟩
theorem evYield_ok (hr : RecOk P n r) : YieldOk P (evYield r) := by
  intro l args s v s' h
  obtain ⟨o, ho, h1⟩ := oc_some h
  obtain ⟨st, pend, nt, a, ps, assign, body, d, rfl, h2⟩ := loopC_some h1
  obtain ⟨a0, ha0, h3⟩ := oc_some h2
  obtain ⟨e1, fr1, s1, h4, h5⟩ := roundC_some h3
  clear h h1 h2 h3
  cases e1 <;> first | (cases h5; done) | skip
  obtain ⟨o1, ho1, h6⟩ := oc_some h5
  obtain ⟨st1, pend1, nt1, a1, ps1, as1, bo1, d1, rfl, h7⟩ := loopC_some h6
  obtain ⟨hready, h8⟩ := bc_some h7
  obtain ⟨e2, fr2, s3, h9, h10⟩ := roundC_some h8
  obtain ⟨o3, ho3, h11⟩ := oc_some h10
  obtain ⟨st3, pend3, nt3, a3, ps3, as3, bo3, d3, rfl, h12⟩ := loopC_some h11
  clear h5 h6 h7 h8 h10 h11
  have hst1 : st1 = .ready := by cases st1 <;> simp_all [isReady]
  subst hst1
  obtain ⟨p1, p2⟩ := hr.code h4
  obtain ⟨q1, q2⟩ := hr.code h9
  -- the round's end
  have hend : ∃ (jump : Option Code) (st' : LoopState), v = .bool jump.isNone ∧ s' = s3.set l (some (.loop st' jump nt3 a3 ps3 as3 bo3 d3)) ∧ st' = (if jump.isNone then .ready else .done) ∧ (e2 = .normal ∧ jump = none ∨ e2 = .ret ∧ jump = some .ret ∨ ∃ id, e2 = .exit id ∧ jump = some (.exit id)) := by
    cases e2 with
    | normal => cases h12; exact ⟨none, _, rfl, rfl, rfl, .inl ⟨rfl, rfl⟩⟩
    | ret => cases h12; exact ⟨some .ret, _, rfl, rfl, rfl, .inr (.inl ⟨rfl, rfl⟩)⟩
    | exit id => cases h12; exact ⟨some (.exit id), _, rfl, rfl, rfl, .inr (.inr ⟨id, rfl, rfl⟩)⟩
  obtain ⟨jump, st', rfl, rfl, hst', hej⟩ := hend
  clear h12
  refine ⟨(((Step.see _ _).trans p1).trans ((Step.set _ _ _).trans q1)).trans (Step.set _ _ _), fun {G B E w args' b} hG hs ha hb => ?_⟩
  have hG3 : ∀ j, In s3.l j → G j := fun j hj => hG j ((Step.set s3 l _).l j hj)
  have hG1 : ∀ j, In s1.l j → G j := fun j hj => hG3 j (q1.l j ((Step.set s1 l _).l j hj))
  have hgl : G l := hG l (in_set _ _ _)
  obtain ⟨C, rl, he, hh, hrst, hrpd, hrps, hras, hrbo, htm, hde⟩ := hs.loop hgl ho hb
  obtain ⟨hlen, htr⟩ := paramsA_ok ps ha0 ha htm
  have hsz : args'.size = rl.params.size := by
    rw [← hrps] at hlen
    simpa using hlen
  refine ⟨_, _, _, _, run_yield hh hsz, roundIn_of_wpIn trivial ?_⟩
  have hzip : (rl.params.zip args').foldl (fun tmps (t, a) => tmps.setIfInBounds t a) rl.tmps = (ps.zip args'.toList).foldl (fun (tmps : Array Value) (p : Tmp × Value) => tmps.setIfInBounds p.1 p.2) rl.tmps := by
    rw [← hrps, ← Array.foldl_toList, Array.toList_zip]
  rw [hzip, hras, hrbo]
  refine (p2 (rb := some b) hG1 (hs.seen l) ⟨htr, .nil⟩ ⟨b, rfl, hb⟩ fun E1 ac1 w1 hf1 hs1 hx1 => ?_).1
  obtain ⟨C1, rl1, he1, hh1, hrst1, hrpd1, hrps1, hras1, hrbo1, htm1, hde1⟩ := hs1.loop hgl ho1 (Slot.at_le (hx1.le l) hb)
  refine ⟨_, run_beginRound hh1 hrst1, ?_⟩
  obtain ⟨k1, k2⟩ := hs1.write (o' := .loop .busy pend1 nt1 a1 ps1 as1 bo1 d1) (ob' := .loop { rl1 with state := .busy }) hgl ho1 rfl he1 ⟨_, rfl, rfl, hrpd1, hrps1, hras1, hrbo1, htm1, hde1⟩
  refine (q2 (rb := some b) hG3 k1 (hf1.mono k2.le) ⟨b, rfl, Slot.at_le (hx1.le l) hb⟩ fun E3 ac3 w3 hf3 hs3 hx3 => ?_).1
  obtain ⟨C3, rl3, he3, hh3, hrst3, hrpd3, hrps3, hras3, hrbo3, htm3, hde3⟩ := hs3.loop hgl ho3 (Slot.at_le (hx3.le l) (Slot.at_le (hx1.le l) hb))
  obtain ⟨m1, m2⟩ := hs3.write (o' := .loop st' jump nt3 a3 ps3 as3 bo3 d3) (ob' := .loop { rl3 with state := if jump.isNone then .ready else .done, pending := jump }) hgl ho3 rfl he3 ⟨_, rfl, hst'.symm, rfl, hrps3, hras3, hrbo3, htm3, hde3⟩
  have hret : RetOk G B (s3.set l (some (.loop st' jump nt3 a3 ps3 as3 bo3 d3))) (.bool jump.isNone) E w (.returned (.bool jump.isNone)) (w3.putObj b (.loop { rl3 with state := if jump.isNone then .ready else .done, pending := jump })) := by
    refine ⟨E3, _, rfl, .bool _, m1, ?_⟩
    have x1 := hx1.trans k2 (Step.set s1 l _).w
    have x2 := x1.trans hx3 q1.w
    exact x2.trans m2 (Step.set s3 l _).w
  rcases hej with ⟨rfl, rfl⟩ | ⟨rfl, rfl⟩ | ⟨id, rfl, rfl⟩
  · exact ⟨_, _, run_endRound _ hh3, hret⟩
  · exact ⟨_, _, run_endRound _ hh3, hret⟩
  · exact ⟨_, _, run_endRound _ hh3, hret⟩

theorem ev_ok {ctr : Ctr} (hmix : P.follows .mixedOrders = true) (hctr : CtrOk P ctr) (hnames : ∀ (f : FuncId) (fn : Func), P.funcs[f]? = some fn → fn.name ≠ "runtime.NumGoroutine") : ∀ n, RecOk P n (ev P ctr n) := by
  intro n
  induction n with
  | zero =>
    refine ⟨?_, ?_, ?_⟩
    · intro f args s v s' h; cases h
    · intro l args s v s' h; cases h
    · intro nt ro c fr s e fr' s' h; cases h
  | succ n ih => exact ⟨evCall_ok hctr hnames ih, evYield_ok ih, fun h => evCode_ok hmix ih h⟩
/-- A call, by the evaluator. -/
theorem ev_call {ctr : Ctr} (hmix : P.follows .mixedOrders = true) (hctr : CtrOk P ctr) (hnames : ∀ (f : FuncId) (fn : Func), P.funcs[f]? = some fn → fn.name ≠ "runtime.NumGoroutine") {n : Nat} {f : FuncId} {args : List AV} {s s' : St} {v : AV} (h : (ev P ctr n).call f args s = some (v, s'))
    {B : Nat} {E : Env} {w : World} {args' : Array Value} (hs : Sat (fun _ => True) B E s w) (ha : RelL E args args'.toList) : Calls P f args' w (RetOk (fun _ => True) B s' v E w) :=
  callsIn_wide.1 (((ev_ok hmix hctr hnames n).call h).2 (fun _ _ => trivial) hs ha).2
end
end Ev
end Go.Proofs.YtpklliedmplpdaaGreatDoor
