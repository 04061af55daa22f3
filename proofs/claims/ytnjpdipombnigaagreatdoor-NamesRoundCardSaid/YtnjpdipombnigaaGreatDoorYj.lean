/-
  The evaluator: code, calls, rounds.
  The evaluator: code, whole.
  The evaluator: many ways that are told as one.
-/
import Derived.Test.YtnjpdipombnigaaGreatDoorYi
import Derived.Scope
import Derived.LoopNIn
import Derived.RangeFuncNested
namespace Go.Proofs.YtnjpdipombnigaaGreatDoor
namespace Ev
open Go.RowKit

/-- The marks of ranges over functions. -/
inductive RelM (E : Env) : List Nat → List Deferred → Prop
  | nil : RelM E [] []
  | cons {d b : Nat} {m : List Nat} {ds : List Deferred} (h : (E d).at b) (t : RelM E m ds) : RelM E (d :: m) ({ target := .collected b, args := #[] } :: ds)
theorem RelM.mono {E E' : Env} (h : E.le E') : ∀ {m : List Nat} {ds : List Deferred}, RelM E m ds → RelM E' m ds
  | _, _, .nil => .nil
  | _, _, .cons k t => .cons (Slot.at_le (h _) k) (t.mono h)
def FRel (E : Env) (nt : Nat) (fr : Fr) (ac : Act) : Prop := TRel E nt fr.a ac.tmps ∧ RelM E fr.m ac.defers
theorem FRel.mono {E E' : Env} (h : E.le E') {nt : Nat} {fr : Fr} {ac : Act} (k : FRel E nt fr ac) : FRel E' nt fr ac := ⟨k.1.mono h, k.2.mono h⟩
def AX.out : AX → Exit
  | .normal => .normal
  | .exit id => .exit id
  | .ret => .ret
/-- In the round of a loop, or of none. -/
def RoRel (E : Env) : Option Nat → Option Nat → Prop
  | none, rb => rb = none
  | some l, rb => ∃ b, rb = some b ∧ (E l).at b
theorem RoRel.mono {E E' : Env} (h : E.le E') {ro rb : Option Nat} (k : RoRel E ro rb) : RoRel E' ro rb := by
  cases ro with
  | none => exact k
  | some l => obtain ⟨b, h1, h2⟩ := k; exact ⟨b, h1, Slot.at_le (h l) h2⟩

/-- Whatever way it goes, it is one of these. -/
def CodeOk1 (P : Program) (n nt : Nat) (ro : Option Nat) (c : Code) (fr : Fr) (s : St) (L : List Alt) : Prop :=
  L ≠ [] ∧ (∀ a ∈ L, Step s a.2.2) ∧ ∀ {G : Nat → Prop} {B : Nat} {E : Env} {w : World} {ac : Act} {rb : Option Nat}, (∀ a ∈ L, ∀ j, In a.2.2.l j → G j) → Sat G B E s w → FRel E nt fr ac → RoRel E ro rb → ∀ {Q : Exit → Act → World → Prop},
    (∀ a ∈ L, ∀ E' ac' w', FRel E' nt a.2.1 ac' → Sat G B E' a.2.2 w' → Ext B a.2.2.w E E' w w' → Q a.1.out ac' w') → c.wpIn (fen rb) 0 P Q ac w ∧ ∀ x, c = .loop x → Code.roundsIn (fen rb) 0 P x Q n ac w
def CodeOk (P : Program) (n : Nat) (code : Nat → Option Nat → Code → Fr → St → C) : Prop :=
  ∀ {nt : Nat} {ro : Option Nat} {c : Code} {fr : Fr} {s : St} {L : List Alt}, code nt ro c fr s = some L → CodeOk1 P n nt ro c fr s L
structure RecOk (P : Program) (n : Nat) (r : Rec) : Prop where
  call : CallOk P r.call
  yld : YieldOk P r.yld
  code : CodeOk P n r.code

section
variable {P : Program} {r : Rec} {n nt : Nat} {ro : Option Nat} {fr fr' : Fr} {s s' : St} {e : AX}

theorem flatC_nil {k : AX → Fr → St → C} : flatC k [] = some [] := rfl
theorem flatC_cons {k : AX → Fr → St → C} (a : Alt) (l : List Alt) : flatC k (a :: l) = oc (k a.1 a.2.1 a.2.2) fun x => oc (flatC k l) fun y => some (x ++ y) := rfl
theorem flatC_some {k : AX → Fr → St → C} : ∀ {l L : List Alt}, flatC k l = some L → (∀ a ∈ l, ∃ La, k a.1 a.2.1 a.2.2 = some La ∧ ∀ b ∈ La, b ∈ L) ∧ ∀ b ∈ L, ∃ a ∈ l, ∃ La, k a.1 a.2.1 a.2.2 = some La ∧ b ∈ La
  | [], L, h => by cases h; exact ⟨fun a h => (by cases h), fun a h => (by cases h)⟩
  | a :: l, L, h => by
    rw [flatC_cons] at h
    obtain ⟨x, h1, h2⟩ := oc_some h
    obtain ⟨y, h3, h4⟩ := oc_some h2
    cases h4
    obtain ⟨p1, p2⟩ := flatC_some h3
    refine ⟨fun b hb => ?_, fun b hb => ?_⟩
    · rcases List.mem_cons.1 hb with rfl | hb
      · exact ⟨x, h1, fun c hc => List.mem_append_left _ hc⟩
      · obtain ⟨La, q1, q2⟩ := p1 b hb
        exact ⟨La, q1, fun c hc => List.mem_append_right _ (q2 c hc)⟩
    · rcases List.mem_append.1 hb with hb | hb
      · exact ⟨a, List.mem_cons_self .., x, h1, hb⟩
      · obtain ⟨a', q1, q2⟩ := p2 b hb
        exact ⟨a', List.mem_cons_of_mem _ q1, q2⟩
theorem loneC_lone {β : Type} (a : Alt) (k : AX → Fr → St → β) (d : β) : loneC [a] k d = k a.1 a.2.1 a.2.2 := rfl
theorem loneC_many {β : Type} (a b : Alt) (l : List Alt) (k : AX → Fr → St → β) (d : β) : loneC (a :: b :: l) k d = d := rfl
theorem cc_some {x : C} {k : AX → Fr → St → C} {L : List Alt} (h : cc x k = some L) : ∃ l, x = some l ∧ flatC k l = some L := by
  obtain ⟨l, h1, h2⟩ := oc_some h
  refine ⟨l, h1, ?_⟩
  match l, h2 with
  | [], h2 => exact h2
  | [a], h2 =>
    rw [loneC_lone] at h2
    rw [flatC_cons, h2, flatC_nil]
    simp [oc]
  | a :: b :: l, h2 => exact h2
theorem stepR_scope' {b : Frame} {a : Act} {k : List Item} {cs : List Frame} {w : World} {c : Code} : step P (lone (b.atR a (.code (.scope c) :: k)) cs w) = .next (lone (b.atR a (.code c :: .inScope c :: k)) cs w) :=
  step_lone_go (by simp [stepG, stepG.exec, Frame.atR])
theorem stepR_inScope' {b : Frame} {a : Act} {k : List Item} {cs : List Frame} {w : World} {c : Code} : step P (lone (b.atR a (.inScope c :: k)) cs w) = .next (lone (b.atR a k) cs w) :=
  step_lone_go (by simp [stepG, stepG.exec, Frame.atR])
theorem wpIn_scope' {F : Fence} {n : Nat} {c : Code} {Q : Exit → Act → World → Prop} {a : Act} {w : World} (h : c.wpIn F n P (Exit.noGoto Q) a w) : (Code.scope c).wpIn F n P Q a w := by
  intro b k cs hro hb hr
  have h0 : (lone (b.atR a (.code (.scope c) :: k)) cs w).fenced P F := fenced_calm hb hr rfl
  obtain ⟨e, a₁, w₁, hq, harr⟩ := h b (.inScope c :: k) cs hro hb hr
  cases e with
  | normal => exact ⟨.normal, a₁, w₁, hq, .head h0 stepR_scope' (StepsIn.trans harr (.one (fenced_calm hb hr rfl) stepR_inScope'))⟩
  | exit id =>
    have hx : exitTo id (.inScope c :: k) = exitTo id k := by simp [exitTo]
    exact ⟨.exit id, a₁, w₁, hq, fun k' hk => .head h0 stepR_scope' (harr.1 k' (by rw [hx]; exact hk)), fun hr' hk => let ⟨k₁, h1, h2⟩ := harr.2 hr' (by rw [hx]; exact hk); ⟨k₁, h1, .head h0 stepR_scope' h2⟩⟩
  | goto l => exact hq.elim
  | ret => exact ⟨_, a₁, w₁, hq, .of_steps (.one h0 stepR_scope') harr⟩
  | panic ch => exact ⟨_, a₁, w₁, hq, .of_steps (.one h0 stepR_scope') harr⟩
  | outgrown => exact ⟨_, a₁, w₁, hq, .of_steps (.one h0 stepR_scope') harr⟩
theorem loopC_some {β : Type} {o : AObj} {k : LoopState → Option Code → Nat → T AV → List Tmp → Code → Code → Nat → Option β} {y : β} (h : loopC o k = some y) : ∃ st pend nt a ps asg bo d, o = .loop st pend nt a ps asg bo d ∧ k st pend nt a ps asg bo d = some y := by
  cases o <;> first | (cases h; done) | exact ⟨_, _, _, _, _, _, _, _, rfl, h⟩
theorem funC_some {β : Type} {v : AV} {k : FuncId → List AV → List AV → Option β} {y : β} (h : funC v k = some y) : ∃ f p q, v = .func f p q ∧ k f p q = some y := by
  cases v <;> first | (cases h; done) | exact ⟨_, _, _, rfl, h⟩
theorem Sat.loop {G : Nat → Prop} {B : Nat} {E : Env} {w : World} (h : Sat G B E s w) {l b : Nat} {st : LoopState} {pend : Option Code} {ntl : Nat} {a : T AV} {ps : List Tmp} {asg bo : Code} {d : Nat} (hg : G l) (ho : s.h.get l = some (.loop st pend ntl a ps asg bo d)) (hb : (E l).at b) :
    ∃ C rl, E l = .live b C ∧ w.heap[b]? = some (.loop rl) ∧ rl.state = st ∧ rl.pending = pend ∧ rl.params.toList = ps ∧ rl.assign = asg ∧ rl.body = bo ∧ TRel E ntl a rl.tmps ∧ (E d).at rl.defers := by
  obtain ⟨b', C, ob, he, hh, hok, _⟩ := h.fact l _ hg ho
  obtain ⟨rl, rfl, q⟩ := hok
  obtain rfl := h.at_live he hb
  exact ⟨C, rl, he, hh, q⟩
theorem Env.live_le {E E' : Env} (h : E.le E') {i b C b' C' : Nat} (h1 : E i = .live b C) (h2 : E' i = .live b' C') : b' = b := by
  have := h i
  rw [h1, h2] at this
  exact this.1.symm

/-- The call of the function that is ranged over, and what is behind it. -/
theorem rangeGo_one {f : FuncId} {p q : List AV} {l : Nat} {m : List Nat} {s2 : St} {L : List Alt} (h : rangeGo r fr f p q l m s2 = some L) : ∃ e fr' s', L = [(e, fr', s')] := by
  obtain ⟨v, s3, hcall, h1⟩ := oc2_some h
  obtain ⟨o, ho, h2⟩ := oc_some h1
  obtain ⟨st, pend, ntl, a', ps', asg', bo', d', rfl, h3⟩ := loopC_some h2
  obtain ⟨hnb, h4⟩ := bc_some h3
  unfold pendC one at h4
  split at h4 <;> first | (cases h4; exact ⟨_, _, _, rfl⟩) | cases h4
theorem rangeGo_ok (hr : RecOk P n r) {f : FuncId} {p q : List AV} {l : Nat} {m : List Nat} {s2 : St} (h : rangeGo r fr f p q l m s2 = some [(e, fr', s')]) :
    Step s2 s' ∧ fr' = ⟨fr.a, m⟩ ∧ ∀ {G : Nat → Prop} {B : Nat} {E : Env} {w : World} {b C : Nat} {p' q' : Array Value} {rb : Option Nat}, (∀ j, In s'.l j → G j) → Sat G B E s2 w → E l = .live b C → RelL E p p'.toList → RelL E q q'.toList →
      (callFunc f (p' ++ #[.func (.yield b) #[] #[]] ++ q')).run P w = .ok (.enter f (p' ++ #[.func (.yield b) #[] #[]] ++ q')) w ∧
      ∀ {Q : Exit → Act → World → Prop} {ac' : Act}, (∀ E' w', Sat G B E' s' w' → Ext B s'.w E E' w w' → Q e.out ac' w') → CallsIn (fen rb) 0 P f (p' ++ #[.func (.yield b) #[] #[]] ++ q') w (rangePost (fen rb) 0 P b Q ac') := by
  obtain ⟨v, s3, hcall, h1⟩ := oc2_some h
  obtain ⟨o, ho, h2⟩ := oc_some h1
  obtain ⟨st, pend, ntl, a', ps', asg', bo', d', rfl, h3⟩ := loopC_some h2
  obtain ⟨hnb, h4⟩ := bc_some h3
  clear h h1 h2 h3
  obtain ⟨q1, q2⟩ := hr.call hcall
  have hfin : fr' = ⟨fr.a, m⟩ ∧ s' = s3.set l (some (.loop .exhausted pend ntl a' ps' asg' bo' d')) ∧ ((pend = none ∧ e = .normal) ∨ (pend = some .ret ∧ e = .ret) ∨ ∃ id, pend = some (.exit id) ∧ e = .exit id) := by
    unfold pendC one at h4
    split at h4
    · cases h4; exact ⟨rfl, rfl, .inl ⟨rfl, rfl⟩⟩
    · cases h4; exact ⟨rfl, rfl, .inr (.inl ⟨rfl, rfl⟩)⟩
    · cases h4; exact ⟨rfl, rfl, .inr (.inr ⟨_, rfl, rfl⟩)⟩
    · cases h4
  obtain ⟨rfl, rfl, hpe⟩ := hfin
  refine ⟨q1.trans (Step.set _ _ _), rfl, fun {G B E w b C p' q' rb} hG hs hl hp hq => ?_⟩
  have hG3 : ∀ j, In s3.l j → G j := fun j hj => hG j ((Step.set s3 l _).l j hj)
  have hgl : G l := hG l (in_set _ _ _)
  obtain ⟨hent, hcalls⟩ := q2 hG3 hs (args' := p' ++ #[.func (.yield b) #[] #[]] ++ q') (by
    simp only [Array.toList_append]
    exact (hp.append (.cons (.yield (by rw [hl]; rfl)) .nil)).append hq)
  refine ⟨hent, fun {Q ac'} hQ => ?_⟩
  have hcalls' : CallsIn (fen rb) 0 P f (p' ++ #[.func (.yield b) #[] #[]] ++ q') w _ := hcalls
  refine hcalls'.mono fun en w3 hen => ?_
  obtain ⟨E3, v', rfl, _, hs3, hx3⟩ := hen
  obtain ⟨b', C', ob, he3, hh3, hok3, _⟩ := hs3.fact l _ hgl ho
  obtain ⟨rl, rfl, hst, hpd, hok⟩ := hok3
  have hbb : b' = b := Env.live_le hx3.le hl he3
  subst hbb
  have hnb' : rl.state ≠ .busy := by
    rw [hst]; cases st <;> simp_all [notBusy]
  obtain ⟨k1, k2⟩ := hs3.write (o' := .loop .exhausted pend ntl a' ps' asg' bo' d') (ob' := .loop { rl with state := .exhausted }) hgl ho rfl he3 ⟨_, rfl, rfl, hpd, hok⟩
  have hq' := hQ E3 _ k1 (hx3.trans k2 (Step.set s3 l _).w)
  refine ⟨rl.pending, _, run_endLoop hh3 hnb', ?_⟩
  rw [hpd] at hq' ⊢
  rcases hpe with ⟨rfl, rfl⟩ | ⟨rfl, rfl⟩ | ⟨id, rfl, rfl⟩
  · exact hq'
  · exact wpIn_ret hq'
  · exact wpIn_exit hq'
end
end Ev
end Go.Proofs.YtnjpdipombnigaaGreatDoor
namespace Go.Proofs.YtnjpdipombnigaaGreatDoor
namespace Ev
open Go.RowKit

section
variable {P : Program} {r : Rec} {n nt : Nat} {ro : Option Nat} {fr fr' : Fr} {s s' : St} {e : AX}

theorem evRange_ok (hr : RecOk P n r) {g : Operand} {ps : Array Tmp} {assign body : Code} (h : evRange g ps.toList assign body r nt ro fr s = some [(e, fr', s')]) :
    Step s s' ∧ ∀ {G : Nat → Prop} {B : Nat} {E : Env} {w : World} {ac : Act} {rb : Option Nat}, (∀ j, In s'.l j → G j) → Sat G B E s w → FRel E nt fr ac → RoRel E ro rb → ∀ {Q : Exit → Act → World → Prop},
      (∀ E' ac' w', FRel E' nt fr' ac' → Sat G B E' s' w' → Ext B s'.w E E' w w' → Q e.out ac' w') → (Code.rangeFunc g ps assign body).wpIn (fen rb) 0 P Q ac w := by
  obtain ⟨gv, hgv, h1⟩ := oc_some h
  obtain ⟨f, p, q, rfl, h2⟩ := funC_some h1
  clear h h1
  have hres : ∀ {E : Env} {ac : Act} {w₁ : World} {b : Nat} {p' q' : Array Value}, ac.eval g = .func (.func f) p' q' → (resolve ac.eval (rangeCall g b) 0).run P w₁ = .ok { target := .fn (.func f) q', args := p' ++ #[.func (.yield b) #[] #[]] } w₁ := by
    intro E ac w₁ b p' q' hev
    simp [resolve, rangeCall, hev, Deferred.ofValue, show ac.eval (.const (.func (.yield b) #[] #[])) = .func (.yield b) #[] #[] from rfl]
  cases ro with
  | none =>
    obtain ⟨q1, rfl, q2⟩ := rangeGo_ok hr h2
    refine ⟨((Step.new _ _).trans (Step.new _ _)).trans q1, fun {G B E w ac rb} hG hs hf hro {Q} hQ => ?_⟩
    cases hro
    have hgr := opd_ok hs.glob hf.1 hgv
    generalize hev : ac.eval g = gval at hgr
    cases hgr
    rename_i p' q' hp hq
    have hGc : G s.c := hG _ (q1.l _ ((Step.new _ _).l _ (in_new _ _)))
    have hGl : G (Nat.succ s.c) := hG _ (q1.l _ (in_new (s.new _) _))
    obtain ⟨k1, x1⟩ := hs.new (o := .defd true) (ob := .deferred (some [])) (C := 0) hGc rfl rfl
    refine wpIn_rangeFunc fun fn _ => ?_
    have hle1 := x1.le
    have hd1 : (E.set s.c (.live w.heap.size 0)) s.c = .live w.heap.size 0 := Env.set_same _ _ _
    have hsz : (w.alloc (.deferred (some []))).heap.size = w.heap.size + 1 := by simp
    have hfresh2 := k1.fresh (Nat.succ s.c) (Nat.le_refl _) hGl
    have hle2 : (E.set s.c (.live w.heap.size 0)).le ((E.set s.c (.live w.heap.size 0)).set (Nat.succ s.c) (.live (w.heap.size + 1) 0)) := Env.set_le _ _ _ (by rw [hfresh2]; trivial)
    obtain ⟨k2, x2⟩ := k1.new (o := .loop .ready none nt fr.a ps.toList assign body s.c) (ob := .loop { state := .ready, pending := none, fn, tmps := ac.tmps, params := ps, assign, body, defers := w.heap.size }) (C := 0) hGl rfl (by
      rw [hsz]
      refine ⟨_, rfl, rfl, rfl, rfl, rfl, rfl, (hf.1.mono hle1).mono hle2, ?_⟩
      exact Slot.at_le (hle2 s.c) (by rw [hd1]; rfl))
    rw [hsz] at k2 x2
    obtain ⟨hent, hcalls⟩ := q2 (rb := none) hG k2 (Env.set_same _ _ _) ((hp.mono hle1).mono hle2) ((hq.mono hle1).mono hle2)
    refine ⟨w.heap.size + 1, [{ target := .collected w.heap.size, args := #[] }], _, _, _, f, p' ++ #[.func (.yield (w.heap.size + 1)) #[] #[]] ++ q', (w.alloc (.deferred (some []))).alloc (.loop { state := .ready, pending := none, fn, tmps := ac.tmps, params := ps, assign, body, defers := w.heap.size }), run_enterLoop_outer fn ac.tmps ps assign body, hres (E := E) hev, ?_, ?_, ?_, ?_⟩
    · exact fun _ _ => trivial
    · simp only [invoke]; exact hent
    · intro h; simp [fen, Fence.wide] at h
    · refine hcalls (Q := Q) (ac' := { tmps := ac.tmps, defers := [{ target := .collected w.heap.size, args := #[] }] ++ ac.defers }) fun E' w' hs' hx' => ?_
      have hx : Ext B s'.w E E' w w' := (x1.trans x2 (Step.new _ _).w).trans hx' q1.w
      refine hQ E' _ w' ⟨hf.1.mono hx.le, ?_⟩ hs' hx
      exact RelM.cons (Slot.at_le (hx'.le s.c) (Slot.at_le (hle2 s.c) (by rw [hd1]; rfl))) (hf.2.mono hx.le)
  | some l0 =>
    obtain ⟨o, ho, h3⟩ := oc_some h2
    obtain ⟨st, pend, ntl, a0, ps0, as0, bo0, d, rfl, h4⟩ := loopC_some h3
    clear h2 h3
    obtain ⟨q1, rfl, q2⟩ := rangeGo_ok hr h4
    refine ⟨((Step.see _ _).trans (Step.new _ _)).trans q1, fun {G B E w ac rb} hG hs hf hro {Q} hQ => ?_⟩
    obtain ⟨b0, rfl, hb0⟩ := hro
    have hgr := opd_ok hs.glob hf.1 hgv
    generalize hev : ac.eval g = gval at hgr
    cases hgr
    rename_i p' q' hp hq
    have hGl : G s.c := hG _ (q1.l _ (in_new (s.see l0) _))
    have hG0 : G l0 := hG _ (q1.l _ ((Step.new _ _).l _ (in_see _ _)))
    obtain ⟨C0, rl, he0, hh0, hst0, hpd0, hps0, has0, hbo0, htm0, hde0⟩ := hs.loop hG0 ho hb0
    refine wpIn_rangeFunc fun fn _ => ?_
    have hfresh2 := hs.fresh s.c (Nat.le_refl _) hGl
    have hle2 : E.le (E.set s.c (.live w.heap.size 0)) := Env.set_le _ _ _ (by rw [hfresh2]; trivial)
    obtain ⟨k2, x2⟩ := (hs.seen l0).new (o := .loop .ready none nt fr.a ps.toList assign body d) (ob := .loop { state := .ready, pending := none, fn, tmps := ac.tmps, params := ps, assign, body, defers := rl.defers }) (C := 0) hGl rfl
      ⟨_, rfl, rfl, rfl, rfl, rfl, rfl, hf.1.mono hle2, Slot.at_le (hle2 d) hde0⟩
    obtain ⟨hent, hcalls⟩ := q2 (rb := some b0) hG k2 (Env.set_same _ _ _) (hp.mono hle2) (hq.mono hle2)
    refine ⟨w.heap.size, [], _, _, _, f, p' ++ #[.func (.yield w.heap.size) #[] #[]] ++ q', w.alloc (.loop { state := .ready, pending := none, fn, tmps := ac.tmps, params := ps, assign, body, defers := rl.defers }), run_enterLoop_inner hh0 fn ac.tmps ps assign body, hres (E := E) hev, ?_, ?_, ?_, ?_⟩
    · exact fun _ _ => trivial
    · simp only [invoke]; exact hent
    · intro h; simp [fen, Fence.wide] at h
    · refine hcalls (Q := Q) (ac' := { tmps := ac.tmps, defers := [] ++ ac.defers }) fun E' w' hs' hx' => ?_
      have hx : Ext B s'.w E E' w w' := x2.trans hx' q1.w
      exact hQ E' _ w' ⟨hf.1.mono hx.le, hf.2.mono hx.le⟩ hs' hx

theorem evRange_one {g : Operand} {ps : Array Tmp} {assign body : Code} {L : List Alt} (h : evRange g ps.toList assign body r nt ro fr s = some L) : ∃ e fr' s', L = [(e, fr', s')] := by
  obtain ⟨gv, hgv, h1⟩ := oc_some h
  obtain ⟨f, p, q, rfl, h2⟩ := funC_some h1
  cases ro with
  | none => exact rangeGo_one h2
  | some l0 =>
    obtain ⟨o, ho, h3⟩ := oc_some h2
    obtain ⟨st, pend, ntl, a0, ps0, as0, bo0, d, rfl, h4⟩ := loopC_some h3
    exact rangeGo_one h4
theorem thn_some {e : AX} {fr : Fr} {s : St} {k : Fr → St → C} {L : List Alt} (h : e.thn fr s k = some L) : (e = .normal ∧ k fr s = some L) ∨ (e ≠ .normal ∧ L = [(e, fr, s)]) := by
  cases e with
  | normal => left; refine ⟨rfl, ?_⟩; rw [← St.force_eq s (k fr)]; exact h
  | exit id => right; refine ⟨by simp, ?_⟩; have h' : some [(AX.exit id, fr, s)] = some L := h; cases h'; rfl
  | ret => right; refine ⟨by simp, ?_⟩; have h' : some [(AX.ret, fr, s)] = some L := h; cases h'; rfl
theorem then_out {e : AX} (he : e ≠ .normal) {next : Act → World → Prop} {Q : Exit → Act → World → Prop} {a : Act} {w : World} (h : Q e.out a w) : Exit.then next Q e.out a w := by
  cases e with
  | normal => exact absurd rfl he
  | exit id => exact h
  | ret => exact h

theorem nextOf_some {ops : List Oper} {x : Operand} {d : Tmp} {l : List Oper} (h : nextOf ops = some (x, d, l)) : ∃ o, ops = o :: l ∧ o.op = .next x false ∧ o.guard = none ∧ o.dst = some d := by
  unfold nextOf at h
  split at h
  · rename_i o l'
    split at h
    · rename_i h1 h2 h3; cases h; exact ⟨o, rfl, h1, h2, h3⟩
    · cases h
  · cases h
theorem altsGo_some {k : AV → St → Option (T AV × St)} {m : List Nat} : ∀ {A : List (AV × St)} {L : List Alt}, altsGo k m A = some L → (∀ p ∈ A, ∃ a s', k p.1 p.2 = some (a, s') ∧ (AX.normal, (⟨a, m⟩ : Fr), s') ∈ L) ∧ ∀ b ∈ L, ∃ p ∈ A, ∃ a s', k p.1 p.2 = some (a, s') ∧ b = (.normal, ⟨a, m⟩, s')
  | [], L, h => by cases h; exact ⟨fun a h => (by cases h), fun a h => (by cases h)⟩
  | p :: A, L, h => by
    obtain ⟨a, s, h1, h2⟩ := oc2_some (show oc2 (k p.1 p.2) (fun a s => oc (altsGo k m A) fun y => some ((AX.normal, (⟨a, m⟩ : Fr), s) :: y)) = some L from h)
    obtain ⟨y, h3, h4⟩ := oc_some h2
    cases h4
    obtain ⟨q1, q2⟩ := altsGo_some h3
    refine ⟨fun u hu => ?_, fun b hb => ?_⟩
    · rcases List.mem_cons.1 hu with rfl | hu
      · exact ⟨a, s, h1, List.mem_cons_self ..⟩
      · obtain ⟨a', s', r1, r2⟩ := q1 u hu
        exact ⟨a', s', r1, List.mem_cons_of_mem _ r2⟩
    · rcases List.mem_cons.1 hb with rfl | hb
      · exact ⟨p, List.mem_cons_self .., a, s, h1, rfl⟩
      · obtain ⟨u, r1, r2⟩ := q2 b hb
        exact ⟨u, List.mem_cons_of_mem _ r1, r2⟩
/-- A region that begins with a map's next entry, of many. -/
theorem nextRegion_ok [IsProg P] (hr : RecOk P n r) {ops : Array Oper} {id : Nat} {o : Oper} {x : Operand} {d : Tmp} {l : List Oper} (hops : ops.toList = o :: l) (hop : o.op = .next x false) (hgd : o.guard = none) (hdst : o.dst = some d) (hd : d < nt) {A : List (AV × St)} (hA : altsAt fr.a x s = some A) {L : List Alt}
    (h : altsGo (fun v s => evOps P r nt ops.toList l (fr.a.put d (some v)) s) fr.m A = some L) :
    L ≠ [] ∧ (∀ a ∈ L, Step s a.2.2) ∧ ∀ {G : Nat → Prop} {B : Nat} {E : Env} {w : World} {ac : Act} {rb : Option Nat}, (∀ a ∈ L, ∀ j, In a.2.2.l j → G j) → Sat G B E s w → FRel E nt fr ac → RoRel E ro rb → ∀ {Q : Exit → Act → World → Prop},
      (∀ a ∈ L, ∀ E' ac' w', FRel E' nt a.2.1 ac' → Sat G B E' a.2.2 w' → Ext B a.2.2.w E E' w w' → Q a.1.out ac' w') → (Code.region id ops false).wpIn (fen rb) 0 P Q ac w := by
  obtain ⟨v, hv, h1⟩ := oc_some hA
  obtain ⟨rr, off, rfl, h2⟩ := ptrC_some h1
  obtain ⟨hoff, hnx⟩ := bc_some h2
  have hoff' : off = 0 := by simpa using hoff
  subst hoff'
  obtain ⟨p1, p2⟩ := nextAlts_ok (P := P) hnx
  obtain ⟨q1, q2⟩ := altsGo_some h
  have hdrop : ops.toList.drop 1 = l := by rw [hops]; rfl
  have hi : ops[0]? = some o := by rw [← Array.getElem?_toList, hops]; rfl
  have step1 : ∀ p ∈ A, ∀ a s', evOps P r nt ops.toList l (fr.a.put d (some p.1)) p.2 = some (a, s') → Step p.2 s' := fun p hp a s' he => (evOps_ok hr.call hr.yld l 1 hdrop he).1
  refine ⟨?_, fun b hb => ?_, fun {G B E w ac rb} hG hs hf hro {Q} hQ => wpIn_region ?_⟩
  · obtain ⟨p, hp⟩ := List.exists_mem_of_ne_nil _ (nextAlts_ne hnx)
    obtain ⟨a, s', _, hm⟩ := q1 p hp
    exact List.ne_nil_of_mem hm
  · obtain ⟨p, hp, a, s', he, rfl⟩ := q2 b hb
    exact (p1 p hp).trans (step1 p hp a s' he)
  · have hGA : ∀ p ∈ A, ∀ j, In p.2.l j → G j := fun p hp j hj => by
      obtain ⟨a, s', he, hm⟩ := q1 p hp
      exact hG _ hm j ((step1 p hp a s' he).l j hj)
    have hxr := opd_ok hs.glob hf.1 hv
    generalize hev : ac.eval x = xv at hxr
    cases hxr
    rename_i b hb
    obtain ⟨p, hp, hok⟩ := p2 (b := b) o.type hGA hs hb
    obtain ⟨a, s', he, hm⟩ := q1 p hp
    obtain ⟨t1, t2⟩ := evOps_ok hr.call hr.yld l 1 hdrop he
    have hlen : List.range ops.size = 0 :: List.range' 1 l.length := by
      have : ops.size = l.length + 1 := by rw [← Array.length_toList, hops]; rfl
      rw [this, List.range_eq_range']; rfl
    rw [hlen, wpOpsIn_cons]
    refine wpOpIn_wanted hi (by simp [Region.wanted, hgd]) ?_
    have hsem : o.semAt rb ac.eval = (do pure (.value (← Instr.next (.pointer (some ⟨b, 0, none⟩)) false o.type))) := by
      rw [← hev]
      obtain ⟨op, dst, ty, af, gd, pos⟩ := o
      cases hop
      cases rb <;> rfl
    refine wpIn_value (v := p.1) (s' := p.2) hsem hok fun E1 v' w1 hv1 hs1 hx1 => ?_
    have ht : TRel E1 nt (fr.a.put d (some p.1)) (ac.put o.dst v').tmps := by
      have := (hf.1.mono hx1.le).put (d := some d) (fun t ht => by cases ht; exact hd) hv1
      rw [hdst]; exact this
    refine t2 (fun j hj => hG _ hm j hj) hs1 ht fun E2 ac2 w2 ht2 hd2 hs2 hx2 => ?_
    have hx := hx1.trans hx2 t1.w
    exact hQ _ hm E2 ac2 w2 ⟨ht2, by rw [hd2, act_put_defers]; exact hf.2.mono hx.le⟩ hs2 hx
theorem evCode_ok [IsProg P] (hmix : P.follows .mixedOrders = true) (hr : RecOk P n r) {c : Code} {L : List Alt} (h : evCode P r nt ro c fr s = some L) : CodeOk1 P (n + 1) nt ro c fr s L := by
  have plain : (∀ x, c ≠ .loop x) → (L ≠ [] ∧ (∀ a ∈ L, Step s a.2.2) ∧ ∀ {G : Nat → Prop} {B : Nat} {E : Env} {w : World} {ac : Act} {rb : Option Nat}, (∀ a ∈ L, ∀ j, In a.2.2.l j → G j) → Sat G B E s w → FRel E nt fr ac → RoRel E ro rb → ∀ {Q : Exit → Act → World → Prop},
      (∀ a ∈ L, ∀ E' ac' w', FRel E' nt a.2.1 ac' → Sat G B E' a.2.2 w' → Ext B a.2.2.w E E' w w' → Q a.1.out ac' w') → c.wpIn (fen rb) 0 P Q ac w) → CodeOk1 P (n + 1) nt ro c fr s L := by
    intro hne ⟨h0, h1, h2⟩
    exact ⟨h0, h1, fun {G B E w ac rb} hG hs hf hro {Q} hQ => ⟨h2 hG hs hf hro hQ, fun x hx => absurd hx (hne x)⟩⟩
  have lone : ∀ {e : AX} {fr' : Fr} {s' : St}, L = [(e, fr', s')] → (∀ x, c ≠ .loop x) → (Step s s' ∧ ∀ {G : Nat → Prop} {B : Nat} {E : Env} {w : World} {ac : Act} {rb : Option Nat}, (∀ j, In s'.l j → G j) → Sat G B E s w → FRel E nt fr ac → RoRel E ro rb → ∀ {Q : Exit → Act → World → Prop},
      (∀ E' ac' w', FRel E' nt fr' ac' → Sat G B E' s' w' → Ext B s'.w E E' w w' → Q e.out ac' w') → c.wpIn (fen rb) 0 P Q ac w) → CodeOk1 P (n + 1) nt ro c fr s L := by
    intro e fr' s' hL hne ⟨h1, h2⟩
    subst hL
    refine plain hne ⟨by simp, fun a ha => ?_, fun {G B E w ac rb} hG hs hf hro {Q} hQ => h2 (hG _ (List.mem_singleton.2 rfl)) hs hf hro (hQ _ (List.mem_singleton.2 rfl))⟩
    rw [List.mem_singleton] at ha; subst ha; exact h1
  have ofOne : ∀ {e : AX} {fr' : Fr} {s' : St}, one e fr' s' = some L → L = [(e, fr', s')] := fun h => by
    have h' := Option.some.inj (show some [_] = some L from h); exact h'.symm
  cases c
  case skip =>
    exact lone (ofOne h) (fun x hx => by cases hx) ⟨Step.refl _, fun {G B E w ac rb} hG hs hf hro {Q} hQ => wpIn_skip (hQ _ _ _ hf hs (Ext.refl _ _ _ _))⟩
  case label l =>
    exact lone (ofOne h) (fun x hx => by cases hx) ⟨Step.refl _, fun {G B E w ac rb} hG hs hf hro {Q} hQ => wpIn_label (hQ _ _ _ hf hs (Ext.refl _ _ _ _))⟩
  case region id ops draw =>
    cases draw with
    | false =>
      have hold : oc2 (evOps P r nt ops.toList ops.toList fr.a s) (fun a s => one AX.normal (⟨a, fr.m⟩ : Fr) s) = some L → CodeOk1 P (n + 1) nt ro (.region id ops false) fr s L := by
        intro h
        obtain ⟨a', s1, h1, h2⟩ := oc2_some h
        refine lone (ofOne h2) (fun x hx => by cases hx) ?_
        obtain ⟨q1, q2⟩ := evOps_ok hr.call hr.yld ops.toList 0 rfl h1
        refine ⟨q1, fun {G B E w ac rb} hG hs hf hro {Q} hQ => wpIn_region ?_⟩
        have := q2 (ro := rb) hG hs hf.1 (Q := Q) fun E' ac' w' ht hd hs' hx => hQ E' ac' w' ⟨ht, hd ▸ hf.2.mono hx.le⟩ hs' hx
        rw [List.range_eq_range']
        simpa using this
      have h' : (regS P nt ops (nextOf ops.toList)).run r ro fr s = some L := h
      cases hnx : nextOf ops.toList with
      | none => rw [hnx] at h'; exact hold h'
      | some y =>
        obtain ⟨x, d, l⟩ := y
        rw [hnx] at h'
        obtain ⟨o, hops, hop, hgd, hdst⟩ := nextOf_some hnx
        have h2 : (bi (Nat.blt d nt) (⟨fun r _ fr s => orC (altsAt fr.a x s) (altsGo (fun v s => evOps P r nt ops.toList l (fr.a.put d (some v)) s) fr.m) (oc2 (evOps P r nt ops.toList ops.toList fr.a s) fun a s => one .normal ⟨a, fr.m⟩ s)⟩ : Cf) ⟨fun _ _ _ _ => none⟩).run r ro fr s = some L := h'
        cases hdn : Nat.blt d nt with
        | false => rw [hdn] at h2; cases h2
        | true =>
          rw [hdn, bi_true] at h2
          have h3 : orC (altsAt fr.a x s) (altsGo (fun v s => evOps P r nt ops.toList l (fr.a.put d (some v)) s) fr.m) (oc2 (evOps P r nt ops.toList ops.toList fr.a s) fun a s => one .normal ⟨a, fr.m⟩ s) = some L := h2
          cases hA : altsAt fr.a x s with
          | none => rw [hA] at h3; exact hold h3
          | some A =>
            rw [hA] at h3
            exact plain (fun x hx => by cases hx) (nextRegion_ok hr hops hop hgd hdst (by simpa using hdn) hA h3)
    | true =>
      cases hst : staticOk ops with
      | false =>
        have h' : (bi (staticOk ops) _ _ : Cf).run r ro fr s = some L := h
        rw [hst] at h'; cases h'
      | true =>
        have h' : (bi (staticOk ops) (⟨fun r _ fr s => oc2 (evDrawn P r nt ops.toList ops.toList (nat_lit 0) fr.a s) fun a x => bc (logsOk (ancs ops.toList []) x.2) (one .normal ⟨a, fr.m⟩ x.1)⟩ : Cf) ⟨fun _ _ _ _ => none⟩).run r ro fr s = some L := h
        rw [hst, bi_true] at h'
        obtain ⟨a', x, h1, h2⟩ := oc2_some (show oc2 (evDrawn P r nt ops.toList ops.toList (nat_lit 0) fr.a s) (fun a x => bc (logsOk (ancs ops.toList []) x.2) (one AX.normal (⟨a, fr.m⟩ : Fr) x.1)) = some L from h')
        obtain ⟨s1, ls⟩ := x
        obtain ⟨hl, h3⟩ := bc_some h2
        refine lone (ofOne h3) (fun x hx => by cases hx) ?_
        obtain ⟨q1, q2⟩ := evDraw_ok hr.call hr.yld hmix hst h1 hl
        exact ⟨q1, fun {G B E w ac rb} hG hs hf hro {Q} hQ => q2 hG hs hf.1 fun E' ac' w' ht hd hs' hx => hQ E' ac' w' ⟨ht, hd ▸ hf.2.mono hx.le⟩ hs' hx⟩
  case seq x y =>
    obtain ⟨l, hl, hfl⟩ := cc_some (show cc (r.code nt ro x fr s) (fun e fr s => e.thn fr s (r.code nt ro y)) = some L from h)
    obtain ⟨pne, p1, p2⟩ := hr.code hl
    obtain ⟨f1, f2⟩ := flatC_some hfl
    have back : ∀ a ∈ l, ∃ b ∈ L, Step a.2.2 b.2.2 := fun a ha => by
      obtain ⟨La, h1, h2⟩ := f1 a ha
      rcases thn_some h1 with ⟨_, h3⟩ | ⟨_, h3⟩
      · obtain ⟨qne, q1, _⟩ := hr.code h3
        obtain ⟨b, hb⟩ := List.exists_mem_of_ne_nil _ qne
        exact ⟨b, h2 b hb, q1 b hb⟩
      · subst h3; exact ⟨a, h2 a (List.mem_singleton.2 rfl), Step.refl _⟩
    refine plain (fun x hx => by cases hx) ⟨?_, fun b hb => ?_, fun {G B E w ac rb} hG hs hf hro {Q} hQ => wpIn_seq ?_⟩
    · obtain ⟨a, ha⟩ := List.exists_mem_of_ne_nil _ pne
      obtain ⟨b, hb, _⟩ := back a ha
      exact List.ne_nil_of_mem hb
    · obtain ⟨a, ha, La, h1, h2⟩ := f2 b hb
      refine (p1 a ha).trans ?_
      rcases thn_some h1 with ⟨_, h3⟩ | ⟨_, h3⟩
      · exact (hr.code h3).2.1 b h2
      · subst h3; rw [List.mem_singleton] at h2; subst h2; exact Step.refl _
    · refine (p2 (fun a ha j hj => by obtain ⟨b, hb, hst⟩ := back a ha; exact hG b hb j (hst.l j hj)) hs hf hro fun a ha E1 ac1 w1 hf1 hs1 hx1 => ?_).1
      obtain ⟨La, h1, h2⟩ := f1 a ha
      rcases thn_some h1 with ⟨hn, h3⟩ | ⟨hn, h3⟩
      · rw [hn]
        obtain ⟨qne, q1, q2⟩ := hr.code h3
        exact (q2 (fun b hb => hG b (h2 b hb)) hs1 hf1 (hro.mono hx1.le) fun b hb E2 ac2 w2 hf2 hs2 hx2 => hQ b (h2 b hb) E2 ac2 w2 hf2 hs2 (hx1.trans hx2 (q1 b hb).w)).1
      · subst h3
        exact then_out hn (hQ a (h2 a (List.mem_singleton.2 rfl)) E1 ac1 w1 hf1 hs1 hx1)
  case cond x y z =>
    obtain ⟨b, hb, h1⟩ := oc_some (show oc (opd fr.a x) (fun b => (resB s b).boolC (r.code nt ro y fr s) (r.code nt ro z fr s)) = some L from h)
    refine plain (fun x hx => by cases hx) ?_
    unfold AV.boolC at h1
    split at h1
    · rename_i hrb
      obtain ⟨qne, q1, q2⟩ := hr.code h1
      refine ⟨qne, q1, fun {G B E w ac rb} hG hs hf hro {Q} hQ => ?_⟩
      have hx := resB_ok hs (opd_ok hs.glob hf.1 hb)
      rw [hrb] at hx
      exact wpIn_cond_true (by generalize ac.eval x = xv at hx ⊢; cases hx; rfl) (q2 hG hs hf hro hQ).1
    · rename_i hrb
      obtain ⟨qne, q1, q2⟩ := hr.code h1
      refine ⟨qne, q1, fun {G B E w ac rb} hG hs hf hro {Q} hQ => ?_⟩
      have hx := resB_ok hs (opd_ok hs.glob hf.1 hb)
      rw [hrb] at hx
      exact wpIn_cond_false (by generalize ac.eval x = xv at hx ⊢; cases hx; rfl) (q2 hG hs hf hro hQ).1
    · cases h1
  case block id x =>
    obtain ⟨l, hl, hfl⟩ := cc_some (show cc (r.code nt ro x fr s) (fun e fr s => one (e.blk id) fr s) = some L from h)
    obtain ⟨pne, p1, p2⟩ := hr.code hl
    obtain ⟨f1, f2⟩ := flatC_some hfl
    have to : ∀ a ∈ l, (a.1.blk id, a.2.1, a.2.2) ∈ L := fun a ha => by
      obtain ⟨La, h1, h2⟩ := f1 a ha
      have h3 := Option.some.inj (show some [(a.1.blk id, a.2.1, a.2.2)] = some La from h1)
      exact h2 _ (by rw [← h3]; exact List.mem_singleton.2 rfl)
    refine plain (fun x hx => by cases hx) ⟨?_, fun b hb => ?_, fun {G B E w ac rb} hG hs hf hro {Q} hQ => wpIn_block (p2 (fun a ha j hj => hG (a.1.blk id, a.2.1, a.2.2) (to a ha) j hj) hs hf hro fun a ha E1 ac1 w1 hf1 hs1 hx1 => ?_).1⟩
    · obtain ⟨a, ha⟩ := List.exists_mem_of_ne_nil _ pne
      exact List.ne_nil_of_mem (to a ha)
    · obtain ⟨a, ha, La, h1, h2⟩ := f2 b hb
      have h3 := Option.some.inj (show some [(a.1.blk id, a.2.1, a.2.2)] = some La from h1)
      rw [← h3, List.mem_singleton] at h2; subst h2; exact p1 a ha
    · have hq := hQ _ (to a ha) E1 ac1 w1 hf1 hs1 hx1
      obtain ⟨e1, fr1, s1⟩ := a
      cases e1 with
      | normal => exact hq
      | ret => exact hq
      | exit j =>
        simp only [AX.blk, beq_bi] at hq
        by_cases hj : j = id
        · subst hj; simpa [AX.out, Exit.inBlock] using hq
        · simpa [AX.out, Exit.inBlock, hj] using hq
  case loop x =>
    obtain ⟨l, hl, hfl⟩ := cc_some (show cc (r.code nt ro x fr s) (fun e fr s => e.thn fr s (r.code nt ro (.loop x))) = some L from h)
    obtain ⟨pne, p1, p2⟩ := hr.code hl
    obtain ⟨f1, f2⟩ := flatC_some hfl
    have back : ∀ a ∈ l, ∃ b ∈ L, Step a.2.2 b.2.2 := fun a ha => by
      obtain ⟨La, h1, h2⟩ := f1 a ha
      rcases thn_some h1 with ⟨_, h3⟩ | ⟨_, h3⟩
      · obtain ⟨qne, q1, _⟩ := hr.code h3
        obtain ⟨b, hb⟩ := List.exists_mem_of_ne_nil _ qne
        exact ⟨b, h2 b hb, q1 b hb⟩
      · subst h3; exact ⟨a, h2 a (List.mem_singleton.2 rfl), Step.refl _⟩
    have fin : ∀ {G : Nat → Prop} {B : Nat} {E : Env} {w : World} {ac : Act} {rb : Option Nat}, (∀ a ∈ L, ∀ j, In a.2.2.l j → G j) → Sat G B E s w → FRel E nt fr ac → RoRel E ro rb → ∀ {Q : Exit → Act → World → Prop},
        (∀ a ∈ L, ∀ E' ac' w', FRel E' nt a.2.1 ac' → Sat G B E' a.2.2 w' → Ext B a.2.2.w E E' w w' → Q a.1.out ac' w') → Code.roundsIn (fen rb) 0 P x Q (n + 1) ac w := by
      intro G B E w ac rb hG hs hf hro Q hQ
      rw [roundsIn_succ]
      refine (p2 (fun a ha j hj => by obtain ⟨b, hb, hst⟩ := back a ha; exact hG b hb j (hst.l j hj)) hs hf hro fun a ha E1 ac1 w1 hf1 hs1 hx1 => ?_).1
      obtain ⟨La, h1, h2⟩ := f1 a ha
      rcases thn_some h1 with ⟨hn, h3⟩ | ⟨hn, h3⟩
      · rw [hn]
        obtain ⟨qne, q1, q2⟩ := hr.code h3
        exact (q2 (fun b hb => hG b (h2 b hb)) hs1 hf1 (hro.mono hx1.le) fun b hb E2 ac2 w2 hf2 hs2 hx2 => hQ b (h2 b hb) E2 ac2 w2 hf2 hs2 (hx1.trans hx2 (q1 b hb).w)).2 x rfl
      · subst h3
        exact then_out hn (hQ a (h2 a (List.mem_singleton.2 rfl)) E1 ac1 w1 hf1 hs1 hx1)
    refine ⟨?_, fun b hb => ?_, fun {G B E w ac rb} hG hs hf hro {Q} hQ => ?_⟩
    · obtain ⟨a, ha⟩ := List.exists_mem_of_ne_nil _ pne
      obtain ⟨b, hb, _⟩ := back a ha
      exact List.ne_nil_of_mem hb
    · obtain ⟨a, ha, La, h1, h2⟩ := f2 b hb
      refine (p1 a ha).trans ?_
      rcases thn_some h1 with ⟨_, h3⟩ | ⟨_, h3⟩
      · exact (hr.code h3).2.1 b h2
      · subst h3; rw [List.mem_singleton] at h2; subst h2; exact Step.refl _
    · have := fin hG hs hf hro hQ
      exact ⟨wpIn_loop_rounds (n + 1) this, fun y hy => by cases hy; exact this⟩
  case scope x =>
    obtain ⟨pne, p1, p2⟩ := hr.code (show r.code nt ro x fr s = some L from h)
    refine plain (fun x hx => by cases hx) ⟨pne, p1, fun {G B E w ac rb} hG hs hf hro {Q} hQ => wpIn_scope' (p2 hG hs hf hro fun a ha E1 ac1 w1 hf1 hs1 hx1 => ?_).1⟩
    have hq := hQ a ha E1 ac1 w1 hf1 hs1 hx1
    obtain ⟨e, fr1, s1⟩ := a
    cases e <;> exact hq
  case rangeFunc g ps assign body =>
    obtain ⟨e, fr', s', rfl⟩ := evRange_one (show evRange g ps.toList assign body r nt ro fr s = some L from h)
    exact lone rfl (fun x hx => by cases hx) (evRange_ok hr (show evRange g ps.toList assign body r nt ro fr s = some [(e, fr', s')] from h))
  case exit id =>
    exact lone (ofOne h) (fun x hx => by cases hx) ⟨Step.refl _, fun {G B E w ac rb} hG hs hf hro {Q} hQ => wpIn_exit (hQ _ _ _ hf hs (Ext.refl _ _ _ _))⟩
  case ret =>
    exact lone (ofOne h) (fun x hx => by cases hx) ⟨Step.refl _, fun {G B E w ac rb} hG hs hf hro {Q} hQ => wpIn_ret (hQ _ _ _ hf hs (Ext.refl _ _ _ _))⟩
  all_goals (cases h; done)
end
end Ev
end Go.Proofs.YtnjpdipombnigaaGreatDoor
namespace Go.Proofs.YtnjpdipombnigaaGreatDoor
namespace Ev
open Go.RowKit

theorem lookP_mem {a b : Nat} : ∀ {ps : Prs}, lookP a ps = some b → (a, b) ∈ ps
  | p :: r, h => by
    simp only [lookP, beq_bi] at h
    split at h
    · rename_i e; cases h; subst e; exact List.mem_cons_self ..
    · exact List.mem_cons_of_mem _ (lookP_mem h)
theorem lookQ_mem {a b : Nat} : ∀ {ps : Prs}, (a, b) ∈ ps → lookQ b ps = true
  | p :: r, h => by
    simp only [lookQ, beq_bi]
    split
    · rfl
    · rename_i e
      rcases List.mem_cons.1 h with rfl | h
      · exact absurd rfl e
      · exact lookQ_mem h
theorem onceQ_inj {a a' b : Nat} : ∀ {ps : Prs}, onceQ ps = true → lookP a ps = some b → lookP a' ps = some b → a = a'
  | p :: r, h, h1, h2 => by
    simp only [onceQ, Bool.and_eq_true] at h
    obtain ⟨q1, q2⟩ := h
    simp only [lookP, beq_bi] at h1 h2
    split at h1 <;> split at h2
    · rename_i e1 e2; rw [← e1, ← e2]
    · rename_i e1 e2
      cases h1
      have := lookQ_mem (lookP_mem h2)
      rw [this] at q1; cases q1
    · rename_i e1 e2
      cases h2
      have := lookQ_mem (lookP_mem h1)
      rw [this] at q1; cases q1
    · exact onceQ_inj q2 h1 h2
theorem prOk_mem {c m : Nat} {ps : Prs} : ∀ {l : List (Nat × Nat)}, prOk c m ps l = true → ∀ p ∈ l, c ≤ p.1 ∧ p.1 < m ∧ c ≤ p.2 ∧ p.2 < m
  | p :: r, h, q, hq => by
    simp only [prOk, Bool.and_eq_true, Nat.ble_eq, Nat.blt_eq] at h
    obtain ⟨h1, h2, h3, h4, h5⟩ := h
    rcases List.mem_cons.1 hq with rfl | hq
    · exact ⟨h1, h2, h3, h4⟩
    · exact prOk_mem h5 q hq

section
variable {E' F : Env} {c : Nat} {ps : Prs}

theorem natO_ok {a b : Option Nat} (h : natO a b = true) : a = b := by
  cases a <;> cases b <;> first | rfl | (exact absurd (show false = true from h) (by decide)) | skip
  have : Nat.beq _ _ = true := h
  rw [Nat.eq_of_beq_eq_true this]
/-- What is alike stands for the same. -/
theorem likeV_ok (hid : ∀ i j, idS c ps i j = true → F i = E' j) (hρ : F.ρ = E'.ρ) : ∀ (n : Nat) (x y : AV) (v : Value), likeV c ps n x y = true → Rel E' y v → Rel F x v := by
  intro n
  induction n with
  | zero => intro x y v h; exact absurd (show false = true from h) (by decide)
  | succ n ih =>
    intro x y v h hr
    cases x <;> cases y <;> first | (exact absurd (show false = true from h) (by decide)) | skip
    case bool.bool a b =>
      have h' : (a == b) = true := h
      rw [beq_iff_eq] at h'
      subst h'
      cases hr; exact .bool _
    case int.int k a q b =>
      have h' : (kindEq k q && eqA a b) = true := h
      rw [Bool.and_eq_true] at h'
      obtain rfl := kindEq_ok h'.1
      have : a = b := by rw [eqA_eq] at h'; exact of_decide_eq_true h'.2
      subst this
      cases hr; exact .int _ _
    case sint.sint k a q b =>
      have h' : (kindEq k q && seEq a b) = true := h
      rw [Bool.and_eq_true] at h'
      obtain rfl := kindEq_ok h'.1
      obtain rfl := seEq_ok h'.2
      cases hr; rw [← hρ]; exact .sint _ _
    case str.str a b =>
      have h' : bytesEq a b = true := h
      rw [bytesEq_eq, beq_iff_eq] at h'
      subst h'
      cases hr; exact .str _
    case nilptr.nilptr => cases hr; exact .nilptr
    case ptr.ptr i o j u =>
      have h' : (idS c ps i j && Nat.beq o u) = true := h
      rw [Bool.and_eq_true] at h'
      obtain rfl := Nat.eq_of_beq_eq_true h'.2
      cases hr; rename_i hb; exact .ptr (by rw [hid _ _ h'.1]; exact hb)
    case nilslice.nilslice => cases hr; exact .nilslice
    case slice.slice i o l k d j u m q e =>
      have h' : (idS c ps i j && (Nat.beq o u && (Nat.beq l m && (natO k q && Nat.beq d e)))) = true := h
      simp only [Bool.and_eq_true] at h'
      obtain ⟨h1, h2, h3, h4, h5⟩ := h'
      obtain rfl := Nat.eq_of_beq_eq_true h2
      obtain rfl := Nat.eq_of_beq_eq_true h3
      obtain rfl := natO_ok h4
      obtain rfl := Nat.eq_of_beq_eq_true h5
      cases hr; rename_i hb hc
      exact .slice (by rw [hid _ _ h1]; exact hb) (by rw [hid _ _ h1]; exact hc)
    case eslice.eslice => cases hr; exact .eslice
    case nilmap.nilmap => cases hr; exact .nilmap
    case map.map i j =>
      have h' : idS c ps i j = true := h
      cases hr; rename_i hb; exact .map (by rw [hid _ _ h']; exact hb)
    case func.func f a b g d e =>
      have h' : (Nat.beq f g && (allB (likeV c ps n) a d && allB (likeV c ps n) b e)) = true := h
      simp only [Bool.and_eq_true] at h'
      obtain rfl := Nat.eq_of_beq_eq_true h'.1
      cases hr; rename_i hp hq
      exact .func (allB_ok ih h'.2.1 hp) (allB_ok ih h'.2.2 hq)
    case nilFunc.nilFunc => cases hr; exact .nilFunc
    case iface.iface t a u b =>
      have h' : (Nat.beq t u && likeV c ps n a b) = true := h
      rw [Bool.and_eq_true] at h'
      obtain rfl := Nat.eq_of_beq_eq_true h'.1
      cases hr; rename_i hv; exact .iface (ih _ _ _ h'.2 hv)
    case nilIface.nilIface => cases hr; exact .nilIface
    case agg.agg a b => cases hr; rename_i hl; exact .agg (allB_ok ih (show allB (likeV c ps n) a b = true from h) hl)
    case tuple.tuple a b => cases hr; rename_i hl; exact .tuple (allB_ok ih (show allB (likeV c ps n) a b = true from h) hl)
    case pstr.pstr a b =>
      have h' : pcsEq a b = true := h
      have e := pcsEq_ok F.ρ h'
      cases hr
      rw [← hρ, ← e]; exact .pstr _
    case fslice.fslice i a j b =>
      have h' : (idS c ps i j && seEq a b) = true := h
      rw [Bool.and_eq_true] at h'
      obtain rfl := seEq_ok h'.2
      cases hr; rename_i hb
      rw [← hρ]; exact .fslice (by rw [hid _ _ h'.1]; exact hb)
theorem likeL_ok (hid : ∀ i j, idS c ps i j = true → F i = E' j) (hρ : F.ρ = E'.ρ) {l m : List AV} {vs : List Value} (h : likeL c ps l m = true) (hr : RelL E' m vs) : RelL F l vs := allB_ok (likeV_ok hid hρ 40) h hr
theorem likeE_ok (hid : ∀ i j, idS c ps i j = true → F i = E' j) (hρ : F.ρ = E'.ρ) {S S' : Stamps} : ∀ {a y : List Ent} {zs : List MapEntry}, likeE c ps a y = true → RelS E' S' y zs → (∀ (i : Nat) (e : Ent) (x : MapEntry), a[i]? = some e → zs[i]? = some x → x.born = S.f e.born) → RelS F S a zs
  | [], [], zs, _, hr, _ => by cases hr; exact .nil
  | [], f :: m, zs, h, hr, _ => absurd (show false = true from h) (by decide)
  | e :: l, [], zs, h, hr, _ => absurd (show false = true from h) (by decide)
  | e :: l, f :: m, zs, h, hr, hb => by
    simp only [likeE, Bool.and_eq_true] at h
    cases hr with
    | cons h1 h2 h3 t =>
      exact .cons (likeV_ok hid hρ 40 _ _ _ h.1 h1) (likeV_ok hid hρ 40 _ _ _ h.2.1 h2) (hb 0 e _ rfl rfl) (likeE_ok hid hρ h.2.2 t fun i e x hi hx => hb (i + 1) e x (by simpa using hi) (by simpa using hx))
end

theorem pullE_perm {k : AV} : ∀ {es : List Ent} {e : Ent} {r : List Ent}, pullE k es = some (e, r) → (e :: r).Perm es
  | x :: es, e, r, h => by
    simp only [pullE] at h
    cases hk : keyS (nat_lit 3) k x.key with
    | true => rw [hk, bi_true] at h; cases h; exact .refl _
    | false =>
      rw [hk, bi_false] at h
      obtain ⟨y, r', h1, h2⟩ := oc2_some h
      cases h2
      exact (List.Perm.swap x e r').trans ((pullE_perm h1).cons x)
theorem sortE_perm : ∀ {a b y : List Ent}, sortE a b = some y → y.Perm b
  | [], [], y, h => by cases h; exact .refl _
  | [], f :: m, y, h => by cases h
  | e :: l, m, y, h => by
    obtain ⟨x, r, h1, h2⟩ := oc2_some (show oc2 (pullE e.key m) (fun x r => oc (sortE l r) fun y => some (x :: y)) = some y from h)
    obtain ⟨y', h3, h4⟩ := oc_some h2
    cases h4
    exact ((sortE_perm h3).cons x).trans (pullE_perm h1)
theorem RelS.perm {E : Env} {S : Stamps} {b y : List Ent} (h : b.Perm y) : ∀ {zs : List MapEntry}, RelS E S b zs → ∃ us, zs.Perm us ∧ RelS E S y us := by
  induction h with
  | nil => intro zs hr; exact ⟨zs, .refl _, hr⟩
  | cons x _ ih =>
    intro zs hr
    cases hr with
    | cons h1 h2 h3 t => obtain ⟨us, p, q⟩ := ih t; exact ⟨_, p.cons _, .cons h1 h2 h3 q⟩
  | swap x y l =>
    intro zs hr
    cases hr with
    | cons h1 h2 h3 t =>
      cases t with
      | cons g1 g2 g3 t => exact ⟨_, .swap _ _ _, .cons g1 g2 g3 (.cons h1 h2 h3 t)⟩
  | trans _ _ ih1 ih2 =>
    intro zs hr
    obtain ⟨us, p, q⟩ := ih1 hr
    obtain ⟨vs, p', q'⟩ := ih2 q
    exact ⟨vs, p.trans p', q'⟩
theorem RelE.same {E : Env} : ∀ {b : List Ent} {zs : List MapEntry}, RelE E b zs → RelS E .same b zs
  | _, _, .nil => .nil
  | _, _, .cons h1 h2 h3 t => .cons h1 h2 h3.symm t.same
theorem RelS.borns {E : Env} {S : Stamps} : ∀ {b : List Ent} {zs : List MapEntry}, RelS E S b zs → zs.map (·.born) = (b.map Ent.born).map S.f
  | _, _, .nil => rfl
  | _, _, .cons h1 h2 h3 t => by simp [h3, t.borns]
theorem numE_len : ∀ (n : Nat) (l : List Ent), (numE n l).length = l.length
  | _, [] => rfl
  | n, e :: l => by simp [numE, numE_len]
theorem numE_at : ∀ (n : Nat) (l : List Ent) {i : Nat} {e : Ent}, (numE n l)[i]? = some e → e.born = n + i ∧ i < l.length
  | _, [], i, e, h => by simp [numE] at h
  | n, x :: l, 0, e, h => by simp [numE] at h; subst h; exact ⟨rfl, by simp⟩
  | n, x :: l, i + 1, e, h => by
    obtain ⟨h1, h2⟩ := numE_at (n + 1) l (i := i) (e := e) (by simpa [numE] using h)
    exact ⟨by omega, by simp; omega⟩
theorem numE_once : ∀ (n : Nat) (l : List Ent), ((numE n l).map Ent.born).Nodup
  | _, [] => .nil
  | n, e :: l => by
    simp only [numE, List.map_cons, List.nodup_cons]
    refine ⟨fun h => ?_, numE_once (n + 1) l⟩
    obtain ⟨x, hx, hb⟩ := List.mem_map.1 h
    obtain ⟨i, hi⟩ := List.getElem?_of_mem hx
    have := (numE_at _ _ hi).1
    omega
theorem bornsOk_ok {c : Nat} : ∀ {l : List Ent} {m : List Nat}, bornsOk c l m = true → (∀ e ∈ l, e.born < c ∧ e.born ∉ m) ∧ (l.map Ent.born).Nodup
  | [], _, _ => ⟨fun e h => (by cases h), .nil⟩
  | e :: l, m, h => by
    simp only [bornsOk, Bool.and_eq_true, Nat.blt_eq, memN_ok, Bool.not_eq_true', List.contains_eq_mem, decide_eq_false_iff_not] at h
    obtain ⟨h1, h2, h3⟩ := h
    obtain ⟨q1, q2⟩ := bornsOk_ok h3
    refine ⟨fun x hx => ?_, ?_⟩
    · rcases List.mem_cons.1 hx with rfl | hx
      · exact ⟨h1, h2⟩
      · exact ⟨(q1 x hx).1, fun hm => (q1 x hx).2 (List.mem_cons_of_mem _ hm)⟩
    · rw [List.map_cons, List.nodup_cons]
      refine ⟨fun hm => ?_, q2⟩
      obtain ⟨x, hx, hb⟩ := List.mem_map.1 hm
      exact (q1 x hx).2 (by rw [hb]; exact List.mem_cons_self ..)
/-- The numbers of a list of stamps. -/
def Stamps.ofList (bs : List Nat) (k : Nat) (h1 : ∀ b ∈ bs, b < k) (h2 : bs.Nodup) : Stamps where
  n := bs.length
  k := k
  f i := if h : i < bs.length then bs[i] else k + (i - bs.length)
  lt i hi := by simp only [hi, dif_pos]; exact h1 _ (List.getElem_mem hi)
  up j := by rw [dif_neg (by omega)]; omega
  inj i j h := by
    by_cases hi : i < bs.length <;> by_cases hj : j < bs.length
    · rw [dif_pos hi, dif_pos hj] at h
      exact (List.getElem_inj h2).1 h
    · rw [dif_pos hi, dif_neg hj] at h
      have := h1 _ (List.getElem_mem hi); omega
    · rw [dif_neg hi, dif_pos hj] at h
      have := h1 _ (List.getElem_mem hj); omega
    · rw [dif_neg hi, dif_neg hj] at h; omega
theorem Stamps.ofList_at {bs : List Nat} {k : Nat} {h1 : ∀ b ∈ bs, b < k} {h2 : bs.Nodup} {i b : Nat} (h : bs[i]? = some b) : (Stamps.ofList bs k h1 h2).f i = b := by
  obtain ⟨hi, he⟩ := List.getElem?_eq_some_iff.1 h
  show (if h : i < bs.length then bs[i] else _) = b
  rw [dif_pos hi, he]
theorem Stamps.ofList_end {bs : List Nat} {k : Nat} {h1 : ∀ b ∈ bs, b < k} {h2 : bs.Nodup} : (Stamps.ofList bs k h1 h2).f bs.length = k := by
  show (if h : bs.length < bs.length then _ else k + (bs.length - bs.length)) = k
  rw [dif_neg (by omega)]; omega
theorem nodup_map {f : Nat → Nat} (hf : ∀ i j, f i = f j → i = j) : ∀ {l : List Nat}, l.Nodup → (l.map f).Nodup
  | [], _ => .nil
  | a :: l, h => by
    rw [List.nodup_cons] at h
    rw [List.map_cons, List.nodup_cons]
    refine ⟨fun hm => ?_, nodup_map hf h.2⟩
    obtain ⟨x, hx, hb⟩ := List.mem_map.1 hm
    exact h.1 (hf _ _ hb ▸ hx)
/-- A map's entries in another order, under new numbers. -/
theorem anyMap_of {E' : Env} {S' : Stamps} {a b y : List Ent} {K : Nat} {arr : Array MapEntry} {l0 : List MapEntry} {c : Nat} {ps : Prs} (hr : RelS E' S' b l0) (hp : l0.Perm arr.toList) (hn : (b.map Ent.born).Nodup) (hlt : ∀ e ∈ b, e.born < K) (hK : S'.n ≤ K) (hy : y.Perm b) (hlen : a.length = y.length) (hl : likeE c ps (numE 0 a) y = true) :
    ∃ S : Stamps, S.n = a.length ∧ S.f a.length = S'.f K ∧ ∀ {F : Env} {t : Nat}, (∀ i j, idS c ps i j = true → F i = E' j) → F.ρ = E'.ρ → F t = .dead → F.st t = S → AnyMap F (numE 0 a) a.length t arr := by
  obtain ⟨us, hp2, hr2⟩ := hr.perm hy.symm
  have hb := hr2.borns
  have hnd : (us.map (·.born)).Nodup := by
    rw [hb]
    exact nodup_map S'.inj ((hy.map Ent.born).nodup_iff.2 hn)
  have hlt2 : ∀ z ∈ us.map (·.born), z < S'.f K := by
    rw [hb]
    intro z hz
    obtain ⟨w, hw, rfl⟩ := List.mem_map.1 hz
    obtain ⟨e, he, rfl⟩ := List.mem_map.1 hw
    exact (S'.lt_iff hK).2 (hlt e (hy.mem_iff.1 he))
  have hul : (us.map (·.born)).length = a.length := by rw [List.length_map, ← hr2.len, hlen]
  refine ⟨Stamps.ofList (us.map (·.born)) (S'.f K) hlt2 hnd, ?_, ?_, fun {F t} hid hρ ht hst => ⟨ht, ?_, fun e he => ?_, numE_once 0 a, us, hp2.symm.trans hp, ?_⟩⟩
  · exact hul
  · rw [← hul]; exact Stamps.ofList_end
  · rw [hst]; exact Nat.le_of_eq hul
  · obtain ⟨i, hi⟩ := List.getElem?_of_mem he
    have := numE_at 0 a hi
    omega
  · rw [hst]
    refine likeE_ok hid hρ hl hr2 fun i e x hi hx => ?_
    have h1 := (numE_at 0 a hi).1
    rw [h1, Nat.zero_add]
    exact (Stamps.ofList_at (by rw [List.getElem?_map, hx]; rfl)).symm

theorem putAll_some {h : T AObj} {i : Nat} {o : AObj} : ∀ {l : List (Nat × Option AObj)}, (putAll h l).get i = some o → (∃ k : Nat, l[k]? = some (i, some o)) ∨ (∀ p ∈ l, p.1 ≠ i) ∧ h.get i = some o
  | [], he => .inr ⟨fun p h => (by cases h), he⟩
  | p :: l, he => by
    rcases T.put_some (show ((putAll h l).put p.1 p.2).get i = some o from he) with ⟨e, hx⟩ | ⟨hne, hx⟩
    · refine .inl ⟨0, ?_⟩
      obtain ⟨p1, p2⟩ := p
      simp only at e hx
      subst e
      rw [hx]; rfl
    · rcases putAll_some hx with ⟨k, hk⟩ | ⟨h1, h2⟩
      · exact .inl ⟨k + 1, by simpa using hk⟩
      · refine .inr ⟨fun q hq => ?_, h2⟩
        rcases List.mem_cons.1 hq with rfl | hq
        · exact fun e => hne e.symm
        · exact h1 q hq
theorem putAll_ne {h : T AObj} {i : Nat} : ∀ {l : List (Nat × Option AObj)}, (∀ p ∈ l, p.1 ≠ i) → (putAll h l).get i = h.get i
  | [], _ => rfl
  | p :: l, hl => by
    show ((putAll h l).put p.1 p.2).get i = h.get i
    rw [T.put_ne _ _ _ _ (fun e => hl p (List.mem_cons_self ..) e.symm)]
    exact putAll_ne fun q hq => hl q (List.mem_cons_of_mem _ hq)
theorem putsO_some {h : T AObj} : ∀ {ids : List Nat} {t : Nat} {puts : List (Nat × Option AObj)}, putsO h ids t = some puts → puts.map (·.1) = ids ∧ ∀ (k i : Nat) (o : AObj), puts[k]? = some (i, some o) → ∃ o0, allO (t + k) o0 = some o
  | [], t, puts, he => by cases he; exact ⟨rfl, fun k i o h => by simp at h⟩
  | j :: ids, t, puts, he => by
    simp only [putsO] at he
    split at he
    · obtain ⟨l, h1, h2⟩ := oc_some he
      cases h2
      obtain ⟨q1, q2⟩ := putsO_some h1
      refine ⟨by simp [q1], fun k i o hk => ?_⟩
      cases k with
      | zero => simp at hk
      | succ k =>
        obtain ⟨o0, h0⟩ := q2 k i o (by simpa using hk)
        exact ⟨o0, by rw [← h0]; congr 1; show t + (k + 1) = Nat.succ t + k; omega⟩
    · rename_i o1 _
      obtain ⟨o2, h0, h3⟩ := oc_some he
      obtain ⟨l, h1, h2⟩ := oc_some h3
      cases h2
      obtain ⟨q1, q2⟩ := putsO_some h1
      refine ⟨by simp [q1], fun k i o hk => ?_⟩
      cases k with
      | zero => simp at hk; obtain ⟨_, rfl⟩ := hk; exact ⟨o1, h0⟩
      | succ k =>
        obtain ⟨o0, h0⟩ := q2 k i o (by simpa using hk)
        exact ⟨o0, by rw [← h0]; congr 1; show t + (k + 1) = Nat.succ t + k; omega⟩
theorem orBits_in {i : Nat} : ∀ {l : List Nat}, In (orBits l) i → i ∈ l
  | [], h => absurd h (not_in_zero i)
  | j :: l, h => by
    rcases (in_lor _ _ _).1 h with h | h
    · rw [(in_bit _ _).1 h]; exact List.mem_cons_self ..
    · exact List.mem_cons_of_mem _ (orBits_in h)
theorem bit_eq (i : Nat) : bit i = 2 ^ i := by show 1 <<< i = _; simp [Nat.shiftLeft_eq]
theorem orBits_mem {i : Nat} : ∀ {l : List Nat}, i ∈ l → In (orBits l) i
  | j :: l, h => by
    rcases List.mem_cons.1 h with rfl | h
    · exact (in_lor _ _ _).2 (.inl ((in_bit _ _).2 rfl))
    · exact (in_lor _ _ _).2 (.inr (orBits_mem h))
theorem low_in {c m i : Nat} : In (low c m) i ↔ i < c ∧ In m i := by
  show (m % bit c).testBit i = true ↔ _
  rw [bit_eq, Nat.testBit_mod_two_pow]
  simp [In]
theorem marksIn_in {c m i : Nat} (h1 : c ≤ i) (h2 : i < m) : In (marksIn c m) i := by
  show (bit m - bit c).testBit i = true
  rw [bit_eq, bit_eq]
  have e : 2 ^ m - 2 ^ c = 2 ^ c * (2 ^ (m - c) - 1) := by
    rw [Nat.mul_sub, ← Nat.pow_add, Nat.mul_one, Nat.add_sub_cancel' (by omega)]
  rw [e, Nat.testBit_two_pow_mul, Nat.testBit_two_pow_sub_one]
  simp; omega
theorem orAll_in {f : St → Nat} {i : Nat} : ∀ {l : List (List AV × St)} {m : Nat}, In (orAll f l m) i ↔ In m i ∨ ∃ x ∈ l, In (f x.2) i
  | [], m => by simp [orAll]
  | p :: r, m => by
    rw [show orAll f (p :: r) m = orAll f r (Nat.lor m (f p.2)) from rfl, orAll_in, in_lor]
    simp [or_assoc]
theorem maxAll_le {f : St → Nat} : ∀ {l : List (List AV × St)} {m : Nat}, m ≤ maxAll f l m ∧ ∀ x ∈ l, f x.2 ≤ maxAll f l m
  | [], m => ⟨Nat.le_refl _, fun x h => (by cases h)⟩
  | p :: r, m => by
    have key : m ≤ bi (Nat.blt m (f p.2)) (f p.2) m ∧ f p.2 ≤ bi (Nat.blt m (f p.2)) (f p.2) m := by
      rw [bi_blt]; split <;> omega
    obtain ⟨h1, h2⟩ := maxAll_le (f := f) (l := r) (m := bi (Nat.blt m (f p.2)) (f p.2) m)
    refine ⟨Nat.le_trans key.1 h1, fun x hx => ?_⟩
    rcases List.mem_cons.1 hx with rfl | hx
    · exact Nat.le_trans key.2 h1
    · exact h2 x hx
/-- What the look at a way has found. -/
structure WayOk (c m : Nat) (ps : Prs) (roots : List AV) (puts : List (Nat × Option AObj)) (x : List AV × St) : Prop where
  pr : ∀ p ∈ ps, c ≤ p.1 ∧ p.1 < m ∧ c ≤ p.2 ∧ p.2 < m
  once : onceQ ps = true
  roots : likeL c ps roots x.1 = true
  obj : ∀ i o, (i, some o) ∈ puts → ∃ j y, (if i < c then some i else lookP i ps) = some j ∧ x.2.h.get j = some y ∧ likeO c ps o y = true
theorem wayOk_ok {c m : Nat} {ps : Prs} {roots : List AV} {puts : List (Nat × Option AObj)} {x : List AV × St} (h : wayOk c m ps roots puts x = true) : WayOk c m ps roots puts x := by
  unfold wayOk at h
  rw [Bool.and_eq_true, Bool.and_eq_true, Bool.and_eq_true] at h
  obtain ⟨h1, h2, h3, h4⟩ := h
  refine ⟨prOk_mem h1, h2, h3, ?_⟩
  clear h1 h2 h3
  induction puts with
  | nil => intro i o h; cases h
  | cons p puts ih =>
    have h' : ((match p.2 with
      | none => true
      | some o => match (bi (Nat.blt p.1 c) (some p.1) (lookP p.1 ps)) with
        | none => false
        | some j => match x.2.h.get j with
          | none => false
          | some y => likeO c ps o y) && _) = true := h4
    rw [Bool.and_eq_true] at h'
    intro i o hm
    rcases List.mem_cons.1 hm with rfl | hm
    · have h1 := h'.1
      simp only [bi_blt] at h1
      split at h1
      · cases h1
      · rename_i j hj
        split at h1
        · cases h1
        · rename_i y hy
          exact ⟨j, y, hj, hy, h1⟩
    · exact ih h'.2 i o hm
theorem optP_ok {x : Option Prs} {k : Prs → Bool} (h : optP x k = true) : ∃ ps, x = some ps ∧ k ps = true := by
  cases x with
  | none => cases h
  | some ps => exact ⟨ps, rfl, h⟩
theorem waysOk_cons {c m : Nat} {roots : List AV} {old : List Nat} {puts : List (Nat × Option AObj)} {g : T AObj} (y : List AV × St) (r : List (List AV × St)) (h : waysOk c m roots old puts g (y :: r) = true) : (∃ ps, wayOk c m ps roots puts y = true) ∧ waysOk c m roots old puts g r = true := by
  rw [waysOk.eq_2, Bool.and_eq_true] at h
  obtain ⟨ps, _, h2⟩ := optP_ok h.1
  exact ⟨⟨ps, h2⟩, h.2⟩
theorem waysOk_ok {c m : Nat} {roots : List AV} {old : List Nat} {puts : List (Nat × Option AObj)} {g : T AObj} (l : List (List AV × St)) (h : waysOk c m roots old puts g l = true) : ∀ x ∈ l, ∃ ps, WayOk c m ps roots puts x := by
  induction l with
  | nil => intro x hx; cases hx
  | cons y r ih =>
    obtain ⟨⟨ps, h1⟩, h2⟩ := waysOk_cons y r h
    intro x hx
    rcases List.mem_cons.1 hx with rfl | hx
    · exact ⟨ps, wayOk_ok h1⟩
    · exact ih h2 x hx

/-- What an id of the one stands for in a way. -/
noncomputable def imgOf (c m' : Nat) (ps : Prs) (i : Nat) : Option Nat := if i < c ∨ m' ≤ i then some i else lookP i ps
noncomputable def joinE (E' : Env) (c m m' : Nat) (ps : Prs) (σ : Nat → Stamps) : Env :=
  ⟨fun i => match imgOf c m' ps i with | some j => E' j | none => .dead, E'.ρ, fun t => if m ≤ t ∧ t < m' then σ t else E'.st t, E'.δ, E'.K, E'.hp⟩
theorem likeO_fixed {c : Nat} {ps : Prs} {o y : AObj} (h : likeO c ps o y = true) : y.fixed = o.fixed := by
  cases o <;> cases y <;> first | rfl | exact absurd (show false = true from h) (by decide)
theorem choose_stamps {m k : Nat} {Ψ : Nat → Stamps → Prop} (h : ∀ i, i < k → ∃ S, Ψ i S) : ∃ σ : Nat → Stamps, ∀ i, i < k → Ψ i (σ (m + i)) := by
  refine ⟨fun t => if h' : t - m < k then (h (t - m) h').choose else .same, fun i hi => ?_⟩
  have e : m + i - m = i := by omega
  have h' : m + i - m < k := by omega
  simp only [dif_pos h']
  have := (h (m + i - m) h').choose_spec
  simpa [e] using this

theorem sortE_len : ∀ {a b y : List Ent}, sortE a b = some y → y.length = a.length
  | [], [], y, h => by cases h; rfl
  | [], f :: m, y, h => by cases h
  | e :: l, m, y, h => by
    obtain ⟨x, r, h1, h2⟩ := oc2_some (show oc2 (pullE e.key m) (fun x r => oc (sortE l r) fun y => some (x :: y)) = some y from h)
    obtain ⟨y', h3, h4⟩ := oc_some h2
    cases h4
    simp [sortE_len h3]
theorem idS_img {c i j : Nat} {ps : Prs} (h : idS c ps i j = true) : (if i < c then some i else lookP i ps) = some j := by
  unfold idS at h
  rw [bi_blt] at h
  split at h
  · rename_i hc; rw [if_pos hc, Nat.eq_of_beq_eq_true h]
  · rename_i hc
    rw [if_neg hc]
    split at h
    · rename_i b' hb'; rw [hb', Nat.eq_of_beq_eq_true h]
    · cases h
theorem fstP_mem {a : Nat} : ∀ {ps : Prs}, a ∈ fstP ps → ∃ p ∈ ps, p.1 = a
  | p :: r, h => by
    rcases List.mem_cons.1 h with rfl | h
    · exact ⟨p, List.mem_cons_self .., rfl⟩
    · obtain ⟨q, h1, h2⟩ := fstP_mem h; exact ⟨q, List.mem_cons_of_mem _ h1, h2⟩
theorem allO_umap {t : Nat} {o0 : AObj} {es : List Ent} {n t' : Nat} (h : allO t o0 = some (.umap es n t')) : ∃ a, es = numE 0 a ∧ n = a.length ∧ t' = t := by
  cases o0 <;> first | (cases h; done) | (cases h; exact ⟨_, rfl, rfl, rfl⟩)
/-- A map of one way, as it is told of all. -/
theorem likeMap_ok {E' : Env} {c : Nat} {ps : Prs} {a : List Ent} {t j : Nat} {y : AObj} {ob : Obj} (hlike : likeO c ps (.umap (numE 0 a) a.length t) y = true) (hok : OkObj E' j y ob) :
    ∃ S : Stamps, ∃ arr, ob = .map arr (S.f a.length) ∧ ∀ {F : Env}, (∀ i j, idS c ps i j = true → F i = E' j) → F.ρ = E'.ρ → F t = .dead → F.st t = S → AnyMap F (numE 0 a) a.length t arr := by
  cases y <;> first | (exact absurd (show false = true from hlike) (by decide)) | skip
  case map b K =>
    have h' : (Nat.beq a.length (numE 0 a).length && (bornsOk K b [] && optB (sortE (numE 0 a) b) (likeE c ps (numE 0 a)))) = true := hlike
    simp only [Bool.and_eq_true] at h'
    obtain ⟨_, hb, hq⟩ := h'
    obtain ⟨arr, rfl, hr⟩ := hok
    cases hy : sortE (numE 0 a) b with
    | none => rw [hy] at hq; cases hq
    | some ys =>
      rw [hy] at hq
      obtain ⟨q1, q2⟩ := bornsOk_ok hb
      obtain ⟨S, s1, s2, s3⟩ := anyMap_of (E' := E') (S' := .same) (l0 := arr.toList) (K := K) hr.same (.refl _) q2 (fun e he => (q1 e he).1) (Nat.zero_le _) (sortE_perm hy) (by rw [sortE_len hy, numE_len]) hq
      exact ⟨S, arr, by rw [s2]; rfl, fun hid hρ ht hst => s3 hid hρ ht hst⟩
  case umap b K t' =>
    have h' : (Nat.beq a.length (numE 0 a).length && optB (sortE (numE 0 a) b) (likeE c ps (numE 0 a))) = true := hlike
    simp only [Bool.and_eq_true] at h'
    obtain ⟨_, hq⟩ := h'
    obtain ⟨arr, rfl, hm⟩ := hok
    obtain ⟨l, hp, hr⟩ := hm.rel
    cases hy : sortE (numE 0 a) b with
    | none => rw [hy] at hq; cases hq
    | some ys =>
      rw [hy] at hq
      obtain ⟨S, s1, s2, s3⟩ := anyMap_of (E' := E') (S' := E'.st t') (K := K) hr hp hm.once hm.lt hm.le (sortE_perm hy) (by rw [sortE_len hy, numE_len]) hq
      exact ⟨S, arr, by rw [s2], fun hid hρ ht hst => s3 hid hρ ht hst⟩
/-- Another object of one way. -/
theorem likeObj_ok {E' F : Env} {c : Nat} {ps : Prs} {o y : AObj} {i j : Nat} {ob : Obj} (hid : ∀ i j, idS c ps i j = true → F i = E' j) (hρ : F.ρ = E'.ρ) (hij : F i = E' j) (hlike : likeO c ps o y = true) (hno : ∀ es n t, o ≠ .umap es n t) (hok : OkObj E' j y ob) : OkObj F i o ob := by
  cases o <;> cases y <;> first | (exact absurd (show false = true from hlike) (by decide)) | (exact absurd rfl (hno _ _ _)) | skip
  case cells.cells a e f p b e' f' p' =>
    have h' : (likeL c ps a b && (Nat.beq e e' && (fzEq f f' && natO p p'))) = true := hlike
    simp only [Bool.and_eq_true] at h'
    obtain ⟨h1, h2, h3, h4⟩ := h'
    have he0 : e' = e := (Nat.eq_of_beq_eq_true h2).symm
    obtain rfl := natO_ok h4
    have hf : f = f' := by
      obtain ⟨f1, f2⟩ := f; obtain ⟨g1, g2⟩ := f'
      have h3' : (Nat.beq f1 g1 && Nat.beq f2 g2) = true := h3
      rw [Bool.and_eq_true] at h3'
      rw [Nat.eq_of_beq_eq_true h3'.1, Nat.eq_of_beq_eq_true h3'.2]
    subst hf
    cases p with
    | none =>
      obtain ⟨c', f', rfl, hr, hfz⟩ := hok
      exact ⟨c', f', by rw [he0], likeL_ok hid hρ h1 hr, hfz⟩
    | some z =>
      obtain ⟨c', f', xs, rest, b', C, rfl, hx, hr, he, hsz, hfz⟩ := hok
      exact ⟨c', f', xs, rest, b', C, by rw [he0], hx, likeL_ok hid hρ h1 hr, by rw [hij]; exact he, hsz, hfz⟩
  case part.part a b =>
    have h' : likeL c ps a b = true := hlike
    obtain ⟨c', e, f, xs, rest, rfl, hx, hr⟩ := hok
    exact ⟨c', e, f, xs, rest, rfl, hx, likeL_ok hid hρ h' hr⟩
  case flat.flat n v e n' v' e' =>
    have h' : (seEq n n' && (seEq v v' && Nat.beq e e')) = true := hlike
    simp only [Bool.and_eq_true] at h'
    obtain ⟨h1, h2, h3⟩ := h'
    have e1 := seEq_ok h1
    have e2 := seEq_ok h2
    have e3 := Nat.eq_of_beq_eq_true h3
    subst e1 e2 e3
    have hok : ob = .cells (Array.replicate (n.val E'.ρ).toNat (.int .u8 (v.val E'.ρ))) e (0, 0) := hok
    show ob = .cells (Array.replicate (n.val F.ρ).toNat (.int .u8 (v.val F.ρ))) e (0, 0)
    rw [hρ]; exact hok

/-- Many ways, told as one: what the one says is so on each of them. -/
theorem mrg_ok {base T : St} {ways : List (List AV × St)} (h : mrg base ways = some T) (hbl : ∀ j, In base.w j → In base.l j) (hst : ∀ x ∈ ways, Step base x.2) :
    Step base T ∧ (∀ x ∈ ways, ∀ j, In x.2.l j → In T.l j) ∧ ∃ roots s1 rest, ways = (roots, s1) :: rest ∧
    ∀ {G : Nat → Prop} {B : Nat} {E0 : Env} {w0 : World}, (∀ j, In T.l j → G j) → Sat G B E0 base w0 → ∀ x ∈ ways, ∀ {E' : Env} {w' : World} {vals : List Value}, Sat G B E' x.2 w' → Ext B x.2.w E0 E' w0 w' → RelL E' x.1 vals →
      ∃ F, Sat G B F T w' ∧ RelL F roots vals ∧ Ext B T.w E0 F w0 w' := by
  unfold mrg at h
  split at h
  case h_2 => cases h
  rename_i x0 y0 rest
  simp only [Ev.force_eq] at h
  generalize hways : x0 :: y0 :: rest = ways at *
  generalize hm : maxAll St.c ways 0 = m at *
  generalize hold : bitsOf m (low base.c (orAll St.w ways 0)) [] = old at *
  obtain ⟨hcov, h⟩ := bc_some h
  obtain ⟨ps0, hps0, h⟩ := oc_some h
  obtain ⟨hpr0, h⟩ := bc_some h
  obtain ⟨puts, hputs, h⟩ := oc_some h
  obtain ⟨h64, h⟩ := bc_some h
  obtain ⟨hcm, h⟩ := bc_some h
  obtain ⟨hwo, h⟩ := bc_some h
  cases h
  have h64' : 64 ≤ base.c := by simpa using h64
  have hcm' : base.c ≤ m := by simpa using hcm
  have hcov' : orBits old = low base.c (orAll St.w ways 0) := by simpa using hcov
  have hmx : ∀ x ∈ ways, x.2.c ≤ m := fun x hx => by rw [← hm]; exact (maxAll_le (f := St.c)).2 x hx
  have hx0 : x0 ∈ ways := by rw [← hways]; exact List.mem_cons_self ..
  obtain ⟨hids, hobs⟩ := putsO_some hputs
  generalize hm' : Nat.add m puts.length = m' at *
  have hmm : m' = m + puts.length := by rw [← hm']; rfl
  have hways' := waysOk_ok ways hwo
  have hold' : ∀ i, i ∈ old → i < base.c ∧ In (orAll St.w ways 0) i := fun i hi => low_in.1 (by rw [← hcov']; exact orBits_mem hi)
  have hputid : ∀ p ∈ puts, p.1 ∈ old ∨ p.1 ∈ fstP ps0 := fun p hp => by
    have : p.1 ∈ puts.map (·.1) := List.mem_map_of_mem hp
    rw [hids] at this
    exact List.mem_append.1 this
  have hA : ∀ a ∈ fstP ps0, base.c ≤ a ∧ a < m := fun a ha => by
    obtain ⟨p, hp, rfl⟩ := fstP_mem ha
    have := prOk_mem hpr0 p hp
    exact ⟨this.1, this.2.1⟩
  have hput : ∀ p ∈ puts, (p.1 < base.c ∧ In (orAll St.w ways 0) p.1) ∨ (base.c ≤ p.1 ∧ p.1 < m) := fun p hp => by
    rcases hputid p hp with h | h
    · exact .inl (hold' _ h)
    · exact .inr (hA _ h)
  have hinL : ∀ x ∈ ways, ∀ j, In x.2.l j → In (Nat.lor (orAll St.l ways 0) (marksIn base.c m')) j := fun x hx j hj => (in_lor _ _ _).2 (.inl (orAll_in.2 (.inr ⟨x, hx, hj⟩)))
  have hinW : ∀ x ∈ ways, ∀ j, In x.2.w j → In (Nat.lor (orAll St.w ways 0) (marksIn base.c m')) j := fun x hx j hj => (in_lor _ _ _).2 (.inl (orAll_in.2 (.inr ⟨x, hx, hj⟩)))
  have hrg : ∀ j, base.c ≤ j → j < m' → In (marksIn base.c m') j := fun j h1 h2 => marksIn_in h1 h2
  refine ⟨⟨fun j hj => hinL x0 hx0 j ((hst x0 hx0).l j hj), fun j hj => hinW x0 hx0 j ((hst x0 hx0).w j hj), fun hwl j hj => ?_, fun j hj => ?_, rfl⟩, hinL, x0.1, x0.2, y0 :: rest, hways.symm, ?_⟩
  · rcases (in_lor _ _ _).1 hj with hj | hj
    · rcases orAll_in.1 hj with hj | ⟨x, hx, hj⟩
      · exact absurd hj (not_in_zero j)
      · exact hinL x hx j ((hst x hx).wl hwl j hj)
    · exact (in_lor _ _ _).2 (.inr hj)
  · refine putAll_ne fun p hp e => hj ?_
    subst e
    rcases hput p hp with ⟨_, h2⟩ | ⟨h1, h2⟩
    · exact (in_lor _ _ _).2 (.inl h2)
    · exact (in_lor _ _ _).2 (.inr (hrg _ h1 (by omega)))
  intro G B E0 w0 hG hs0 x hx E' w' vals hs hext hvals
  obtain ⟨ps, hw⟩ := hways' x hx
  have hGr : ∀ j, base.c ≤ j → j < m' → G j := fun j h1 h2 => hG j ((in_lor _ _ _).2 (.inr (hrg j h1 h2)))
  have hxc := hmx x hx
  have hlk : ∀ {i j}, lookP i ps = some j → base.c ≤ i ∧ i < m ∧ base.c ≤ j ∧ j < m := fun h => hw.pr _ (lookP_mem h)
  have himg : ∀ {i j}, (if i < base.c then some i else lookP i ps) = some j → imgOf base.c m' ps i = some j := by
    intro i j hij
    unfold imgOf
    split at hij
    · rename_i h; rw [if_pos (.inl h)]; exact hij
    · rename_i h
      have := hlk hij
      rw [if_neg (by omega)]; exact hij
  have hinj : ∀ {i j k}, imgOf base.c m' ps i = some k → imgOf base.c m' ps j = some k → i = j := by
    intro i j k hi hj
    unfold imgOf at hi hj
    split at hi <;> split at hj
    · cases hi; cases hj; rfl
    · cases hi; have := hlk hj; omega
    · cases hj; have := hlk hi; omega
    · exact onceQ_inj hw.once hi hj
  have hGput : ∀ i o, (i, some o) ∈ puts → ∀ j, (if i < base.c then some i else lookP i ps) = some j → G j := by
    intro i o hmem j hij
    split at hij
    · rename_i h; cases hij
      rcases hput _ hmem with ⟨_, h2⟩ | ⟨h1, _⟩
      · rcases orAll_in.1 h2 with h2 | ⟨x', hx', h2⟩
        · exact absurd h2 (not_in_zero _)
        · exact hG _ (hinL x' hx' _ ((hst x' hx').wl hbl _ h2))
      · exact absurd h (by omega)
    · have := hlk hij; exact hGr _ this.2.2.1 (by omega)
  have hmaps : ∀ k, k < puts.length → ∃ S : Stamps, ∀ i es n t, puts[k]? = some (i, some (.umap es n t)) → t = m + k ∧ ∃ j b C arr, imgOf base.c m' ps i = some j ∧ E' j = .live b C ∧ w'.heap[b]? = some (.map arr (S.f n)) ∧ B ≤ b ∧ ∀ {F : Env}, (∀ i j, idS base.c ps i j = true → F i = E' j) → F.ρ = E'.ρ → F (m + k) = .dead → F.st (m + k) = S → AnyMap F es n (m + k) arr := by
    intro k hk
    obtain ⟨p, hp⟩ : ∃ p, puts[k]? = some p := ⟨puts[k], List.getElem?_eq_getElem hk⟩
    obtain ⟨i, oo⟩ := p
    by_cases hu : ∃ es n t, oo = some (.umap es n t)
    · obtain ⟨es, n, t, rfl⟩ := hu
      obtain ⟨o0, ho0⟩ := hobs k i _ hp
      obtain ⟨a, rfl, rfl, rfl⟩ := allO_umap ho0
      have hmem := List.mem_of_getElem? hp
      obtain ⟨j, y, hij, hy, hlike⟩ := hw.obj i _ hmem
      obtain ⟨b, C, ob, he, hh, hok, hfx⟩ := hs.fact j y (hGput i _ hmem j hij) hy
      have hB : B ≤ b := by
        rcases hfx with h | h
        · rw [likeO_fixed hlike] at h; cases h
        · exact h
      obtain ⟨S, arr, rfl, hany⟩ := likeMap_ok hlike hok
      refine ⟨S, fun i' es' n' t' he' => ?_⟩
      rw [hp] at he'
      cases he'
      exact ⟨rfl, j, b, C, arr, himg hij, he, hh, hB, fun hid hρ ht hst => hany hid hρ ht hst⟩
    · exact ⟨.same, fun i' es n t he => by rw [hp] at he; cases he; exact absurd ⟨_, _, _, rfl⟩ hu⟩
  obtain ⟨σ, hσ⟩ := choose_stamps hmaps
  have hF : ∀ i, joinE E' base.c m m' ps σ i = match imgOf base.c m' ps i with | some j => E' j | none => .dead := fun _ => rfl
  have hFs : ∀ {i j}, imgOf base.c m' ps i = some j → joinE E' base.c m m' ps σ i = E' j := fun h => by rw [hF, h]
  have hid : ∀ i j, idS base.c ps i j = true → joinE E' base.c m m' ps σ i = E' j := fun i j h => hFs (himg (idS_img h))
  have hρ : (joinE E' base.c m m' ps σ).ρ = E'.ρ := rfl
  have hout : ∀ i, i < base.c ∨ m' ≤ i → joinE E' base.c m m' ps σ i = E' i := fun i h => hFs (by unfold imgOf; rw [if_pos h])
  have htag : ∀ k, k < puts.length → joinE E' base.c m m' ps σ (m + k) = .dead := by
    intro k hk
    rw [hF]
    have : imgOf base.c m' ps (m + k) = none := by
      unfold imgOf
      rw [if_neg (by omega)]
      cases hl : lookP (m + k) ps with
      | none => rfl
      | some j => have := hlk hl; omega
    rw [this]
  have hle : E0.le (joinE E' base.c m m' ps σ) := by
    refine ⟨fun i => ?_, hext.le.ρ, fun t ht => ?_, hext.le.δ, hext.le.K, hext.le.hp⟩
    · by_cases h : i < base.c ∨ m' ≤ i
      · rw [hout i h]; exact hext.le i
      · rw [hs0.fresh i (by omega) (hGr i (by omega) (by omega))]; trivial
    · show (if m ≤ t ∧ t < m' then σ t else E'.st t) = _
      rw [if_neg]
      · exact hext.le.st t ht
      · intro hc
        rw [hs0.fresh t (by omega) (hGr t (by omega) (by omega))] at ht; cases ht
  have hkeep : ∀ j, ¬ In (Nat.lor (orAll St.w ways 0) (marksIn base.c m')) j → joinE E' base.c m m' ps σ j = E0 j := by
    intro j hj
    have hnr : j < base.c ∨ m' ≤ j := by
      by_cases h : base.c ≤ j ∧ j < m'
      · exact absurd ((in_lor _ _ _).2 (.inr (hrg j h.1 h.2))) hj
      · omega
    rw [hout j hnr]
    exact hext.keep j fun h => hj (hinW x hx j h)
  have hFl : ∀ j b C, joinE E' base.c m m' ps σ j = .live b C → ∃ j', E' j' = .live b C := by
    intro j b C hj
    rw [hF] at hj
    cases h1 : imgOf base.c m' ps j with
    | none => rw [h1] at hj; cases hj
    | some j' => rw [h1] at hj; exact ⟨j', hj⟩
  refine ⟨joinE E' base.c m m' ps σ, ⟨?_, ?_, hs.base, fun g hg => ?_, ?_, ?_, ?_, fun b hb => ⟨(hs.prot b hb).1, (hs.prot b hb).2.1, fun j C hj => let ⟨j', hj'⟩ := hFl j b C hj; (hs.prot b hb).2.2 j' C hj'⟩, ?_⟩, likeL_ok hid hρ hw.roots hvals, ⟨hle, hkeep, fun j b C hj he => ?_, hext.below, hext.free, fun j b C hj => let ⟨j', hj'⟩ := hFl j b C hj; hext.liv j' b C hj', hext.kn⟩⟩
  · intro i j b C D hb hi hj
    rw [hF] at hi hj
    cases h1 : imgOf base.c m' ps i with
    | none => rw [h1] at hi; cases hi
    | some i' =>
      cases h2 : imgOf base.c m' ps j with
      | none => rw [h2] at hj; cases hj
      | some j' =>
        rw [h1] at hi; rw [h2] at hj
        obtain rfl := hs.inj i' j' b C D hb hi hj
        exact hinj h1 h2
  · intro i b C hi
    rw [hF] at hi
    cases h1 : imgOf base.c m' ps i with
    | none => rw [h1] at hi; cases hi
    | some i' => rw [h1] at hi; exact hs.lt i' b C hi
  · rw [hout g (.inl (by omega))]; exact hs.glob g hg
  · intro i hi hgi
    have hi' : m' ≤ i := hi
    rw [hout i (.inr hi')]
    exact hs.fresh i (by omega) hgi
  · intro i o hgi hget
    rcases putAll_some (show (putAll base.h puts).get i = some o from hget) with ⟨k, hk⟩ | ⟨hne, hb⟩
    · have hmem := List.mem_of_getElem? hk
      obtain ⟨j, y, hij, hy, hlike⟩ := hw.obj i o hmem
      have hki : k < puts.length := by
        rcases Nat.lt_or_ge k puts.length with h | h
        · exact h
        · rw [List.getElem?_eq_none h] at hk; cases hk
      by_cases hu : ∃ es n t, o = .umap es n t
      · obtain ⟨es, n, t, rfl⟩ := hu
        obtain ⟨rfl, j', b, C, arr, h1, h2, h3, h4, h5⟩ := hσ k hki i es n t hk
        refine ⟨b, C, _, by rw [hFs h1]; exact h2, h3, ⟨arr, ?_, h5 hid hρ (htag k hki) ?_⟩, .inr h4⟩
        · show _ = Obj.map arr ((if m ≤ m + k ∧ m + k < m' then σ (m + k) else E'.st (m + k)).f n)
          rw [if_pos (by omega)]
        · show (if m ≤ m + k ∧ m + k < m' then σ (m + k) else E'.st (m + k)) = _
          rw [if_pos (by omega)]
      · obtain ⟨b, C, ob, he, hh, hok, hfx⟩ := hs.fact j y (hGput i o hmem j hij) hy
        have hFi := hFs (himg hij)
        refine ⟨b, C, ob, by rw [hFi]; exact he, hh, likeObj_ok hid hρ hFi hlike (fun es n t e => hu ⟨es, n, t, e⟩) hok, ?_⟩
        rcases hfx with h | h
        · exact .inl ((likeO_fixed hlike).symm.trans h)
        · exact .inr h
    · obtain ⟨b, C, ob, he, hh, hok, hfx⟩ := hs0.fact i o hgi hb
      have hic : i < base.c := by
        rcases Nat.lt_or_ge i base.c with h | h
        · exact h
        · rw [hs0.fresh i h hgi] at he; cases he
      have hnw : ¬ In x.2.w i := by
        intro hin
        have : i ∈ old := orBits_in (by rw [hcov']; exact low_in.2 ⟨hic, orAll_in.2 (.inr ⟨x, hx, hin⟩)⟩)
        have : i ∈ puts.map (·.1) := by rw [hids]; exact List.mem_append_left _ this
        obtain ⟨p, hp, e⟩ := List.mem_map.1 this
        exact hne p hp e
      have hEi : E' i = E0 i := hext.keep i hnw
      have hFi : joinE E' base.c m m' ps σ i = E0 i := by rw [hout i (.inl hic), hEi]
      exact ⟨b, C, ob, by rw [hFi]; exact he, by rw [hext.block i b C hnw he]; exact hh, hok.mono hle (fun b' C' h => by rw [hFi]; exact h), hfx⟩
  · show OrcOk base.o E'.ρ
    rw [hext.le.ρ]; exact hs0.orc
  · show ∀ d ∈ base.o.defs, DefOk base.o.tabs E'.ρ E'.δ d
    rw [hext.le.ρ, hext.le.δ]; exact hs0.defs
  · exact hext.block j b C (fun h => hj (hinW x hx j h)) he
end Ev
end Go.Proofs.YtnjpdipombnigaaGreatDoor
