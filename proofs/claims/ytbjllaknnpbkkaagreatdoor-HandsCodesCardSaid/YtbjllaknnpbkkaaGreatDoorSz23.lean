/-
  The evaluator: code, calls, rounds.
-/
import Derived.Test.YtbjllaknnpbkkaaGreatDoorSz22
import Derived.Scope
import Derived.LoopNIn
import Derived.RangeFuncNested
namespace Go.Proofs.YtbjllaknnpbkkaaGreatDoor
namespace Ev
open Go.RowKit

/-- The marks of ranges over functions. -/
inductive RelM (E : Env) : List Nat → List Deferred → Prop
  | nil : RelM E [] []
  | cons {d b : Nat} {m : List Nat} {ds : List Deferred} (h : (E d).at b) (t : RelM E m ds) : RelM E (d :: m) ({ target := .collected b, args := #[] } :: ds)
theorem RelM.mono {E E' : Env} (h : E.le E') : ∀ {m : List Nat} {ds : List Deferred}, RelM E m ds → RelM E' m ds
  | _, _, .nil => .nil
  | _, _, .cons k t => .cons (Slot.at_le (h _) k) (t.mono h)
def FRel (E : Env) (nt : Nat) (fr : Fr) (ac : Act) : Prop := TRel E nt fr.a ac.tmps ∧ RelM E fr.m ac.defers
theorem FRel.mono {E E' : Env} (h : E.le E') {nt : Nat} {fr : Fr} {ac : Act} (k : FRel E nt fr ac) : FRel E' nt fr ac := ⟨k.1.mono h, k.2.mono h⟩
def AX.out : AX → Exit
  | .normal => .normal
  | .exit id => .exit id
  | .ret => .ret
/-- In the round of a loop, or of none. -/
def RoRel (E : Env) : Option Nat → Option Nat → Prop
  | none, rb => rb = none
  | some l, rb => ∃ b, rb = some b ∧ (E l).at b
theorem RoRel.mono {E E' : Env} (h : E.le E') {ro rb : Option Nat} (k : RoRel E ro rb) : RoRel E' ro rb := by
  cases ro with
  | none => exact k
  | some l => obtain ⟨b, h1, h2⟩ := k; exact ⟨b, h1, Slot.at_le (h l) h2⟩

/-- Whatever way it goes, it is one of these. -/
def CodeOk1 (P : Program) (n nt : Nat) (ro : Option Nat) (c : Code) (fr : Fr) (s : St) (L : List Alt) : Prop :=
  L ≠ [] ∧ (∀ a ∈ L, Step s a.2.2) ∧ ∀ {G : Nat → Prop} {B : Nat} {E : Env} {w : World} {ac : Act} {rb : Option Nat}, (∀ a ∈ L, ∀ j, In a.2.2.l j → G j) → Sat G B E s w → FRel E nt fr ac → RoRel E ro rb → ∀ {Q : Exit → Act → World → Prop},
    (∀ a ∈ L, ∀ E' ac' w', FRel E' nt a.2.1 ac' → Sat G B E' a.2.2 w' → Ext B a.2.2.w E E' w w' → Q a.1.out ac' w') → c.wpIn (fen rb) 0 P Q ac w ∧ ∀ x, c = .loop x → Code.roundsIn (fen rb) 0 P x Q n ac w
def CodeOk (P : Program) (n : Nat) (code : Nat → Option Nat → Code → Fr → St → C) : Prop :=
  ∀ {nt : Nat} {ro : Option Nat} {c : Code} {fr : Fr} {s : St} {L : List Alt}, code nt ro c fr s = some L → CodeOk1 P n nt ro c fr s L
structure RecOk (P : Program) (n : Nat) (r : Rec) : Prop where
  call : CallOk P r.call
  yld : YieldOk P r.yld
  code : CodeOk P n r.code

section
variable {P : Program} {r : Rec} {n nt : Nat} {ro : Option Nat} {fr fr' : Fr} {s s' : St} {e : AX}

theorem flatC_nil {k : AX → Fr → St → C} : flatC k [] = some [] := rfl
theorem flatC_cons {k : AX → Fr → St → C} (a : Alt) (l : List Alt) : flatC k (a :: l) = oc (k a.1 a.2.1 a.2.2) fun x => oc (flatC k l) fun y => some (x ++ y) := rfl
theorem flatC_some {k : AX → Fr → St → C} : ∀ {l L : List Alt}, flatC k l = some L → (∀ a ∈ l, ∃ La, k a.1 a.2.1 a.2.2 = some La ∧ ∀ b ∈ La, b ∈ L) ∧ ∀ b ∈ L, ∃ a ∈ l, ∃ La, k a.1 a.2.1 a.2.2 = some La ∧ b ∈ La
  | [], L, h => by cases h; exact ⟨fun a h => (by cases h), fun a h => (by cases h)⟩
  | a :: l, L, h => by
    rw [flatC_cons] at h
    obtain ⟨x, h1, h2⟩ := oc_some h
    obtain ⟨y, h3, h4⟩ := oc_some h2
    cases h4
    obtain ⟨p1, p2⟩ := flatC_some h3
    refine ⟨fun b hb => ?_, fun b hb => ?_⟩
    · rcases List.mem_cons.1 hb with rfl | hb
      · exact ⟨x, h1, fun c hc => List.mem_append_left _ hc⟩
      · obtain ⟨La, q1, q2⟩ := p1 b hb
        exact ⟨La, q1, fun c hc => List.mem_append_right _ (q2 c hc)⟩
    · rcases List.mem_append.1 hb with hb | hb
      · exact ⟨a, List.mem_cons_self .., x, h1, hb⟩
      · obtain ⟨a', q1, q2⟩ := p2 b hb
        exact ⟨a', List.mem_cons_of_mem _ q1, q2⟩
theorem loneC_lone {β : Type} (a : Alt) (k : AX → Fr → St → β) (d : β) : loneC [a] k d = k a.1 a.2.1 a.2.2 := rfl
theorem loneC_many {β : Type} (a b : Alt) (l : List Alt) (k : AX → Fr → St → β) (d : β) : loneC (a :: b :: l) k d = d := rfl
theorem cc_some {x : C} {k : AX → Fr → St → C} {L : List Alt} (h : cc x k = some L) : ∃ l, x = some l ∧ flatC k l = some L := by
  obtain ⟨l, h1, h2⟩ := oc_some h
  refine ⟨l, h1, ?_⟩
  match l, h2 with
  | [], h2 => exact h2
  | [a], h2 =>
    rw [loneC_lone] at h2
    rw [flatC_cons, h2, flatC_nil]
    simp [oc]
  | a :: b :: l, h2 => exact h2
theorem stepR_scope' {b : Frame} {a : Act} {k : List Item} {cs : List Frame} {w : World} {c : Code} : step P (lone (b.atR a (.code (.scope c) :: k)) cs w) = .next (lone (b.atR a (.code c :: .inScope c :: k)) cs w) :=
  step_lone_go (by simp [stepG, stepG.exec, Frame.atR])
theorem stepR_inScope' {b : Frame} {a : Act} {k : List Item} {cs : List Frame} {w : World} {c : Code} : step P (lone (b.atR a (.inScope c :: k)) cs w) = .next (lone (b.atR a k) cs w) :=
  step_lone_go (by simp [stepG, stepG.exec, Frame.atR])
theorem wpIn_scope' {F : Fence} {n : Nat} {c : Code} {Q : Exit → Act → World → Prop} {a : Act} {w : World} (h : c.wpIn F n P (Exit.noGoto Q) a w) : (Code.scope c).wpIn F n P Q a w := by
  intro b k cs hro hb hr
  have h0 : (lone (b.atR a (.code (.scope c) :: k)) cs w).fenced P F := fenced_calm hb hr rfl
  obtain ⟨e, a₁, w₁, hq, harr⟩ := h b (.inScope c :: k) cs hro hb hr
  cases e with
  | normal => exact ⟨.normal, a₁, w₁, hq, .head h0 stepR_scope' (StepsIn.trans harr (.one (fenced_calm hb hr rfl) stepR_inScope'))⟩
  | exit id =>
    have hx : exitTo id (.inScope c :: k) = exitTo id k := by simp [exitTo]
    exact ⟨.exit id, a₁, w₁, hq, fun k' hk => .head h0 stepR_scope' (harr.1 k' (by rw [hx]; exact hk)), fun hr' hk => let ⟨k₁, h1, h2⟩ := harr.2 hr' (by rw [hx]; exact hk); ⟨k₁, h1, .head h0 stepR_scope' h2⟩⟩
  | goto l => exact hq.elim
  | ret => exact ⟨_, a₁, w₁, hq, .of_steps (.one h0 stepR_scope') harr⟩
  | panic ch => exact ⟨_, a₁, w₁, hq, .of_steps (.one h0 stepR_scope') harr⟩
  | outgrown => exact ⟨_, a₁, w₁, hq, .of_steps (.one h0 stepR_scope') harr⟩
theorem loopC_some {β : Type} {o : AObj} {k : LoopState → Option Code → Nat → T AV → List Tmp → Code → Code → Nat → Option β} {y : β} (h : loopC o k = some y) : ∃ st pend nt a ps as bo d, o = .loop st pend nt a ps as bo d ∧ k st pend nt a ps as bo d = some y := by
  cases o <;> first | (cases h; done) | exact ⟨_, _, _, _, _, _, _, _, rfl, h⟩
theorem funC_some {β : Type} {v : AV} {k : FuncId → List AV → List AV → Option β} {y : β} (h : funC v k = some y) : ∃ f p q, v = .func f p q ∧ k f p q = some y := by
  cases v <;> first | (cases h; done) | exact ⟨_, _, _, rfl, h⟩
theorem Sat.loop {G : Nat → Prop} {B : Nat} {E : Env} {w : World} (h : Sat G B E s w) {l b : Nat} {st : LoopState} {pend : Option Code} {ntl : Nat} {a : T AV} {ps : List Tmp} {as bo : Code} {d : Nat} (hg : G l) (ho : s.h.get l = some (.loop st pend ntl a ps as bo d)) (hb : (E l).at b) :
    ∃ C rl, E l = .live b C ∧ w.heap[b]? = some (.loop rl) ∧ rl.state = st ∧ rl.pending = pend ∧ rl.params.toList = ps ∧ rl.assign = as ∧ rl.body = bo ∧ TRel E ntl a rl.tmps ∧ (E d).at rl.defers := by
  obtain ⟨b', C, ob, he, hh, hok, _⟩ := h.fact l _ hg ho
  obtain ⟨rl, rfl, q⟩ := hok
  obtain rfl := h.at_live he hb
  exact ⟨C, rl, he, hh, q⟩
theorem Env.live_le {E E' : Env} (h : E.le E') {i b C b' C' : Nat} (h1 : E i = .live b C) (h2 : E' i = .live b' C') : b' = b := by
  have := h i
  rw [h1, h2] at this
  exact this.1.symm

/-- The call of the function that is ranged over, and what is behind it. -/
theorem rangeGo_one {f : FuncId} {p q : List AV} {l : Nat} {m : List Nat} {s2 : St} {L : List Alt} (h : rangeGo r fr f p q l m s2 = some L) : ∃ e fr' s', L = [(e, fr', s')] := by
  obtain ⟨v, s3, hcall, h1⟩ := oc2_some h
  obtain ⟨o, ho, h2⟩ := oc_some h1
  obtain ⟨st, pend, ntl, a', ps', as', bo', d', rfl, h3⟩ := loopC_some h2
  obtain ⟨hnb, h4⟩ := bc_some h3
  unfold pendC one at h4
  split at h4 <;> first | (cases h4; exact ⟨_, _, _, rfl⟩) | cases h4
theorem rangeGo_ok (hr : RecOk P n r) {f : FuncId} {p q : List AV} {l : Nat} {m : List Nat} {s2 : St} (h : rangeGo r fr f p q l m s2 = some [(e, fr', s')]) :
    Step s2 s' ∧ fr' = ⟨fr.a, m⟩ ∧ ∀ {G : Nat → Prop} {B : Nat} {E : Env} {w : World} {b C : Nat} {p' q' : Array Value} {rb : Option Nat}, (∀ j, In s'.l j → G j) → Sat G B E s2 w → E l = .live b C → RelL E p p'.toList → RelL E q q'.toList →
      (callFunc f (p' ++ #[.func (.yield b) #[] #[]] ++ q')).run P w = .ok (.enter f (p' ++ #[.func (.yield b) #[] #[]] ++ q')) w ∧
      ∀ {Q : Exit → Act → World → Prop} {ac' : Act}, (∀ E' w', Sat G B E' s' w' → Ext B s'.w E E' w w' → Q e.out ac' w') → CallsIn (fen rb) 0 P f (p' ++ #[.func (.yield b) #[] #[]] ++ q') w (rangePost (fen rb) 0 P b Q ac') := by
  obtain ⟨v, s3, hcall, h1⟩ := oc2_some h
  obtain ⟨o, ho, h2⟩ := oc_some h1
  obtain ⟨st, pend, ntl, a', ps', as', bo', d', rfl, h3⟩ := loopC_some h2
  obtain ⟨hnb, h4⟩ := bc_some h3
  clear h h1 h2 h3
  obtain ⟨q1, q2⟩ := hr.call hcall
  have hfin : fr' = ⟨fr.a, m⟩ ∧ s' = s3.set l (some (.loop .exhausted pend ntl a' ps' as' bo' d')) ∧ ((pend = none ∧ e = .normal) ∨ (pend = some .ret ∧ e = .ret) ∨ ∃ id, pend = some (.exit id) ∧ e = .exit id) := by
    unfold pendC one at h4
    split at h4
    · cases h4; exact ⟨rfl, rfl, .inl ⟨rfl, rfl⟩⟩
    · cases h4; exact ⟨rfl, rfl, .inr (.inl ⟨rfl, rfl⟩)⟩
    · cases h4; exact ⟨rfl, rfl, .inr (.inr ⟨_, rfl, rfl⟩)⟩
    · cases h4
  obtain ⟨rfl, rfl, hpe⟩ := hfin
  refine ⟨q1.trans (Step.set _ _ _), rfl, fun {G B E w b C p' q' rb} hG hs hl hp hq => ?_⟩
  have hG3 : ∀ j, In s3.l j → G j := fun j hj => hG j ((Step.set s3 l _).l j hj)
  have hgl : G l := hG l (in_set _ _ _)
  obtain ⟨hent, hcalls⟩ := q2 hG3 hs (args' := p' ++ #[.func (.yield b) #[] #[]] ++ q') (by
    simp only [Array.toList_append]
    exact (hp.append (.cons (.yield (by rw [hl]; rfl)) .nil)).append hq)
  refine ⟨hent, fun {Q ac'} hQ => ?_⟩
  have hcalls' : CallsIn (fen rb) 0 P f (p' ++ #[.func (.yield b) #[] #[]] ++ q') w _ := hcalls
  refine hcalls'.mono fun en w3 hen => ?_
  obtain ⟨E3, v', rfl, _, hs3, hx3⟩ := hen
  obtain ⟨b', C', ob, he3, hh3, hok3, _⟩ := hs3.fact l _ hgl ho
  obtain ⟨rl, rfl, hst, hpd, hok⟩ := hok3
  have hbb : b' = b := Env.live_le hx3.le hl he3
  subst hbb
  have hnb' : rl.state ≠ .busy := by
    rw [hst]; cases st <;> simp_all [notBusy]
  obtain ⟨k1, k2⟩ := hs3.write (o' := .loop .exhausted pend ntl a' ps' as' bo' d') (ob' := .loop { rl with state := .exhausted }) hgl ho rfl he3 ⟨_, rfl, rfl, hpd, hok⟩
  have hq' := hQ E3 _ k1 (hx3.trans k2 (Step.set s3 l _).w)
  refine ⟨rl.pending, _, run_endLoop hh3 hnb', ?_⟩
  rw [hpd] at hq' ⊢
  rcases hpe with ⟨rfl, rfl⟩ | ⟨rfl, rfl⟩ | ⟨id, rfl, rfl⟩
  · exact hq'
  · exact wpIn_ret hq'
  · exact wpIn_exit hq'
end
end Ev
end Go.Proofs.YtbjllaknnpbkkaaGreatDoor
