/-
  The symbolic evaluator: a body in parts, a template between each two.
  The symbolic evaluator: bodies in parts, loops among them, round by round.
-/
import Derived.Test.YtnjpdipombnigaaGreatDoorZc
import Derived.LoopNIn
namespace Go.Proofs.YtnjpdipombnigaaGreatDoor
namespace Ev
open Go.RowKit

noncomputable def normC {β : Type} (x : C) (k : Fr → St → Option β) : Option β := oc x fun l => loneC l (fun e fr s => match e with
  | .normal => s.force (k fr)
  | _ => none) none
/-- So many statements from a body's top. -/
noncomputable def runK (r : Rec) (nt : Nat) (k : Nat) : Code → Fr → St → Option (Fr × St) :=
  Nat.rec (motive := fun _ => Code → Fr → St → Option (Fr × St)) (fun _ fr s => some (fr, s)) (fun _ ih c fr s => match c with
    | .seq x y => normC (r.code nt none x fr s) fun fr s => ih y fr s
    | _ => none) k
noncomputable def dropK (k : Nat) : Code → Code :=
  Nat.rec (motive := fun _ => Code → Code) (fun c => c) (fun _ ih c => match c with
    | .seq _ y => ih y
    | c => c) k
theorem normC_some {β : Type} {x : C} {k : Fr → St → Option β} {y : β} (h : normC x k = some y) : ∃ fr s, x = some [(.normal, fr, s)] ∧ k fr s = some y := by
  obtain ⟨l, rfl, h1⟩ := oc_some h
  match l with
  | [] => cases h1
  | [(e, fr, s)] =>
    cases e with
    | normal =>
      have h3 : s.force (k fr) = some y := h1
      rw [St.force_eq] at h3
      exact ⟨fr, s, rfl, h3⟩
    | exit i => cases h1
    | ret => cases h1
  | _ :: _ :: _ => cases h1
section
variable {P : Program} {r : Rec} {n : Nat}
theorem runK_ok (hr : RecOk P n r) {nt : Nat} : ∀ (k : Nat) {c : Code} {fr fr' : Fr} {s s' : St}, runK r nt k c fr s = some (fr', s') →
    Step s s' ∧ ∀ {G : Nat → Prop} {B : Nat} {E : Env} {w : World} {ac : Act} {Q : Exit → Act → World → Prop}, (∀ j, In s'.l j → G j) → Sat G B E s w → FRel E nt fr ac →
      (∀ E' ac' w', FRel E' nt fr' ac' → Sat G B E' s' w' → Ext B s'.w E E' w w' → (dropK k c).wpIn Fence.wide 0 P Q ac' w') → c.wpIn Fence.wide 0 P Q ac w := by
  intro k
  induction k with
  | zero =>
    intro c fr fr' s s' h
    cases h
    exact ⟨Step.refl _, fun {G B E w ac Q} _ hs hf hQ => hQ E ac w hf hs (Ext.refl _ _ _ _)⟩
  | succ k ih =>
    intro c fr fr' s s' h
    cases c <;> first | (cases h; done) | skip
    rename_i x y
    obtain ⟨fr1, s1, h1, h2⟩ := normC_some (show normC (r.code nt none x fr s) (fun fr s => runK r nt k y fr s) = some (fr', s') from h)
    obtain ⟨_, p1, p2⟩ := hr.code h1
    have p1 := p1 _ (List.mem_singleton.2 rfl)
    obtain ⟨q1, q2⟩ := ih h2
    refine ⟨p1.trans q1, fun {G B E w ac Q} hG hs hf hQ => ?_⟩
    refine wpIn_seq ((p2 (rb := none) (fun b hb j hj => ?_) hs hf rfl fun b hb E' ac' w' hf' hs' hx' => ?_).1)
    · rw [List.mem_singleton] at hb
      subst hb
      exact hG j (q1.l j hj)
    · rw [List.mem_singleton] at hb
      subst hb
      exact q2 hG hs' hf' fun E2 ac2 w2 hf2 hs2 hx2 => hQ E2 ac2 w2 hf2 hs2 (hx'.trans hx2 q1.w)
/-- From a template on, a body comes to true. -/
def FromT (P : Program) (fn : Func) (c : Code) (tabs : List (Nat × List AV)) (cT : Nat) (objs : List (Nat × AObj)) (fs : List Fact) (frl : List (Nat × AV)) : Prop :=
  ∀ {B : Nat} {E : Env} {w : World} {ac : Act} {R : Ending → World → Prop}, Sat (fun _ => True) B E (tmplSt tabs cT objs fs) w → FRel E fn.ntmps ⟨putsT frl, []⟩ ac → (∀ w', Below B w w' → R (.returned (.bool true)) w') → c.wpIn Fence.wide 0 P (bodyPostM Fence.wide 0 P fn R) ac w
/-- The look at a part's end. -/
noncomputable def endChk (x : Option (Fr × St)) (I : Inst) (tabs : List (Nat × List AV)) (c1 : Nat) (objs1 : List (Nat × AObj)) (fs1 : List Fact) (frl1 : List (Nat × AV)) : Bool := match x with
  | some (fr, s) => isE fr.m && (Nat.ble (nat_lit 64) c1 && (instChk I tabs c1 objs1 fs1 s && instT I fr.a frl1))
  | none => false
theorem endChk_ok {x : Option (Fr × St)} {I : Inst} {tabs : List (Nat × List AV)} {c1 : Nat} {objs1 : List (Nat × AObj)} {fs1 : List Fact} {frl1 : List (Nat × AV)} (h : endChk x I tabs c1 objs1 fs1 frl1 = true) :
    ∃ fr s, x = some (fr, s) ∧ fr.m = [] ∧ 64 ≤ c1 ∧ instChk I tabs c1 objs1 fs1 s = true ∧ instT I fr.a frl1 = true := by
  unfold endChk at h
  split at h
  · rename_i fr s
    simp only [Bool.and_eq_true] at h
    obtain ⟨h1, h2, h3, h4⟩ := h
    refine ⟨fr, s, rfl, ?_, by simpa using h2, h3, h4⟩
    cases hm : fr.m with
    | nil => rfl
    | cons a b => rw [hm] at h1; cases h1
  · cases h
theorem instChk_str {I : Inst} {tabs : List (Nat × List AV)} {c : Nat} {objs : List (Nat × AObj)} {fs : List Fact} {s : St} (h : instChk I tabs c objs fs s = true) : strOk s.o I = true := by
  simp only [instChk, Bool.and_eq_true] at h
  exact h.2.2.2.1
theorem relM_of {E : Env} {m : List Nat} {ds : List Deferred} (h : RelM E m ds) (hm : m = []) : ds = [] := by
  subst hm
  cases h
  rfl
/-- A part, from any state to a template. -/
theorem part_ok (hr : RecOk P n r) {fn : Func} {k : Nat} {c : Code} {fr : Fr} {s : St} {I : Inst} {tabs : List (Nat × List AV)} {c1 : Nat} {objs1 : List (Nat × AObj)} {fs1 : List Fact} {frl1 : List (Nat × AV)}
    (h : endChk (runK r fn.ntmps k c fr s) I tabs c1 objs1 fs1 frl1 = true) (hgo : FromT P fn (dropK k c) tabs c1 objs1 fs1 frl1) {B : Nat} {E : Env} {w : World} {ac : Act} {R : Ending → World → Prop} (hs : Sat (fun _ => True) B E s w) (hf : FRel E fn.ntmps fr ac) (hR : ∀ w', Below B w w' → R (.returned (.bool true)) w') :
    c.wpIn Fence.wide 0 P (bodyPostM Fence.wide 0 P fn R) ac w := by
  obtain ⟨fr1, s1, h1, h2, h3, h4, h5⟩ := endChk_ok h
  obtain ⟨_, q2⟩ := runK_ok hr k h1
  refine q2 (fun _ _ => trivial) hs hf fun E' ac' w' hf' hs' hx' => ?_
  have hfr : FRel (instEnv I E') fn.ntmps ⟨putsT frl1, []⟩ ac' := ⟨instT_ok hs'.orc (instChk_str h4) h5 hf'.1, by rw [relM_of hf'.2 h2]; exact .nil⟩
  exact hgo (inst_ok hs' h3 h4) hfr fun w2 h => hR w2 (hx'.below.trans h)
/-- From a template to another one. -/
theorem fromT_part (hr : RecOk P n r) {fn : Func} {k : Nat} {c : Code} {I : Inst} {tabs : List (Nat × List AV)} {cT c1 : Nat} {objs objs1 : List (Nat × AObj)} {fs fs1 : List Fact} {frl frl1 : List (Nat × AV)}
    (h : endChk (runK r fn.ntmps k c ⟨putsT frl, []⟩ (tmplSt tabs cT objs fs)) I tabs c1 objs1 fs1 frl1 = true) (hgo : FromT P fn (dropK k c) tabs c1 objs1 fs1 frl1) : FromT P fn c tabs cT objs fs frl :=
  fun hs hf hR => part_ok hr h hgo hs hf hR
/-- The last part. -/
theorem fromT_end (hr : RecOk P n r) {fn : Func} {c : Code} {tabs : List (Nat × List AV)} {cT m : Nat} {objs : List (Nat × AObj)} {fs : List Fact} {frl : List (Nat × AV)}
    (h : okT (topS P r fn (tmplSt tabs cT objs fs) m c [(.normal, ⟨putsT frl, []⟩, tmplSt tabs cT objs fs)]) = true) : FromT P fn c tabs cT objs fs frl := by
  intro B E w ac R hs hf hR
  obtain ⟨s', hs'⟩ := okT_some h
  obtain ⟨_, _, p3⟩ := topS_ok hr (fun j hj => absurd hj (not_in_zero j)) _ _ _ _ _ hs' (fun a ha => by rw [List.mem_singleton] at ha; subst ha; exact ⟨rfl, Step.refl _⟩)
  refine p3 _ (List.mem_singleton.2 rfl) (fun _ _ => trivial) hs hf hs (Ext.refl _ _ _ _) fun E' v' w' hv _ hx' => ?_
  cases hv
  exact hR w' hx'.below
/-- A call whose first part comes to a template. -/
theorem call_part (hr : RecOk P n r) {f : FuncId} {fn : Func} {c : Code} (hfn : P.funcs[f]? = some fn) (hb : fn.body = some c) {args : List AV} {args' : Array Value} {k : Nat} {s : St} {I : Inst} {tabs : List (Nat × List AV)} {c1 : Nat} {objs1 : List (Nat × AObj)} {fs1 : List Fact} {frl1 : List (Nat × AV)}
    (hle : Nat.ble args.length fn.ntmps = true) (h : endChk (runK r fn.ntmps k c ⟨argsA (nat_lit 0) args .e, []⟩ s) I tabs c1 objs1 fs1 frl1 = true) (hgo : FromT P fn (dropK k c) tabs c1 objs1 fs1 frl1) {E : Env} {w : World} (hs : Sat (fun _ => True) w.heap.size E s w) (ha : RelL E args args'.toList) :
    Calls P f args' w fun e w' => e = .returned (.bool true) ∧ Below w.heap.size w w' := by
  refine (callsIn_wide (n := 0)).1 (callsIn_of_wp_marks (n := 0) hfn hb trivial ?_)
  have hle' : args.length ≤ fn.ntmps := by simpa using hle
  exact part_ok hr h hgo hs ⟨args_rel ha hle', .nil⟩ fun w' hw => ⟨rfl, hw⟩
end
/-- A state that holds the tables alone. -/
noncomputable def startC (c : Nat) (tabs : List (Nat × List AV)) (O : Orc) : St := ⟨c, initH tabs, nat_lit 0, nat_lit 0, O⟩
theorem satC {w : World} {tabs : List (Nat × List AV)} (ok : TabsIn w tabs) {O : Orc} {ρ : Nat → Int} (ho : OrcOk O ρ) {c : Nat} (hc : 64 ≤ c) (hd : ∀ d ∈ O.defs, DefOk O.tabs ρ (fun _ => default) d := by intro d h; exact absurd h List.not_mem_nil) : Sat (fun _ => True) w.heap.size (env0 ρ tabs) (startC c tabs O) w := by
  have h := satT ok (O := O) (ρ := ρ) ho hd
  refine ⟨h.inj, h.lt, h.base, h.glob, fun i hi hg => ?_, h.fact, h.orc, h.prot, h.defs⟩
  have hi' : c ≤ i := hi
  exact h.fresh i (Nat.le_trans hc hi') hg
theorem leafC_ok {P : Program} [IsProg P] {ctr : Ctr} {n : Nat} (hr : RecOk P n (ev P ctr n)) {f : FuncId} {args : List AV} {args' : Array Value} {tabs : List (Nat × List AV)} {fs : List Fact} {ρ : Nat → Int} {w : World} {c : Nat} (hc : 64 ≤ c)
    (hrun : okT ((ev P ctr n).call f args (startC c tabs (orcI fs))) = true) (ht : TabsIn w tabs) (hf : ∀ f ∈ fs, f.holds ρ) (ha : RelL (env0 ρ tabs) args args'.toList) : Calls P f args' w fun e w' => e = .returned (.bool true) ∧ Below w.heap.size w w' := by
  obtain ⟨s', hs'⟩ := okT_some hrun
  have hc := (hr.call hs').2 (fun _ _ => trivial) (satC ht (orcI_ok hf) hc) ha
  refine (callsIn_wide.1 hc.2).mono ?_
  rintro e w' ⟨E', v', rfl, hv, _, hx⟩
  cases hv
  exact ⟨rfl, hx.below⟩
end Ev
end Go.Proofs.YtnjpdipombnigaaGreatDoor
namespace Go.Proofs.YtnjpdipombnigaaGreatDoor
namespace Ev
open Go.RowKit

/-- A template: a state over the tables, and a frame. -/
structure Tm where
  c : Nat
  objs : List (Nat × AObj)
  fs : List Fact
  frl : List (Nat × AV)
noncomputable def Tm.st (t : Tm) (tabs : List (Nat × List AV)) : St := tmplSt tabs t.c t.objs t.fs
noncomputable def Tm.fr (t : Tm) : Fr := ⟨putsT t.frl, []⟩
def InT (tabs : List (Nat × List AV)) (nt B : Nat) (t : Tm) (ac : Act) (w : World) : Prop := ∃ E : Env, Sat (fun _ => True) B E (t.st tabs) w ∧ FRel E nt t.fr ac
noncomputable def isNorm (e : AX) : Bool := match e with
  | .normal => true
  | _ => false
noncomputable def isExit (id : Nat) (e : AX) : Bool := match e with
  | .exit j => Nat.beq j id
  | _ => false
/-- One way, of that end, to that template. -/
noncomputable def wayChk (x : C) (want : AX → Bool) (I : Inst) (tabs : List (Nat × List AV)) (t : Tm) : Bool := match x with
  | some [(e, fr, s)] => want e && endChk (some (fr, s)) I tabs t.c t.objs t.fs t.frl
  | _ => false
section
variable {P : Program} {r : Rec} {n : Nat} {tabs : List (Nat × List AV)}
theorem isNorm_ok {e : AX} (h : isNorm e = true) : e = .normal := by cases e <;> first | rfl | cases h
theorem isExit_ok {id : Nat} {e : AX} (h : isExit id e = true) : e = .exit id := by
  cases e with
  | exit j => rw [show j = id from Nat.eq_of_beq_eq_true h]
  | normal => cases h
  | ret => cases h
theorem way_ok (hr : RecOk P n r) {nt : Nat} {x : Code} {t t' : Tm} {want : AX → Bool} {I : Inst} (h : wayChk (r.code nt none x t.fr (t.st tabs)) want I tabs t' = true) :
    ∃ e, want e = true ∧ ∀ {B : Nat} {ac : Act} {w : World} {Q : Exit → Act → World → Prop}, InT tabs nt B t ac w → (∀ ac' w', InT tabs nt B t' ac' w' → Below B w w' → Q e.out ac' w') → x.wpIn Fence.wide 0 P Q ac w := by
  unfold wayChk at h
  split at h
  case h_2 => cases h
  rename_i e fr s hx
  rw [Bool.and_eq_true] at h
  obtain ⟨h1, h2⟩ := h
  obtain ⟨fr', s', he, k2, k3, k4, k5⟩ := endChk_ok h2
  cases he
  refine ⟨e, h1, fun {B ac w Q} hin hQ => ?_⟩
  obtain ⟨E, hs, hf⟩ := hin
  obtain ⟨_, _, p2⟩ := hr.code hx
  refine (p2 (rb := none) (fun _ _ _ _ => trivial) hs hf rfl fun b hb E' ac' w' hf' hs' hx' => ?_).1
  rw [List.mem_singleton] at hb
  subst hb
  exact hQ ac' w' ⟨instEnv I E', inst_ok hs' k3 k4, instT_ok hs'.orc (instChk_str k4) k5 hf'.1, by rw [relM_of hf'.2 k2]; exact .nil⟩ hx'.below
theorem norm_ok (hr : RecOk P n r) {nt : Nat} {x : Code} {t t' : Tm} {I : Inst} (h : wayChk (r.code nt none x t.fr (t.st tabs)) isNorm I tabs t' = true) {B : Nat} {ac : Act} {w : World} {Q : Exit → Act → World → Prop} (hin : InT tabs nt B t ac w)
    (hQ : ∀ ac' w', InT tabs nt B t' ac' w' → Below B w w' → Q .normal ac' w') : x.wpIn Fence.wide 0 P Q ac w := by
  obtain ⟨e, h1, h2⟩ := way_ok hr h
  have := isNorm_ok h1
  subst this
  exact h2 hin hQ
theorem exit_ok {id : Nat} (hr : RecOk P n r) {nt : Nat} {x : Code} {t t' : Tm} {I : Inst} (h : wayChk (r.code nt none x t.fr (t.st tabs)) (isExit id) I tabs t' = true) {B : Nat} {ac : Act} {w : World} {Q : Exit → Act → World → Prop} (hin : InT tabs nt B t ac w)
    (hQ : ∀ ac' w', InT tabs nt B t' ac' w' → Below B w w' → Q (.exit id) ac' w') : x.wpIn Fence.wide 0 P Q ac w := by
  obtain ⟨e, h1, h2⟩ := way_ok hr h
  have := isExit_ok h1
  subst this
  exact h2 hin hQ
/-- A loop's rounds, from a template on, to the exit at another one. -/
def Rnds (P : Program) (tabs : List (Nat × List AV)) (nt : Nat) (x : Code) (id m : Nat) (t t' : Tm) : Prop :=
  ∀ {B : Nat} {w0 : World} {Q : Exit → Act → World → Prop}, (∀ ac' w', InT tabs nt B t' ac' w' → Below B w0 w' → Q (.exit id) ac' w') → ∀ ac w, InT tabs nt B t ac w → Below B w0 w → Code.roundsIn Fence.wide 0 P x Q m ac w
theorem rnds_exit {id : Nat} (hr : RecOk P n r) {nt : Nat} {x : Code} {t t' : Tm} {I : Inst} (h : wayChk (r.code nt none x t.fr (t.st tabs)) (isExit id) I tabs t' = true) : Rnds P tabs nt x id 1 t t' :=
  fun hQ ac w hin hb => exit_ok hr h hin fun ac' w' h1 h2 => hQ ac' w' h1 (hb.trans h2)
theorem rnds_step {id m : Nat} (hr : RecOk P n r) {nt : Nat} {x : Code} {t t1 t' : Tm} {I : Inst} (h : wayChk (r.code nt none x t.fr (t.st tabs)) isNorm I tabs t1 = true) (hg : Rnds P tabs nt x id m t1 t') : Rnds P tabs nt x id (m + 1) t t' :=
  fun hQ ac w hin hb => norm_ok hr h hin fun ac' w' h1 h2 => hg hQ ac' w' h1 (hb.trans h2)
/-- From a template on, a body comes to true. -/
def GoT (P : Program) (tabs : List (Nat × List AV)) (fn : Func) (c : Code) (t : Tm) : Prop :=
  ∀ {B : Nat} {w : World} {ac : Act} {R : Ending → World → Prop}, InT tabs fn.ntmps B t ac w → (∀ w', Below B w w' → R (.returned (.bool true)) w') → c.wpIn Fence.wide 0 P (bodyPostM Fence.wide 0 P fn R) ac w
theorem goT_end (hr : RecOk P n r) {fn : Func} {c : Code} {t : Tm} {m : Nat} (h : okT (topS P r fn (t.st tabs) m c [(.normal, t.fr, t.st tabs)]) = true) : GoT P tabs fn c t :=
  fun ⟨_, hs, hf⟩ hR => fromT_end hr h hs hf hR
/-- So many statements. -/
theorem goT_part (hr : RecOk P n r) {fn : Func} {k : Nat} {c : Code} {t t' : Tm} {I : Inst} (h : endChk (runK r fn.ntmps k c t.fr (t.st tabs)) I tabs t'.c t'.objs t'.fs t'.frl = true) (hg : GoT P tabs fn (dropK k c) t') : GoT P tabs fn c t :=
  fun ⟨_, hs, hf⟩ hR => part_ok hr h (fun hs' hf' hR' => hg ⟨_, hs', hf'⟩ hR') hs hf hR
/-- One statement. -/
theorem goT_stmt (hr : RecOk P n r) {fn : Func} {x y : Code} {t t' : Tm} {I : Inst} (h : wayChk (r.code fn.ntmps none x t.fr (t.st tabs)) isNorm I tabs t' = true) (hg : GoT P tabs fn y t') : GoT P tabs fn (.seq x y) t :=
  fun hin hR => wpIn_seq (norm_ok hr h hin fun ac' w' h1 h2 => hg h1 fun w2 h3 => hR w2 (h2.trans h3))
/-- A statement that is a loop, with what stands ahead of it. -/
theorem goT_loop (hr : RecOk P n r) {fn : Func} {a x y : Code} {id m : Nat} {t t1 t2 : Tm} {I : Inst} (h : wayChk (r.code fn.ntmps none a t.fr (t.st tabs)) isNorm I tabs t1 = true) (hl : Rnds P tabs fn.ntmps x id m t1 t2) (hg : GoT P tabs fn y t2) :
    GoT P tabs fn (.seq (.seq a (.block id (.loop x))) y) t := by
  intro B w ac R hin hR
  refine wpIn_seq (wpIn_seq (norm_ok hr h hin fun ac1 w1 h1 h2 => ?_))
  refine wpIn_block (wpIn_loop_rounds m (hl (fun ac2 w2 h3 h4 => ?_) ac1 w1 h1 (Below.refl _ _)))
  show Exit.inBlock id _ (.exit id) ac2 w2
  simp only [Exit.inBlock, if_true]
  exact hg h3 fun w3 h5 => hR w3 (h2.trans (h4.trans h5))
/-- A closed call, in parts. -/
theorem goT_call {f : FuncId} {fn : Func} {c : Code} (hfn : P.funcs[f]? = some fn) (hb : fn.body = some c) (hg : GoT P tabs fn c ⟨64, [], [], []⟩) {w : World} (ht : TabsIn w tabs) : Calls P f #[] w fun e w' => e = .returned (.bool true) ∧ Below w.heap.size w w' := by
  refine (callsIn_wide (n := 0)).1 (callsIn_of_wp_marks (n := 0) hfn hb trivial ?_)
  refine hg ⟨env0 (fun _ => 0) tabs, satT ht (orcI_ok fun f hf => by cases hf), ?_, .nil⟩ fun w' hw => ⟨rfl, hw⟩
  exact args_rel (E := env0 (fun _ => 0) tabs) (args := []) (args' := #[]) .nil (Nat.zero_le _)
/-- A closed call that is known to answer true, as a contract. -/
theorem knownC_ok {f : FuncId} (hent : ∀ w, (callFunc f #[]).run P w = .ok (.enter f #[]) w) (hcall : ∀ w, TabsIn w tabs → Calls P f #[] w fun e w' => e = .returned (.bool true) ∧ Below w.heap.size w w') : ∀ {args : List AV} {s : St} {v : AV} {s' : St}, knownTrue tabs args s = some (v, s') → Step s s' ∧ ∀ {G : Nat → Prop} {B : Nat} {E : Env} {w : World} {args' : Array Value}, (∀ j, In s'.l j → G j) → Sat G B E s w → RelL E args args'.toList →
      CallRes P f args' w (RetOk G B s' v E w) := by
  intro args s v s' h
  unfold knownTrue at h
  split at h
  case h_2 => cases h
  obtain ⟨ht, h1⟩ := bc_some h
  cases h1
  obtain ⟨q1, q2, q3, q4, q5⟩ := seeAll_step tabs s
  refine ⟨q1, fun {G B E w args'} hG hs ha => ?_⟩
  have htabs := tabsIn_ok hs ht (fun g l hm => hG g (q5 g l hm))
  have ha' : args' = #[] := by
    obtain ⟨l⟩ := args'
    cases ha
    rfl
  subst ha'
  refine ⟨hent w, callsIn_wide.2 ((hcall w htabs).mono fun e w' he => ?_)⟩
  obtain ⟨rfl, hb⟩ := he
  obtain ⟨k1, k2⟩ := hs.later hb
  refine ⟨E, _, rfl, .bool true, ⟨k1.inj, k1.lt, k1.base, k1.glob, ?_, ?_, ?_, k1.prot, ?_⟩, k2 _⟩
  · rw [q3]; exact k1.fresh
  · rw [q2]; exact k1.fact
  · rw [q1.o]; exact k1.orc
  · rw [q1.o]; exact k1.defs
end
end Ev
end Go.Proofs.YtnjpdipombnigaaGreatDoor
