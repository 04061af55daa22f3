/-
  Data of any size: calls that come to data, looked up.
  Data of any size: what a function comes to, said of data alone; shown by a run.
  Data of any size: loops, of which the rounds are shown by runs.
-/
import Derived.Test.YtnjpdipombnigaaGreatDoorZe
namespace Go.Proofs.YtnjpdipombnigaaGreatDoor
namespace Ev
open Go.RowKit

noncomputable def entersB (P : Program) (f : FuncId) : Bool := match P.funcs[f]? with
  | some fn => match fn.body with
    | some _ => !(fn.name == "runtime.NumGoroutine")
    | none => false
  | none => false
/-- Without blocks. -/
noncomputable def flat1 : AV → Bool
  | .bool _ => true
  | .int _ _ => true
  | .sint _ _ => true
  | .str _ => true
  | .pstr _ => true
  | .nilptr => true
  | .nilslice => true
  | .nilmap => true
  | .nilFunc => true
  | .nilIface => true
  | _ => false
noncomputable def flat1L : List AV → Bool
  | [] => true
  | x :: r => flat1 x && flat1L r
noncomputable def flatR : AV → Bool
  | .tuple l => flat1L l
  | .agg l => flat1L l
  | x => flat1 x
theorem flat1_rel {E F : Env} (hρ : F.ρ = E.ρ) {x : AV} {v : Value} (h : flat1 x = true) (hr : Rel E x v) : Rel F x v := by
  cases x <;> first | (cases h; done) | skip
  all_goals (cases hr)
  all_goals first | (rw [← hρ]; constructor; done) | (constructor; done)
theorem flat1L_rel {E F : Env} (hρ : F.ρ = E.ρ) : ∀ {l : List AV} {vs : List Value}, flat1L l = true → RelL E l vs → RelL F l vs
  | _, _, _, .nil => .nil
  | _, _, h, .cons k t => by
    have h' := h
    rw [flat1L, Bool.and_eq_true] at h'
    exact .cons (flat1_rel hρ h'.1 k) (flat1L_rel hρ h'.2 t)
theorem flatR_rel {E F : Env} (hρ : F.ρ = E.ρ) {x : AV} {v : Value} (h : flatR x = true) (hr : Rel E x v) : Rel F x v := by
  unfold flatR at h
  split at h
  · cases hr with
    | tuple hl => exact .tuple (flat1L_rel hρ h hl)
  · cases hr with
    | agg hl => exact .agg (flat1L_rel hρ h hl)
  · exact flat1_rel hρ h hr
/-- Lent for a call: what was looked at is told. -/
noncomputable def St.lent (s s1 : St) : St := ⟨s.c, s.h, Nat.lor s.l s1.l, s.w, s.o⟩
noncomputable def defA (P : Program) (f : FuncId) (args : List AV) (s : St) : R :=
  bc (entersB P f && Nat.blt f opBase) (bc (tabsIn s s.o.tabs) (oc2 (packL (packV P (nat_lit 40)) args (seeAll s s.o.tabs)) fun asg s1 => oc (findDef f [] asg s1.o.defs) fun d => bi (flatR d.res) (some (d.res, s.lent s1)) (some (d.res, s1))))
theorem entersB_ok {P : Program} {f : FuncId} (h : entersB P f = true) (args : Array Value) (w : World) : (callFunc f args).run P w = .ok (.enter f args) w := by
  unfold entersB at h
  split at h
  · rename_i fn hfn
    split at h
    · rename_i c hc
      exact enters hfn (by simpa using h) hc args w
    · cases h
  · cases h
theorem defA_ok (f : FuncId) : ∀ {args : List AV} {s : St} {v : AV} {s' : St}, defA theProg f args s = some (v, s') → Step s s' ∧ ∀ {G : Nat → Prop} {B : Nat} {E : Env} {w : World} {args' : Array Value}, (∀ j, In s'.l j → G j) → Sat G B E s w → RelL E args args'.toList →
    CallRes theProg f args' w (RetOk G B s' v E w) := by
  intro args s v s' h
  obtain ⟨hent, h⟩ := bc_some h
  rw [Bool.and_eq_true] at hent
  obtain ⟨hent, hlt⟩ := hent
  obtain ⟨htb, h⟩ := bc_some h
  obtain ⟨asg, s1, hp, h⟩ := oc2_some h
  obtain ⟨d, hd, h⟩ := oc_some h
  obtain ⟨q1, q2⟩ := packL_ok (packV_ok 40) hp
  obtain ⟨hm, hf, hts, hsym⟩ := findDef_some hd
  obtain ⟨t1, t2, t3, t4, t5⟩ := seeAll_step s.o.tabs s
  -- the call, under what is packed
  have call : ∀ {G : Nat → Prop} {B : Nat} {E : Env} {w : World} {args' : Array Value}, (∀ j, In s1.l j → G j) → Sat G B E s w → RelL E args args'.toList →
      ∃ E1, Sat G B E1 s1 w ∧ Ext B s1.w E E1 w w ∧ Calls theProg f args' w fun e w' => ∃ u, e = .returned u ∧ Below w.heap.size w w' ∧ Rel (pureEnv E1.ρ E1.δ (fun b => E1.K b ∨ (w.heap.size ≤ b ∧ b < w'.heap.size)) fun b => w'.heap[b]?) d.res u := by
    intro G B E w args' hG hs ha
    have htabs := tabsIn_ok hs htb fun g l hm => hG g (q1.l g (t5 g l hm))
    have hs0 : Sat G B E (seeAll s s.o.tabs) w := ⟨hs.inj, hs.lt, hs.base, hs.glob, by rw [t3]; exact hs.fresh, by rw [t2]; exact hs.fact, by rw [t1.o]; exact hs.orc, hs.prot, by rw [t1.o]; exact hs.defs⟩
    obtain ⟨E1, k1, k2, k3⟩ := q2 hG hs0 ha
    have htabs : TabsIn w s1.o.tabs := by rw [q1.o, t1.o]; exact htabs
    have hK := fun b hk => k1.prot b hk
    have hargs : RelL (pureEnv E1.ρ E1.δ E1.K fun b => w.heap[b]?) d.args args'.toList :=
      symL_ok (E := E1) (F := pureEnv E1.ρ E1.δ E1.K fun b => w.heap[b]?) ⟨rfl, rfl, fun _ h => h, fun b hk => (hK b hk).2.1⟩ hsym k3
    have hdef := k1.defs d hm
    unfold DefOk at hdef
    have hltN : f < opBase := by simpa using hlt
    rw [if_neg (by rw [hf]; intro h9; rw [h9] at hltN; exact absurd hltN (by unfold opBase catF; decide)), if_pos (by rw [hf]; exact hltN)] at hdef
    have hcall := hdef E1.K w args' (fun b hk => (hK b hk).1) htabs hargs
    rw [hf] at hcall
    exact ⟨E1, k1, k2, hcall⟩
  cases hfl : flatR d.res with
  | true =>
    rw [hfl, bi_true] at h
    cases h
    refine ⟨⟨fun j hj => (in_lor _ _ _).2 (.inl hj), fun _ h => h, fun h j hj => (in_lor _ _ _).2 (.inl (h j hj)), fun _ _ => rfl, rfl⟩, fun {G B E w args'} hG hs ha => ⟨entersB_ok hent args' w, callsIn_wide.2 ?_⟩⟩
    obtain ⟨E1, _, k2, hcall⟩ := call (fun j hj => hG j ((in_lor _ _ _).2 (.inr hj))) hs ha
    refine hcall.mono fun e w' he => ?_
    obtain ⟨u, rfl, hb, hu⟩ := he
    obtain ⟨m1, m2⟩ := hs.later hb
    exact ⟨E, u, rfl, flatR_rel (E := pureEnv E1.ρ E1.δ _ _) (by show E.ρ = E1.ρ; rw [k2.le.ρ]) hfl hu, ⟨m1.inj, m1.lt, m1.base, m1.glob, m1.fresh, m1.fact, m1.orc, m1.prot, m1.defs⟩, m2 _⟩
  | false =>
    rw [hfl, bi_false] at h
    cases h
    refine ⟨t1.trans q1, fun {G B E w args'} hG hs ha => ⟨entersB_ok hent args' w, callsIn_wide.2 ?_⟩⟩
    obtain ⟨E1, k1, k2, hcall⟩ := call hG hs ha
    refine hcall.mono fun e w' he => ?_
    obtain ⟨u, rfl, hb, hu⟩ := he
    obtain ⟨m1, m2⟩ := k1.kept hb
    refine ⟨E1.later w w', u, rfl, pure_rel (F := E1.later w w') ⟨rfl, rfl, fun _ h => h, fun _ _ => rfl⟩ hu, m1, k2.trans m2 fun j hj => hj⟩
end Ev
end Go.Proofs.YtnjpdipombnigaaGreatDoor
namespace Go.Proofs.YtnjpdipombnigaaGreatDoor
namespace Ev
open Go.RowKit

/-- A value as data. -/
inductive DV where
  | c (d : D)
  | agg (l : List D)
  | tup (l : List DV)
  deriving Inhabited
mutual
inductive ReprV (K : Nat → Prop) (hp : Nat → Option Obj) : DV → Value → Prop
  | c {d : D} {v : Value} (h : Repr K hp d v) : ReprV K hp (.c d) v
  | agg {l : List D} {a : Array Value} (h : ReprL K hp l a.toList) : ReprV K hp (.agg l) (.agg a)
  | tup {l : List DV} {a : Array Value} (h : ReprVL K hp l a.toList) : ReprV K hp (.tup l) (.tuple a)
inductive ReprVL (K : Nat → Prop) (hp : Nat → Option Obj) : List DV → List Value → Prop
  | nil : ReprVL K hp [] []
  | cons {d : DV} {v : Value} {l : List DV} {vs : List Value} (h : ReprV K hp d v) (t : ReprVL K hp l vs) : ReprVL K hp (d :: l) (v :: vs)
end
mutual
theorem ReprV.mono {K K' : Nat → Prop} {hp hp' : Nat → Option Obj} (hK : ∀ b, K b → K' b) (hh : ∀ b, K b → hp' b = hp b) : ∀ {d : DV} {u : Value}, ReprV K hp d u → ReprV K' hp' d u
  | _, _, .c h => .c (h.mono hK hh)
  | _, _, .agg h => .agg (h.mono hK hh)
  | _, _, .tup h => .tup (ReprVL.mono hK hh h)
theorem ReprVL.mono {K K' : Nat → Prop} {hp hp' : Nat → Option Obj} (hK : ∀ b, K b → K' b) (hh : ∀ b, K b → hp' b = hp b) : ∀ {d : List DV} {u : List Value}, ReprVL K hp d u → ReprVL K' hp' d u
  | _, _, .nil => .nil
  | _, _, .cons h t => .cons (ReprV.mono hK hh h) (ReprVL.mono hK hh t)
end
mutual
/-- A told cell is this data: whatever stands for the one stands for the other. -/
inductive IsD (ρ : Nat → Int) (δ : Nat → D) : AV → D → Prop
  | bool (b : Bool) : IsD ρ δ (.bool b) (.v (.bool b))
  | int (k : IntKind) (n : Int) : IsD ρ δ (.int k n) (.v (.int k n))
  | sint (k : IntKind) (e : SE) : IsD ρ δ (.sint k e) (.v (.int k (e.val ρ)))
  | str (s : List UInt8) : IsD ρ δ (.str s) (.v (.string ⟨s.toArray⟩))
  | nilptr : IsD ρ δ .nilptr (.v (.pointer none))
  | nilmap : IsD ρ δ .nilmap (.v (.map none))
  | nilslice : IsD ρ δ .nilslice (.v (.slice none 0 0))
  | nilFunc : IsD ρ δ .nilFunc (.v .nilFunc)
  | nilIface : IsD ρ δ .nilIface (.v .nilIface)
  | pstr (ps : List Pc) : IsD ρ δ (.pstr ps) (.v (.string ⟨(psVal ρ ps).toArray⟩))
  | opq (k : Nat) : IsD ρ δ (.opq k) (δ k)
  | psl0 : IsD ρ δ (.psl 0 []) (.sl 0 [])
  | psl {n z : Nat} {l : List AV} {ds : List D} (hn : l.length = n * z) (h : IsDL ρ δ l ds) : IsD ρ δ (.psl n l) (.sl n ds)
inductive IsDL (ρ : Nat → Int) (δ : Nat → D) : List AV → List D → Prop
  | nil : IsDL ρ δ [] []
  | cons {a : AV} {d : D} {l : List AV} {ds : List D} (h : IsD ρ δ a d) (t : IsDL ρ δ l ds) : IsDL ρ δ (a :: l) (d :: ds)
end
mutual
inductive IsV (ρ : Nat → Int) (δ : Nat → D) : AV → DV → Prop
  | c {a : AV} {d : D} (h : IsD ρ δ a d) : IsV ρ δ a (.c d)
  | agg {l : List AV} {ds : List D} (h : IsDL ρ δ l ds) : IsV ρ δ (.agg l) (.agg ds)
  | tup {l : List AV} {ds : List DV} (h : IsVL ρ δ l ds) : IsV ρ δ (.tuple l) (.tup ds)
inductive IsVL (ρ : Nat → Int) (δ : Nat → D) : List AV → List DV → Prop
  | nil : IsVL ρ δ [] []
  | cons {a : AV} {d : DV} {l : List AV} {ds : List DV} (h : IsV ρ δ a d) (t : IsVL ρ δ l ds) : IsVL ρ δ (a :: l) (d :: ds)
end
section
variable {ρ : Nat → Int} {δ : Nat → D} {K : Nat → Prop} {hp : Nat → Option Obj}
theorem relL_len {E : Env} : ∀ {l : List AV} {us : List Value}, RelL E l us → us.length = l.length
  | _, _, .nil => rfl
  | _, _, .cons _ t => by simp [relL_len t]
theorem reprL_len {K : Nat → Prop} {hp : Nat → Option Obj} : ∀ {l : List D} {us : List Value}, ReprL K hp l us → us.length = l.length
  | _, _, .nil => rfl
  | _, _, .cons _ t => by simp [reprL_len t]
theorem isDL_len : ∀ {l : List AV} {ds : List D}, IsDL ρ δ l ds → ds.length = l.length
  | _, _, .nil => rfl
  | _, _, .cons _ t => by simp [isDL_len t]
mutual
/-- From what is told to data. -/
theorem IsD.to : ∀ {a : AV} {d : D}, IsD ρ δ a d → ∀ {v : Value}, Rel (pureEnv ρ δ K hp) a v → Repr K hp d v
  | _, _, .bool _, _, .bool _ => .v rfl
  | _, _, .int _ _, _, .int _ _ => .v rfl
  | _, _, .sint _ _, _, .sint _ _ => .v rfl
  | _, _, .str _, _, .str _ => .v rfl
  | _, _, .nilptr, _, .nilptr => .v rfl
  | _, _, .nilmap, _, .nilmap => .v rfl
  | _, _, .nilslice, _, .nilslice => .v rfl
  | _, _, .nilFunc, _, .nilFunc => .v rfl
  | _, _, .nilIface, _, .nilIface => .v rfl
  | _, _, .pstr _, _, .pstr _ => .v rfl
  | _, _, .opq _, _, .opq h => h
  | _, _, .psl0, _, .psl0 => .nil
  | _, _, .psl0, _, .psl hb h1 h2 h3 h4 h5 => .sl hb h1 h2 h3 h4 (IsDL.to .nil h5)
  | _, _, .psl _ .nil, _, .psl0 => .nil
  | _, _, .psl _ hl, _, .psl hb h1 h2 h3 h4 h5 => .sl hb h1 h2 h3 h4 (IsDL.to hl h5)
theorem IsDL.to : ∀ {l : List AV} {ds : List D}, IsDL ρ δ l ds → ∀ {us : List Value}, RelL (pureEnv ρ δ K hp) l us → ReprL K hp ds us
  | _, _, .nil, _, .nil => .nil
  | _, _, .cons h t, _, .cons k m => .cons (IsD.to h k) (IsDL.to t m)
end
mutual
/-- From data to what is told. -/
theorem IsD.fro : ∀ {a : AV} {d : D}, IsD ρ δ a d → ∀ {v : Value}, Repr K hp d v → Rel (pureEnv ρ δ K hp) a v
  | _, _, .bool _, _, .v _ => .bool _
  | _, _, .int _ _, _, .v _ => .int _ _
  | _, _, .sint _ _, _, .v _ => .sint _ _
  | _, _, .str _, _, .v _ => .str _
  | _, _, .nilptr, _, .v _ => .nilptr
  | _, _, .nilmap, _, .v _ => .nilmap
  | _, _, .nilslice, _, .v _ => .nilslice
  | _, _, .nilFunc, _, .v _ => .nilFunc
  | _, _, .nilIface, _, .v _ => .nilIface
  | _, _, .pstr _, _, .v _ => .pstr _
  | _, _, .opq _, _, h => .opq h
  | _, _, .psl0, _, .nil => .psl0
  | _, _, .psl0, _, .sl hb h1 h2 h3 h4 h5 => .psl hb h1 h2 h3 h4 (IsDL.fro .nil h5)
  | _, _, .psl _ .nil, _, .nil => .psl0
  | _, _, .psl _ hl, _, .sl hb h1 h2 h3 h4 h5 => .psl hb h1 h2 h3 h4 (IsDL.fro hl h5)
theorem IsDL.fro : ∀ {l : List AV} {ds : List D}, IsDL ρ δ l ds → ∀ {us : List Value}, ReprL K hp ds us → RelL (pureEnv ρ δ K hp) l us
  | _, _, .nil, _, .nil => .nil
  | _, _, .cons h t, _, .cons k m => .cons (IsD.fro h k) (IsDL.fro t m)
end
mutual
theorem IsV.to : ∀ {a : AV} {d : DV}, IsV ρ δ a d → ∀ {v : Value}, Rel (pureEnv ρ δ K hp) a v → ReprV K hp d v
  | _, _, .c h, _, k => .c (h.to k)
  | _, _, .agg h, _, .agg k => .agg (h.to k)
  | _, _, .tup h, _, .tuple k => .tup (IsVL.to h k)
theorem IsVL.to : ∀ {l : List AV} {ds : List DV}, IsVL ρ δ l ds → ∀ {us : List Value}, RelL (pureEnv ρ δ K hp) l us → ReprVL K hp ds us
  | _, _, .nil, _, .nil => .nil
  | _, _, .cons h t, _, .cons k m => .cons (IsV.to h k) (IsVL.to t m)
end
mutual
theorem IsV.fro : ∀ {a : AV} {d : DV}, IsV ρ δ a d → ∀ {v : Value}, ReprV K hp d v → Rel (pureEnv ρ δ K hp) a v
  | _, _, .c h, _, .c k => h.fro k
  | _, _, .agg h, _, .agg k => .agg (h.fro k)
  | _, _, .tup h, _, .tup k => .tuple (IsVL.fro h k)
theorem IsVL.fro : ∀ {l : List AV} {ds : List DV}, IsVL ρ δ l ds → ∀ {us : List Value}, ReprVL K hp ds us → RelL (pureEnv ρ δ K hp) l us
  | _, _, .nil, _, .nil => .nil
  | _, _, .cons h t, _, .cons k m => .cons (IsV.fro h k) (IsVL.fro t m)
end
/-- A function, called on this data, comes to that data. -/
def FunD (tabs : List (Nat × List AV)) (f : FuncId) (a : List DV) (r : DV) : Prop := ∀ (K : Nat → Prop) (w : World) (vs : Array Value), (∀ b, K b → b < w.heap.size) → TabsIn w tabs → ReprVL K (fun b => w.heap[b]?) a vs.toList →
  Calls theProg f vs w fun e w' => ∃ u, e = .returned u ∧ Below w.heap.size w w' ∧ ReprV (fun b => K b ∨ (w.heap.size ≤ b ∧ b < w'.heap.size)) (fun b => w'.heap[b]?) r u
/-- As what is looked up by a run. -/
theorem defOk_of {tabs : List (Nat × List AV)} {f : FuncId} {a : List DV} {r : DV} (h : FunD tabs f a r) {args : List AV} {res : AV} (hf : f < opBase) (ha : IsVL ρ δ args a) (hr : IsV ρ δ res r) : DefOk tabs ρ δ ⟨f, [], args, res⟩ := by
  unfold DefOk
  rw [if_neg (fun h9 => by rw [show f = catF from h9] at hf; exact absurd hf (by unfold opBase catF; decide)), if_pos hf]
  intro K w vs hK ht hv
  refine (h K w vs hK ht (ha.to hv)).mono ?_
  rintro e w' ⟨u, rfl, hb, hu⟩
  exact ⟨u, rfl, hb, hr.fro hu⟩
/-- The start: the tables, what is taken for decided, what is told. -/
noncomputable def orcD (tabs : List (Nat × List AV)) (fs : List Fact) (ds : List Def) : Orc := ⟨(orcI fs).eq, (orcI fs).lt, (orcI fs).small, (orcI fs).wrap, (orcI fs).bin, ds, tabs⟩
noncomputable def startD (c : Nat) (tabs : List (Nat × List AV)) (fs : List Fact) (ds : List Def) : St := ⟨c, initH tabs, nat_lit 0, nat_lit 0, orcD tabs fs ds⟩
theorem orcD_ok {tabs : List (Nat × List AV)} {fs : List Fact} {ds : List Def} (hf : ∀ f ∈ fs, f.holds ρ) : OrcOk (orcD tabs fs ds) ρ :=
  have h := orcI_ok hf
  ⟨h.eq, h.lt, h.small, h.wrap, h.bin⟩
def envD (ρ : Nat → Int) (δ : Nat → D) (K : Nat → Prop) (hp : Nat → Option Obj) (l : List (Nat × List AV)) : Env := ⟨(env0 ρ l).slot, ρ, fun _ => Stamps.same, δ, K, hp⟩
theorem satD {w : World} {tabs : List (Nat × List AV)} (ok : TabsIn w tabs) {fs : List Fact} {ds : List Def} (hf : ∀ f ∈ fs, f.holds ρ) (hd : ∀ d ∈ ds, DefOk tabs ρ δ d) (hK : ∀ b, K b → b < w.heap.size) {c : Nat} (hc : 64 ≤ c) :
    Sat (fun _ => True) w.heap.size (envD ρ δ K (fun b => w.heap[b]?) tabs) (startD c tabs fs ds) w := by
  have h := satC ok (O := orcI fs) (orcI_ok hf) hc
  refine ⟨h.inj, h.lt, h.base, h.glob, h.fresh, fun i o hg ho => ?_, orcD_ok hf, fun b hb => ⟨hK b hb, rfl, fun j C hj => h.lt j b C hj⟩, hd⟩
  obtain ⟨vs, hm, rfl⟩ := initH_get (show (initH tabs).get i = some o from ho)
  obtain ⟨hlt, c', e, f, hh, hr⟩ := ok _ _ hm
  refine ⟨i, 0, _, ?_, hh, ⟨c', e, f, rfl, hr _⟩, .inl rfl⟩
  show env0 ρ tabs i = _
  simp only [env0]
  rw [if_pos hlt, if_pos]
  exact List.any_eq_true.2 ⟨(i, vs), hm, by simp⟩
/-- Some functions are looked up. -/
noncomputable def ctrL (P : Program) : List FuncId → Ctr
  | [] => fun _ => none
  | f :: l => fun g => bi (Nat.beq f g) (some (defA P g)) (ctrL P l g)
theorem ctrL_ok : ∀ (l : List FuncId), CtrOk theProg (ctrL theProg l)
  | [] => fun _ _ h => by cases h
  | f :: l => by
    intro f' g hf args s v s' hg
    have hf' : bi (Nat.beq f f') (some (defA theProg f')) (ctrL theProg l f') = some g := hf
    cases hb : Nat.beq f f' with
    | true =>
      rw [hb, bi_true] at hf'
      rw [← Option.some.inj hf'] at hg
      exact defA_ok f' hg
    | false =>
      rw [hb, bi_false] at hf'
      exact ctrL_ok l f' g hf' hg
/-- What a run has come to, given out of hand, is that. -/
noncomputable def retD (P : Program) (res : AV) (x : R) : Bool := match x with
  | some (v, s) => match packV P (nat_lit 40) v s with
    | some (v, _) => symV (nat_lit 40) res v
    | none => false
  | none => false
theorem retD_some {P : Program} {res : AV} {x : R} (h : retD P res x = true) : ∃ v s v' s', x = some (v, s) ∧ packV P 40 v s = some (v', s') ∧ symV 40 res v' = true := by
  unfold retD at h
  split at h
  · rename_i v s
    split at h
    · rename_i v' s' hp
      exact ⟨v, s, v', s', rfl, hp, h⟩
    · cases h
  · cases h
/-- A function without loops over data: by a run. -/
theorem funD_run {tabs : List (Nat × List AV)} {fl : List FuncId} {n c : Nat} {f : FuncId} {args : List AV} {res : AV} {fs : List Fact} {ds : List Def} {a : List DV} {r : DV} (hmix : theProg.follows .mixedOrders = true) (hnames : (theProg.funcs.toList.all fun fn => fn.name != "runtime.NumGoroutine") = true) (hc : 64 ≤ c)
    (hrun : retD theProg res ((ev theProg (ctrL theProg fl) n).call f args (startD c tabs fs ds)) = true) (hf : ∀ f ∈ fs, f.holds ρ) (hd : ∀ d ∈ ds, DefOk tabs ρ δ d) (ha : IsVL ρ δ args a) (hr : IsV ρ δ res r) : FunD tabs f a r := by
  intro K w vs hK ht hv
  obtain ⟨v, s, v', s', h1, h2, h3⟩ := retD_some hrun
  have hs := satD (K := K) ht hf hd hK hc
  have hargs : RelL (envD ρ δ K (fun b => w.heap[b]?) tabs) args vs.toList := pure_relL (F := envD ρ δ K (fun b => w.heap[b]?) tabs) ⟨rfl, rfl, fun _ h => h, fun _ _ => rfl⟩ (ha.fro hv)
  have hcall := ((ev_ok hmix (ctrL_ok fl) (names_of hnames) n).call h1).2 (fun _ _ => trivial) hs hargs
  refine (callsIn_wide.1 hcall.2).mono ?_
  rintro e w' ⟨E', u, rfl, hu, hs', hx⟩
  obtain ⟨_, q2⟩ := packV_ok (P := theProg) 40 h2
  obtain ⟨E2, m1, m2, m3⟩ := q2 (fun _ _ => trivial) hs' hu
  refine ⟨u, rfl, hx.below, ?_⟩
  obtain ⟨qs, _⟩ := packV_ok (P := theProg) 40 h2
  have hx2 := hx.trans m2 qs.w
  have h4 : Rel (pureEnv ρ δ E2.K fun b => w'.heap[b]?) res u := symV_ok (E := E2) (F := pureEnv ρ δ E2.K fun b => w'.heap[b]?) ⟨hx2.le.ρ.symm, hx2.le.δ.symm, fun _ h => h, fun b hk => (m1.prot b hk).2.1⟩ 40 _ _ _ h3 m3
  refine (hr.to h4).mono (fun b hb => ?_) (fun _ _ => rfl)
  rcases hx2.kn b hb with h5 | h5
  · exact .inl h5
  · exact .inr ⟨h5, (m1.prot b hb).1⟩
end
end Ev
end Go.Proofs.YtnjpdipombnigaaGreatDoor
namespace Go.Proofs.YtnjpdipombnigaaGreatDoor
namespace Ev
open Go.RowKit

/-- In a template, under this data; nothing older than the call is changed, what was kept is kept. -/
def InS (tabs : List (Nat × List AV)) (K0 : Nat → Prop) (w0 : World) (ρ : Nat → Int) (δ : Nat → D) (nt : Nat) (t : Tm) (ac : Act) (w : World) : Prop :=
  ∃ E : Env, E.ρ = ρ ∧ E.δ = δ ∧ Sat (fun _ => True) w0.heap.size E (t.st tabs) w ∧ FRel E nt t.fr ac ∧ (∀ b, K0 b → E.K b) ∧ (∀ b, E.K b → K0 b ∨ w0.heap.size ≤ b) ∧ Below w0.heap.size w0 w
/-- From the template, under this data, to another one, under that: a text's run. -/
def Leads (tabs : List (Nat × List AV)) (nt : Nat) (x : Code) (t : Tm) (ρ : Nat → Int) (δ : Nat → D) (e : Exit) (t' : Tm) (ρ' : Nat → Int) (δ' : Nat → D) : Prop :=
  ∀ {K0 : Nat → Prop} {w0 : World} {ac : Act} {w : World} {Q : Exit → Act → World → Prop}, InS tabs K0 w0 ρ δ nt t ac w → (∀ ac' w', InS tabs K0 w0 ρ' δ' nt t' ac' w' → Q e ac' w') → x.wpIn Fence.wide 0 theProg Q ac w
/-- The template's state, with what is told. -/
noncomputable def Tm.stD (t : Tm) (tabs : List (Nat × List AV)) (ds : List Def) : St := ⟨t.c, putsL (initH tabs) t.objs, nat_lit 0, nat_lit 0, orcD tabs t.fs ds⟩
theorem satTold {G : Nat → Prop} {B : Nat} {E : Env} {w : World} {t : Tm} {tabs : List (Nat × List AV)} {ds : List Def} (hs : Sat G B E (t.st tabs) w) (hd : ∀ d ∈ ds, DefOk tabs E.ρ E.δ d) : Sat G B E (t.stD tabs ds) w :=
  ⟨hs.inj, hs.lt, hs.base, hs.glob, hs.fresh, hs.fact, ⟨hs.orc.eq, hs.orc.lt, hs.orc.small, hs.orc.wrap, hs.orc.bin⟩, hs.prot, hd⟩
/-- The data behind a part. -/
noncomputable def instδ (I : Inst) (ρ : Nat → Int) (δ : Nat → D) : Nat → D := fun k => match lookDT k I.ds with | some t => dtV ρ δ t | none => δ k
/-- A part, by a run: one way, of that end, to that template. -/
theorem leads_run {tabs : List (Nat × List AV)} {fl : List FuncId} {n nt : Nat} {x : Code} {t t' : Tm} {ds : List Def} {I : Inst} {e : AX} {ρ : Nat → Int} {δ : Nat → D} (hmix : theProg.follows .mixedOrders = true) (hnames : (theProg.funcs.toList.all fun fn => fn.name != "runtime.NumGoroutine") = true)
    (hrun : wayChk ((ev theProg (ctrL theProg fl) n).code nt none x t.fr (t.stD tabs ds)) (fun a => match a, e with | .normal, .normal => true | .exit i, .exit j => Nat.beq i j | .ret, .ret => true | _, _ => false) I tabs t' = true) (hd : ∀ d ∈ ds, DefOk tabs ρ δ d) :
    Leads tabs nt x t ρ δ e.out t' (instρ I ρ) (instδ I ρ δ) := by
  intro K0 w0 ac w Q hin hQ
  obtain ⟨E, rfl, rfl, hs, hf, hk, hk2, hb⟩ := hin
  unfold wayChk at hrun
  split at hrun
  case h_2 => cases hrun
  rename_i e1 fr s hx
  rw [Bool.and_eq_true] at hrun
  obtain ⟨h1, h2⟩ := hrun
  obtain ⟨fr', s', he, k2, k3, k4, k5⟩ := endChk_ok h2
  cases he
  have he1 : e1 = e := by
    cases e1 <;> cases e <;> first | rfl | (cases h1; done) | (rw [Nat.eq_of_beq_eq_true h1])
  subst he1
  have hr := ev_ok hmix (ctrL_ok fl) (names_of hnames) n
  obtain ⟨_, _, p2⟩ := hr.code hx
  refine (p2 (rb := none) (fun _ _ _ _ => trivial) (satTold hs hd) hf rfl fun b hb' E' ac' w' hf' hs' hx' => ?_).1
  rw [List.mem_singleton] at hb'
  subst hb'
  refine hQ ac' w' ⟨instEnv I E', ?_, ?_, inst_ok hs' k3 k4, ⟨instT_ok hs'.orc (instChk_str k4) k5 hf'.1, by rw [relM_of hf'.2 k2]; exact .nil⟩, fun b hb => hx'.le.K b (hk b hb), fun b hb => ?_, hb.trans hx'.below⟩
  · show instρ I E'.ρ = instρ I E.ρ
    rw [hx'.le.ρ]
  · show (fun k => match lookDT k I.ds with | some t => dtV E'.ρ E'.δ t | none => E'.δ k) = instδ I E.ρ E.δ
    rw [hx'.le.ρ, hx'.le.δ]
    rfl
  · rcases hx'.kn b hb with h3 | h3
    · exact hk2 b h3
    · exact .inr h3
/-- Behind each other. -/
theorem leads_seq {tabs : List (Nat × List AV)} {nt : Nat} {x y : Code} {t t1 t2 : Tm} {ρ ρ1 ρ2 : Nat → Int} {δ δ1 δ2 : Nat → D} {e : Exit} (h : Leads tabs nt x t ρ δ .normal t1 ρ1 δ1) (k : Leads tabs nt y t1 ρ1 δ1 e t2 ρ2 δ2) : Leads tabs nt (.seq x y) t ρ δ e t2 ρ2 δ2 :=
  fun hin hQ => wpIn_seq (h hin fun _ _ h1 => k h1 hQ)
/-- A loop's rounds: so many, each of its own template and data, the last one by an exit. -/
structure RState where
  t : Tm
  ρ : Nat → Int
  δ : Nat → D
/-- A loop comes to its end: a measure falls. -/
theorem leads_loop {tabs : List (Nat × List AV)} {nt : Nat} {x : Code} {id : Nat} {A : RState → Prop} {μ : RState → Nat} {Z : RState → RState → Prop}
    (hstep : ∀ σ, A σ → (∃ σ', A σ' ∧ μ σ' < μ σ ∧ (∀ z, Z σ' z → Z σ z) ∧ Leads tabs nt x σ.t σ.ρ σ.δ .normal σ'.t σ'.ρ σ'.δ) ∨ (∃ z, Z σ z ∧ Leads tabs nt x σ.t σ.ρ σ.δ (.exit id) z.t z.ρ z.δ)) :
    ∀ σ, A σ → ∃ z, Z σ z ∧ Leads tabs nt (.block id (.loop x)) σ.t σ.ρ σ.δ .normal z.t z.ρ z.δ := by
  have key : ∀ (m : Nat) (σ : RState), μ σ < m → A σ → ∃ z, Z σ z ∧ ∀ {K0 : Nat → Prop} {w0 : World} {ac : Act} {w : World} {Q : Exit → Act → World → Prop}, InS tabs K0 w0 σ.ρ σ.δ nt σ.t ac w → (∀ ac' w', InS tabs K0 w0 z.ρ z.δ nt z.t ac' w' → Q (.exit id) ac' w') → Code.roundsIn Fence.wide 0 theProg x Q m ac w := by
    intro m
    induction m with
    | zero => intro σ h; omega
    | succ m ih =>
      intro σ hm hA
      rcases hstep σ hA with ⟨σ', h1, h2, h3, h4⟩ | ⟨z, h1, h2⟩
      · obtain ⟨z, k1, k2⟩ := ih σ' (by omega) h1
        exact ⟨z, h3 z k1, fun hin hQ => h4 hin fun ac' w' hin' => k2 hin' hQ⟩
      · exact ⟨z, h1, fun hin hQ => h2 hin fun ac' w' hin' => hQ ac' w' hin'⟩
  intro σ hA
  obtain ⟨z, h1, h2⟩ := key (μ σ + 1) σ (by omega) hA
  refine ⟨z, h1, fun hin hQ => ?_⟩
  refine wpIn_block (wpIn_loop_rounds (μ σ + 1) (h2 hin fun ac' w' hin' => ?_))
  show Exit.inBlock id _ (.exit id) ac' w'
  simp only [Exit.inBlock, if_true]
  exact hQ ac' w' hin'
end Ev
end Go.Proofs.YtnjpdipombnigaaGreatDoor
