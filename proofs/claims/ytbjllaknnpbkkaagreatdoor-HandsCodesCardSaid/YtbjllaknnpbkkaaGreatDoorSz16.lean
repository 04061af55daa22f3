/-
  The evaluator: every operation.
-/
import Derived.Test.YtbjllaknnpbkkaaGreatDoorSz15
import Derived.Laws.Externs
import Derived.Lib.Bytealg
import Derived.KernelRfl
namespace Go.Proofs.YtbjllaknnpbkkaaGreatDoor
namespace Ev
open Go.RowKit

def fen (ro : Option Nat) : Fence := { Fence.wide with round := ro }
theorem fen_none : fen none = Fence.wide := rfl
theorem fen_fn (ro : Option Nat) (f : FuncId) : (fen ro).fn f := trivial
theorem fen_depth (ro : Option Nat) : (fen ro).depth = none := rfl
theorem fen_room (ro : Option Nat) (n : Nat) : (fen ro).room n := fun _ h => by simp [fen, Fence.wide] at h

/-- A call has returned so. -/
def RetOk (G : Nat → Prop) (B : Nat) (s' : St) (v : AV) (E : Env) (w : World) (e : Ending) (w' : World) : Prop :=
  ∃ E' v', e = .returned v' ∧ Rel E' v v' ∧ Sat G B E' s' w' ∧ Ext B s'.w E E' w w'
/-- A call of a function with a body: it is entered. -/
def CallRes (P : Program) (f : FuncId) (args : Array Value) (w : World) (R : Ending → World → Prop) : Prop :=
  (callFunc f args).run P w = .ok (.enter f args) w ∧ CallsIn Fence.wide 0 P f args w R
def CallOk (P : Program) (call : FuncId → List AV → St → R) : Prop :=
  ∀ {f : FuncId} {args : List AV} {s : St} {v : AV} {s' : St}, call f args s = some (v, s') → Step s s' ∧ ∀ {G : Nat → Prop} {B : Nat} {E : Env} {w : World} {args' : Array Value}, (∀ j, In s'.l j → G j) → Sat G B E s w → RelL E args args'.toList →
    CallRes P f args' w (RetOk G B s' v E w)
def YieldOk (P : Program) (yld : Nat → List AV → St → R) : Prop :=
  ∀ {l : Nat} {args : List AV} {s : St} {v : AV} {s' : St}, yld l args s = some (v, s') → Step s s' ∧ ∀ {G : Nat → Prop} {B : Nat} {E : Env} {w : World} {args' : Array Value} {b : Nat}, (∀ j, In s'.l j → G j) → Sat G B E s w → RelL E args args'.toList → (E l).at b →
    ∃ fn tmps as bo, (Instr.yield b args').run P w = .ok (.round b fn tmps as bo) w ∧ RoundIn Fence.wide 0 P b fn tmps as bo w (RetOk G B s' v E w)

section
variable {P : Program} {G : Nat → Prop} {B : Nat} {E : Env} {s s' : St} {w : World} {v : AV} {o : Oper} {ac : Act} {ro : Option Nat} {K : Act → World → Prop} {Q : Exit → Act → World → Prop}

theorem wpIn_value {m : Sem Value} (hsem : o.semAt ro ac.eval = (do pure (.value (← m)))) (h : Ok1 P G B s' v E w m) (hK : ∀ E' v' w', Rel E' v v' → Sat G B E' s' w' → Ext B s'.w E E' w w' → K (ac.put o.dst v') w') : o.wpIn (fen ro) 0 P ac w K Q := by
  obtain ⟨E', v', w', hrun, h1, h2, h3⟩ := h
  refine ⟨fun f _ => fen_fn ro f, ?_⟩
  show o.uponIn (fen ro) 0 P ac K Q ((o.semAt ro ac.eval).run P w)
  rw [hsem]
  simp only [Sem.run_bind, hrun, Result.andThen_ok, Sem.run_pure, Oper.uponIn_value]
  exact hK E' v' w' h1 h2 h3
theorem wpIn_unit {m : Sem Unit} (hsem : o.semAt ro ac.eval = (do m; pure .skip)) (hv : v = undefA) (h : ∃ w', m.run P w = .ok () w' ∧ Sat G B E s' w' ∧ Ext B s'.w E E w w') (hK : ∀ E' v' w', Rel E' v v' → Sat G B E' s' w' → Ext B s'.w E E' w w' → K (ac.put o.dst v') w') : o.wpIn (fen ro) 0 P ac w K Q := by
  obtain ⟨w', hrun, h2, h3⟩ := h
  refine ⟨fun f _ => fen_fn ro f, ?_⟩
  show o.uponIn (fen ro) 0 P ac K Q ((o.semAt ro ac.eval).run P w)
  rw [hsem]
  simp only [Sem.run_bind, hrun, Result.andThen_ok, Sem.run_pure, Oper.uponIn_skip]
  exact hK E undef w' (by rw [hv]; exact .tuple .nil) h2 h3
theorem wpIn_call {f : FuncId} {args : Array Value} (hsem : (o.semAt ro ac.eval).run P w = (callFunc f args).run P w) (h : CallRes P f args w (RetOk G B s' v E w)) (hK : ∀ E' v' w', Rel E' v v' → Sat G B E' s' w' → Ext B s'.w E E' w w' → K (ac.put o.dst v') w') : o.wpIn (fen ro) 0 P ac w K Q := by
  refine ⟨fun f _ => fen_fn ro f, ?_⟩
  show o.uponIn (fen ro) 0 P ac K Q ((o.semAt ro ac.eval).run P w)
  rw [hsem]
  obtain ⟨h1, h2⟩ := h
  rw [h1, Oper.uponIn_enter]
  refine ⟨fun h => by simp [fen, Fence.wide] at h, ?_⟩
  have h2' : CallsIn (fen ro) (0 - 1) P f args w (RetOk G B s' v E w) := h2
  refine h2'.mono fun e w' he => ?_
  obtain ⟨E', v', rfl, q1, q2, q3⟩ := he
  exact hK E' v' w' q1 q2 q3
theorem wpIn_round {b fn : Nat} {tmps : Array Value} {as bo : Code} (hsem : (o.semAt ro ac.eval).run P w = .ok (.round b fn tmps as bo) w) (h : RoundIn Fence.wide 0 P b fn tmps as bo w (RetOk G B s' v E w)) (hK : ∀ E' v' w', Rel E' v v' → Sat G B E' s' w' → Ext B s'.w E E' w w' → K (ac.put o.dst v') w') : o.wpIn (fen ro) 0 P ac w K Q := by
  refine ⟨fun f _ => fen_fn ro f, ?_⟩
  show o.uponIn (fen ro) 0 P ac K Q ((o.semAt ro ac.eval).run P w)
  rw [hsem, Oper.uponIn_round]
  refine ⟨fun h => by simp [fen, Fence.wide] at h, ?_⟩
  have h2' : RoundIn (fen ro) (0 - 1) P b fn tmps as bo w (RetOk G B s' v E w) := h
  refine h2'.mono fun e w' he => ?_
  obtain ⟨E', v', rfl, q1, q2, q3⟩ := he
  exact hK E' v' w' q1 q2 q3
end

/-- A function without a body: done at once. -/
def ExtOk (P : Program) (f : FuncId) (args : List AV) (s : St) (v : AV) (s' : St) : Prop :=
  Step s s' ∧ ∀ {G : Nat → Prop} {B : Nat} {E : Env} {w : World} {args' : Array Value}, (∀ j, In s'.l j → G j) → Sat G B E s w → RelL E args args'.toList → ∃ E' v' w', (callFunc f args').run P w = .ok (.value v') w' ∧ Rel E' v v' ∧ Sat G B E' s' w' ∧ Ext B s'.w E E' w w'
section
variable {P : Program} {f : FuncId} {args : List AV} {s s' : St} {v : AV}
theorem extK_some {k : Nat} (h : extK P f = k) (h2 : 2 ≤ k) : ∃ fn, P.funcs[f]? = some fn ∧ fn.body = none ∧ Extern.findNext fn = none ∧ ((k = 2 ∧ fn.name = "maps.clone") ∨ (k = 3 ∧ fn.name = "internal/bytealg.IndexByteString") ∨ (k = 4 ∧ fn.name = "internal/abi.NoEscape")) := by
  unfold extK at h
  split at h
  · rename_i fn hfn
    split at h
    · subst h; exact absurd h2 (by decide)
    · rename_i hb
      cases hn : (Extern.findNext fn).isNone with
      | false => rw [hn, bi_false] at h; subst h; exact absurd h2 (by decide)
      | true =>
        rw [hn, bi_true] at h
        refine ⟨fn, hfn, hb, by simpa using hn, ?_⟩
        cases h1 : fn.name == "maps.clone" with
        | true => rw [h1, bi_true] at h; exact .inl ⟨h.symm, by simpa using h1⟩
        | false =>
          rw [h1, bi_false] at h
          cases h3 : fn.name == "internal/bytealg.IndexByteString" with
          | true => rw [h3, bi_true] at h; exact .inr (.inl ⟨h.symm, by simpa using h3⟩)
          | false =>
            rw [h3, bi_false] at h
            cases h4 : fn.name == "internal/abi.NoEscape" with
            | true => rw [h4, bi_true] at h; exact .inr (.inr ⟨h.symm, by simpa using h4⟩)
            | false => rw [h4, bi_false] at h; subst h; exact absurd h2 (by decide)
  · subst h; exact absurd h2 (by decide)
theorem find_of {fn : Func} {n : String} {e : Array Value → Sem Value} (hn : fn.name = n) (h1 : Extern.allGenericRows.lookup n = none) (h2 : Extern.allTypedRows.lookup n = none) (h3 : Extern.allRows.lookup n = some e) : Extern.find fn = some e := by
  subst hn
  simp [Extern.find, h1, h2, h3]
theorem clone_run {r : Nat} {es : Array MapEntry} {clock : Nat} {w : World} (t : TypeId) (hb : w.heap[r]? = some (.map es clock)) :
    (Extern.MapsClone.clone #[.iface t (.map (some r))]).run P w = .ok (.iface t (.map (some w.heap.size))) (w.alloc (.map es clock)) := by
  have e : Extern.MapsClone.clone #[.iface t (.map (some r))] = (getObj r >>= fun o => match o with
      | .map entries clock => (newObj (.map entries clock) >>= fun n => pure (.iface t (.map (some n))))
      | _ => stuck "maps.clone: a map expected") := rfl
  rw [e]
  simp [run_getObj_of hb (fun _ _ _ h => by cases h)]
theorem cloneA_ok (hk : extK P f = 2) (h : cloneA args s = some (v, s')) : ExtOk P f args s v s' := by
  obtain ⟨fn, hfn, hb, hn, hor⟩ := extK_some hk (by decide)
  have hname : fn.name = "maps.clone" := by
    rcases hor with ⟨_, h⟩ | ⟨h, _⟩ | ⟨h, _⟩
    · exact h
    · exact absurd h (by decide)
    · exact absurd h (by decide)
  unfold cloneA at h
  split at h <;> first | (cases h; done) | skip
  rename_i t i
  obtain ⟨o, ho, h1⟩ := oc_some h
  rcases mapU_some h1 with ⟨es, clock, rfl, h2⟩ | ⟨es, K, q, rfl, h2⟩
  · skip
    cases h2
    refine ⟨(Step.see _ _).trans (Step.new _ _), fun {G B E w args'} hG hs ha => ?_⟩
    obtain ⟨args'⟩ := args'
    cases ha
    rename_i y l' hy ht
    cases ht
    cases hy
    rename_i v' hv
    cases hv
    rename_i b hb'
    have hgi : G i := hG _ ((Step.new _ _).l _ (in_see _ _))
    obtain ⟨C, a, he, hh, hr⟩ := hs.map hgi ho hb'
    have hgn : G s.c := hG _ (in_new (s.see i) _)
    have hle : E.le (E.set s.c (.live w.heap.size 0)) := Env.set_le _ _ _ (by rw [hs.fresh s.c (Nat.le_refl _) hgn]; trivial)
    obtain ⟨k1, k2⟩ := (hs.seen i).new (o := .map es clock) (ob := .map a clock) (C := 0) hgn rfl ⟨a, rfl, hr.mono hle⟩
    refine ⟨_, .iface t (.map (some w.heap.size)), _, ?_, .iface (.map (by rw [show (s.see i).c = s.c from rfl, Env.set_same]; rfl)), k1, k2⟩
    rw [run_callFunc_extern hfn (by rw [hname]; decide) (by rw [hb]; rfl) hn (find_of hname (by kernel_rfl) (by kernel_rfl) (show _ = some Extern.MapsClone.clone by kernel_rfl)), clone_run t hh]
    rfl
  cases h2
  refine ⟨(Step.see _ _).trans (Step.new _ _), fun {G B E w args'} hG hs ha => ?_⟩
  obtain ⟨args'⟩ := args'
  cases ha
  rename_i y l' hy ht
  cases ht
  cases hy
  rename_i v' hv
  cases hv
  rename_i b hb'
  have hgi : G i := hG _ ((Step.new _ _).l _ (in_see _ _))
  obtain ⟨C, a, he, hh, hr⟩ := hs.umap hgi ho hb'
  have hgn : G s.c := hG _ (in_new (s.see i) _)
  have hle : E.le (E.set s.c (.live w.heap.size 0)) := Env.set_le _ _ _ (by rw [hs.fresh s.c (Nat.le_refl _) hgn]; trivial)
  obtain ⟨k1, k2⟩ := (hs.seen i).new (o := .umap es K q) (ob := .map a ((E.st q).f K)) (C := 0) hgn rfl ⟨a, rfl, hr.mono hle⟩
  refine ⟨_, .iface t (.map (some w.heap.size)), _, ?_, .iface (.map (by rw [show (s.see i).c = s.c from rfl, Env.set_same]; rfl)), k1, k2⟩
  rw [run_callFunc_extern hfn (by rw [hname]; decide) (by rw [hb]; rfl) hn (find_of hname (by kernel_rfl) (by kernel_rfl) (show _ = some Extern.MapsClone.clone by kernel_rfl)), clone_run t hh]
  rfl
theorem indexFrom_eq (c : UInt8) : ∀ (l : List UInt8) (i : Nat), indexFrom c.toNat i l = if Lib.indexByte l c = -1 then -1 else (i : Int) + Lib.indexByte l c
  | [], i => rfl
  | b :: l, i => by
    have ih := indexFrom_eq c l (i + 1)
    have hge := Lib.indexByte_ge l c
    have e1 : indexFrom c.toNat i (b :: l) = if b = c then (i : Int) else indexFrom c.toNat (i + 1) l := by
      simp only [indexFrom]
      split
      · rename_i hb
        rw [if_pos (UInt8.toNat_inj.1 (by simpa using hb))]; rfl
      · rename_i hb
        rw [if_neg (fun e => by subst e; simp at hb)]
    have e2 : Lib.indexByte (b :: l) c = if b = c then 0 else if Lib.indexByte l c = -1 then -1 else Lib.indexByte l c + 1 := by
      simp [Lib.indexByte]
    rw [e1, e2, ih]
    by_cases hb : b = c
    · simp [hb]
    · simp only [hb, if_false]
      by_cases h1 : Lib.indexByte l c = -1
      · simp [h1]
      · have h2 : Lib.indexByte l c + 1 ≠ -1 := by omega
        simp only [h1, h2, if_false]
        omega
theorem indexByteA_ok (hk : extK P f = 3) (h : indexByteA args s = some (v, s')) : ExtOk P f args s v s' := by
  obtain ⟨fn, hfn, hb, hn, hor⟩ := extK_some hk (by decide)
  have hname : fn.name = "internal/bytealg.IndexByteString" := by
    rcases hor with ⟨h, _⟩ | ⟨_, h⟩ | ⟨h, _⟩
    · exact absurd h (by decide)
    · exact h
    · exact absurd h (by decide)
  unfold indexByteA at h
  split at h <;> first | (cases h; done) | skip
  rename_i l n
  obtain ⟨c, hc, h1⟩ := oc_some h
  obtain ⟨hlt, h2⟩ := bc_some h1
  cases h2
  have hlt' : c < 256 := by simpa using hlt
  have hn' := natOf_some hc
  subst hn'
  refine ⟨Step.refl _, fun {G B E w args'} hG hs ha => ?_⟩
  obtain ⟨args'⟩ := args'
  cases ha
  rename_i y l' hy ht
  cases ht
  rename_i y2 l2 hy2 ht2
  cases ht2
  cases hy
  cases hy2
  refine ⟨E, .int .i64 (indexFrom c 0 l), w, ?_, .int _ _, hs, Ext.refl _ _ _ _⟩
  rw [run_callFunc_extern hfn (by rw [hname]; decide) (by rw [hb]; rfl) hn (find_of hname (by kernel_rfl) (by kernel_rfl) (show _ = some Extern.BytealgIndexByte.indexByte by kernel_rfl)), run_indexByte_string]
  simp only [Result.andThen_ok, Lib.firstIdx_eq]
  have e := indexFrom_eq (UInt8.ofNat c) l 0
  have hc' : (UInt8.ofNat c).toNat = c := by simp [UInt8.toNat_ofNat']; omega
  rw [hc'] at e
  have hc2 : ((c : Int).toNat.toUInt8) = UInt8.ofNat c := by simp
  rw [e, hc2]
  show Result.ok (Next.value (.int .i64 (Lib.indexByte l (UInt8.ofNat c)))) w = _
  congr 3
  split
  · rename_i h; exact h
  · simp
theorem sameA_ok (hk : extK P f = 4) (h : sameA args s = some (v, s')) : ExtOk P f args s v s' := by
  obtain ⟨fn, hfn, hb, hn, hor⟩ := extK_some hk (by decide)
  have hname : fn.name = "internal/abi.NoEscape" := by
    rcases hor with ⟨h, _⟩ | ⟨h, _⟩ | ⟨_, h⟩
    · exact absurd h (by decide)
    · exact absurd h (by decide)
    · exact h
  unfold sameA at h
  split at h <;> first | (cases h; done) | skip
  cases h
  refine ⟨Step.refl _, fun {G B E w args'} hG hs ha => ?_⟩
  obtain ⟨args'⟩ := args'
  cases ha
  rename_i y l' hy ht
  cases ht
  refine ⟨E, y, w, ?_, hy, hs, Ext.refl _ _ _ _⟩
  rw [run_callFunc_extern hfn (by rw [hname]; decide) (by rw [hb]; rfl) hn (find_of hname (by kernel_rfl) (by kernel_rfl) (show _ = some Extern.AbiNoEscape.same by kernel_rfl)), Lib.run_noEscape]
  rfl
end
section
variable {P : Program} {G : Nat → Prop} {B : Nat} {E : Env} {s s' : St} {w : World} {v : AV} {o : Oper} {ac : Act} {ro : Option Nat} {K : Act → World → Prop} {Q : Exit → Act → World → Prop}
theorem wpIn_ext {f : FuncId} {args : Array Value} (hsem : (o.semAt ro ac.eval).run P w = (callFunc f args).run P w) (h : ∃ E' v' w', (callFunc f args).run P w = .ok (.value v') w' ∧ Rel E' v v' ∧ Sat G B E' s' w' ∧ Ext B s'.w E E' w w') (hK : ∀ E' v' w', Rel E' v v' → Sat G B E' s' w' → Ext B s'.w E E' w w' → K (ac.put o.dst v') w') : o.wpIn (fen ro) 0 P ac w K Q := by
  refine ⟨fun f _ => fen_fn ro f, ?_⟩
  show o.uponIn (fen ro) 0 P ac K Q ((o.semAt ro ac.eval).run P w)
  rw [hsem]
  obtain ⟨E', v', w', h1, q1, q2, q3⟩ := h
  rw [h1, Oper.uponIn_value]
  exact hK E' v' w' q1 q2 q3
end

/-- The operands of an operation. -/
def ORel (E : Env) (op : Op) (a : T AV) (ac : Act) : Prop := ∀ x, x ∈ op.operands → ∀ u, opd a x = some u → Rel E u (ac.eval x)
theorem ORel.one {E : Env} {op : Op} {a : T AV} {ac : Act} (h : ORel E op a ac) {x : Operand} {u : AV} (hx : opd a x = some u) (hm : x ∈ op.operands) : Rel E u (ac.eval x) := h x hm u hx
theorem TRel.ops {G : Nat → Prop} {B : Nat} {E : Env} {s : St} {w : World} (hs : Sat G B E s w) {nt : Nat} {a : T AV} {ac : Act} (ht : TRel E nt a ac.tmps) (op : Op) : ORel E op a ac := fun _ _ _ hu => opd_ok hs.glob ht hu
theorem opds_ok2 {E : Env} {a : T AV} {ac : Act} : ∀ {l : List Operand} {m : List AV}, (∀ x, x ∈ l → ∀ u, opd a x = some u → Rel E u (ac.eval x)) → opds a l = some m → RelL E m (l.map ac.eval)
  | [], m, _, h => by cases h; exact .nil
  | x :: r, m, k, h => by
    obtain ⟨v, h1, h2⟩ := oc_some (show oc (opd a x) (fun v => oc (opds a r) fun l => some (v :: l)) = some m from h)
    obtain ⟨l, h3, h4⟩ := oc_some h2
    cases h4
    exact .cons (k x (by simp) _ h1) (opds_ok2 (fun y hy => k y (by simp [hy])) h3)
theorem partsA_ok2 {E : Env} {a : T AV} {ac : Act} : ∀ {l : List (Nat × Operand)} {m : List (Nat × AV)}, (∀ x, x ∈ l.map (·.2) → ∀ u, opd a x = some u → Rel E u (ac.eval x)) → partsA a l = some m → RelP E m (l.map fun p => (p.1, ac.eval p.2))
  | [], m, _, h => by cases h; exact .nil
  | (i, x) :: r, m, k, h => by
    obtain ⟨v, h1, h2⟩ := oc_some (show oc (opd a x) (fun v => oc (partsA a r) fun l => some ((i, v) :: l)) = some m from h)
    obtain ⟨l, h3, h4⟩ := oc_some h2
    cases h4
    exact .cons (k x (by simp) _ h1) (partsA_ok2 (fun y hy => k y (by simp at hy ⊢; exact .inr hy)) h3)
theorem opdO_ok2 {E : Env} {a : T AV} {ac : Act} {x : Option Operand} {v : Option AV} (k : ∀ y, x = some y → ∀ u, opd a y = some u → Rel E u (ac.eval y)) (h : opdO a x = some v) : RelO E v (x.map ac.eval) := by
  cases x with
  | none => cases h; exact .none
  | some x =>
    obtain ⟨y, h1, h2⟩ := oc_some (show oc (opd a x) (fun v => some (some v)) = some v from h)
    cases h2
    exact .some (k x rfl _ h1)
/-- What an operation's evaluation promises. -/
def OpOk (P : Program) (o : Oper) (a : T AV) (s : St) (v : AV) (s' : St) : Prop :=
  Step s s' ∧ ∀ {G : Nat → Prop} {B : Nat} {E : Env} {w : World} {ac : Act} {ro : Option Nat}, (∀ j, In s'.l j → G j) → Sat G B E s w → ORel E o.op a ac → ∀ {K : Act → World → Prop} {Q : Exit → Act → World → Prop},
    (∀ E' v' w', Rel E' v v' → Sat G B E' s' w' → Ext B s'.w E E' w w' → K (ac.put o.dst v') w') → o.wpIn (fen ro) 0 P ac w K Q

theorem intC_some {β : Type} {x : AV} {k : IntKind → Int → Option β} {y : β} (h : x.intC k = some y) : ∃ q n, x = .int q n ∧ k q n = some y := by
  cases x <;> first | (cases h; done) | exact ⟨_, _, rfl, h⟩
theorem sliceDataA_ok {P : Program} {ts : Array TypeId} {x : AV} {s s' : St} {v : AV} (h : sliceDataA x s = some (v, s')) :
    s' = s ∧ ∀ {G : Nat → Prop} {B : Nat} {E : Env} {w : World} {x' : Value} (ty : TypeId), Sat G B E s w → Rel E x x' → Ok1 P G B s v E w (Builtin.unsafeSliceData_ ts ty #[x']) := by
  unfold sliceDataA at h
  split at h
  · cases h
    refine ⟨rfl, fun {G B E w x'} ty hs hx => ?_⟩
    cases hx
    exact Ok1.pure hs (Lib.run_unsafeSliceData_nil (w := w) ts ty 0 0) .nilptr
  · rename_i c _
    obtain ⟨hc, h1⟩ := bc_some h
    cases h1
    refine ⟨rfl, fun {G B E w x'} ty hs hx => ?_⟩
    cases hx
    rename_i b c' hb hcap
    have hcc : c' = c := hcap
    have hc' : 0 < c := by simpa using hc
    exact Ok1.pure hs (Lib.run_unsafeSliceData_row (w := w) ts ty _ _ c' (by omega)) (.ptr hb)
  · obtain ⟨hc, h1⟩ := bc_some h
    cases h1
    refine ⟨rfl, fun {G B E w x'} ty hs hx => ?_⟩
    cases hx
    rename_i n _ b c' hb hcap
    have hle := hcap.1
    have hc' : 0 < n := by simpa using hc
    exact Ok1.pure hs (Lib.run_unsafeSliceData_row (w := w) ts ty _ _ c' (by omega)) (.ptr hb)
  · obtain ⟨hp, h1⟩ := bc_some h
    cases h1
    refine ⟨rfl, fun {G B E w x'} ty hs hx => ?_⟩
    cases hx
    rename_i b c' hb hcap
    have hle := hcap.1
    have hpp := pcsPos_ok E.ρ hp
    exact Ok1.pure hs (Lib.run_unsafeSliceData_row (w := w) ts ty _ _ c' (by omega)) (.ptr hb)
  · cases h
theorem freeze_put {w : World} {b n : Nat} {c : Array Value} {e : TypeId} {f : Nat × Nat} (h : w.heap[b]? = some (.cells c e f)) (hn : n ≠ 0) : ∃ f', w.freeze ⟨b, 0, none⟩ n = w.putObj b (.cells c e f') := by
  obtain ⟨lo, hi⟩ := f
  refine ⟨if lo == hi then (0, 0 + n) else (min lo 0, max hi (0 + n)), ?_⟩
  unfold World.freeze World.putObj
  rw [if_neg hn]
  congr 1
  apply Array.ext_getElem?
  intro j
  rw [Array.getElem?_modify]
  by_cases hj : b = j
  · subst hj
    obtain ⟨hlt, hget⟩ := Array.getElem?_eq_some_iff.1 h
    simp [hlt, hget]
  · rw [if_neg hj, Array.getElem?_setIfInBounds_ne hj]
theorem unsafeStringB_ok {P : Program} {ts : Array TypeId} {x k : AV} {s s' : St} {v : AV} (h : unsafeStringB P ts.toList x k s = some (v, s')) :
    Step s s' ∧ ∀ {G : Nat → Prop} {B : Nat} {E : Env} {w : World} {x' k' : Value} (ty : TypeId), (∀ j, In s'.l j → G j) → Sat G B E s w → Rel E x x' → Rel E k k' → Ok1 P G B s' v E w (Builtin.unsafeString_ ts ty #[x', k']) := by
  obtain ⟨ts⟩ := ts
  unfold unsafeStringB at h
  split at h <;> first | (cases h; done) | skip
  rename_i pt it hts
  have hts' : ts = [pt, it] := hts
  subst hts'
  obtain ⟨kk, n, rfl, h'⟩ := intC_some h
  clear h
  cases kk <;> first | (cases h'; done) | skip
  have h := h'
  clear h'
  simp only at h
  cases hz : eqA n (Int.ofNat (nat_lit 0)) with
  | true =>
    rw [hz, bi_true] at h
    have hn : n = 0 := by rw [eqA_eq] at hz; simpa using hz
    subst hn
    split at h <;> first | (cases h; done) | skip
    · cases h
      refine ⟨Step.refl _, fun {G B E w x' k'} ty hG hs hx hk => ?_⟩
      cases hx
      cases hk
      exact Ok1.pure hs (Lib.run_unsafeString_none w pt it ty none) (.str [])
    · cases h
      refine ⟨Step.refl _, fun {G B E w x' k'} ty hG hs hx hk => ?_⟩
      cases hx
      cases hk
      exact Ok1.pure hs (Lib.run_unsafeString_none w pt it ty _) (.str [])
  | false =>
    rw [hz, bi_false] at h
    obtain ⟨m, hm, h1⟩ := oc_some h
    obtain ⟨i, off, rfl, h2⟩ := ptrC_some h1
    obtain ⟨hoff, h3⟩ := bc_some h2
    obtain ⟨o, ho, h4⟩ := oc_some h3
    clear h h1 h2 h3
    unfold cellsC at h4
    split at h4 <;> first | (cases h4; done) | skip
    rename_i vs e fz op
    split at h4 <;> first | (cases h4; done) | skip
    rename_i e' hu
    obtain ⟨he, h5⟩ := bc_some h4
    obtain ⟨hc, h6⟩ := bc_some h5
    obtain ⟨hle, h7⟩ := bc_some h6
    obtain ⟨l, hl, h8⟩ := oc_some h7
    obtain ⟨b, hb, h9⟩ := oc_some h8
    cases h9
    clear h4 h5 h6 h7 h8
    have he' : e = e' := by simpa using he
    have hc' : P.cellsOf e = 1 := by simpa using hc
    have hle' : m ≤ 1000000 := by simpa using hle
    have hoff' : off = 0 := by simpa using hoff
    have hn := natOf_some hm
    subst he' hoff' hn
    have hm0 : m ≠ 0 := by
      intro e0
      subst e0
      cases hz
    obtain ⟨rfl, hml⟩ := takeN_some _ hl
    refine ⟨Step.set _ _ _, fun {G B E w x' k'} ty hG hs hx hk => ?_⟩
    cases hk
    cases hx
    rename_i bb hbb
    have hgi : G i := hG _ (in_set _ _ _)
    obtain ⟨b', C, ob, hE, hh, hok, _⟩ := hs.fact i _ hgi ho
    obtain rfl := hs.at_live hE hbb
    have hcells : ∃ c f xs rest, ob = .cells c e f ∧ c.toList = xs ++ rest ∧ RelL E vs xs := by
      cases op with
      | none => obtain ⟨c, f, rfl, hr, _⟩ := hok; exact ⟨c, f, c.toList, [], rfl, by simp, hr⟩
      | some z => obtain ⟨c, f, xs, rest, _, _, rfl, hx, hr, _⟩ := hok; exact ⟨c, f, xs, rest, rfl, hx, hr⟩
    obtain ⟨c, f, xs, rest, rfl, hxs, hr⟩ := hcells
    have hys := bytesStrict_some hb (hr.take m)
    have hlen : b.length = m := by
      have h1 := congrArg List.length hys
      have h2 := hr.length
      simp at h1; omega
    have hsize : c.size = xs.length + rest.length := by rw [← Array.length_toList, hxs]; simp
    obtain ⟨f', hf'⟩ := freeze_put (n := m) hh hm0
    have hrun := Lib.run_unsafeString_row (P := P) w pt it ty e hu hc' bb c.size (by simp [World.shape?, hh]) b (by intro e0; subst e0; simp at hlen; omega) (by have := hr.length; omega) (by omega) (by
      intro j x hj
      rw [addr_add, Nat.zero_add]
      have h1 : (xs.take m)[j]? = some (Value.int .u8 x.toNat) := by rw [hys]; simp [hj]
      have h2 : xs[j]? = some (Value.int .u8 x.toNat) := by
        rw [List.getElem?_take] at h1
        split at h1
        · exact h1
        · cases h1
      have h3 : c[j]? = some (Value.int .u8 x.toNat) := by
        rw [← Array.getElem?_toList, hxs]
        have hjl := (List.getElem?_eq_some_iff.1 h2).1
        rw [List.getElem?_append_left hjl]; exact h2
      simp [World.cell?, hh, h3])
    rw [hlen, hf'] at hrun
    obtain ⟨k1, k2⟩ := hs.write (o' := .part vs) (ob' := .cells c e f') hgi ho rfl hE ⟨c, e, f', xs, rest, rfl, hxs, hr⟩
    exact ⟨E, _, _, hrun, .str b, k1, k2⟩
theorem unsafeStringP_ok {P : Program} {ts : Array TypeId} {x : AV} {ps : List Pc} {s s' : St} {v : AV} (h : unsafeStringP P ts.toList x ps s = some (v, s')) :
    Step s s' ∧ ∀ {G : Nat → Prop} {B : Nat} {E : Env} {w : World} {x' k' : Value} (ty : TypeId), (∀ j, In s'.l j → G j) → Sat G B E s w → Rel E x x' → Rel E (.plen ps) k' → Ok1 P G B s' v E w (Builtin.unsafeString_ ts ty #[x', k']) := by
  obtain ⟨ts⟩ := ts
  unfold unsafeStringP at h
  split at h <;> first | (cases h; done) | skip
  rename_i pt it hts
  have hts' : ts = [pt, it] := hts
  subst hts'
  obtain ⟨i, off, rfl, h2⟩ := ptrC_some h
  obtain ⟨hoff, h3⟩ := bc_some h2
  obtain ⟨o, ho, h4⟩ := oc_some h3
  clear h h2 h3
  unfold bufC at h4
  split at h4 <;> first | (cases h4; done) | skip
  rename_i qs e
  obtain ⟨hpq, h5⟩ := bc_some h4
  obtain ⟨hpos, h6⟩ := bc_some h5
  obtain ⟨hle, h7⟩ := bc_some h6
  split at h7 <;> first | (cases h7; done) | skip
  rename_i e' hu
  obtain ⟨he, h8⟩ := bc_some h7
  obtain ⟨hc, h9⟩ := bc_some h8
  cases h9
  clear h4 h5 h6 h7 h8
  have he' : e = e' := by simpa using he
  have hc' : P.cellsOf e = 1 := by simpa using hc
  have hle' : pcsMax ps ≤ 1000000 := by simpa using hle
  have hoff' : off = 0 := by simpa using hoff
  subst he' hoff'
  refine ⟨Step.set _ _ _, fun {G B E w x' k'} ty hG hs hx hk => ?_⟩
  cases hk
  cases hx
  rename_i bb hbb
  have hgi : G i := hG _ (in_set _ _ _)
  obtain ⟨b', C, ob, hE, hh, hok, _⟩ := hs.fact i _ hgi ho
  obtain rfl := hs.at_live hE hbb
  obtain ⟨c, f, rest, b2, C2, rfl, hxs, hE2, hsz, hf⟩ := hok
  have hpp := pcsPos_ok E.ρ hpos
  have hmx := psVal_max E.ρ ps
  rw [← pcsEq_ok E.ρ hpq] at hxs
  have hsize : c.size = (psVal E.ρ ps).length + rest.length := by rw [← Array.length_toList, hxs]; simp [bytesV]
  obtain ⟨f', hf'⟩ := freeze_put (n := (psVal E.ρ ps).length) hh (by omega)
  have hrun := Lib.run_unsafeString_row (P := P) w pt it ty e hu hc' bb c.size (by simp [World.shape?, hh]) (psVal E.ρ ps) (by intro e0; rw [e0] at hpp; simp at hpp) (by omega) (by omega) (by
    intro j x hj
    rw [addr_add, Nat.zero_add]
    have hjl := (List.getElem?_eq_some_iff.1 hj).1
    have h2 : (bytesV (psVal E.ρ ps))[j]? = some (Value.int .u8 x.toNat) := by simp [bytesV, hj]
    have h3 : c[j]? = some (Value.int .u8 x.toNat) := by
      rw [← Array.getElem?_toList, hxs, List.getElem?_append_left (by rw [bytesV_length]; exact hjl)]; exact h2
    simp [World.cell?, hh, h3])
  rw [hf'] at hrun
  obtain ⟨k1, k2⟩ := hs.write (o' := .part []) (ob' := .cells c e f') hgi ho rfl hE ⟨c, e, f', [], c.toList, rfl, by simp, .nil⟩
  exact ⟨E, _, _, hrun, .pstr ps, k1, k2⟩
/-- Numbers alike stand for one number. -/
theorem rel_len {E : Env} {a b : AV} {x y : Value} (h : avEqN a b = true) (hx : Rel E a x) (hy : Rel E b y) : x = y := by
  unfold avEqN at h
  split at h
  · rw [Bool.and_eq_true, eqA_eq] at h
    have h1 := kindEq_ok h.1
    have h2 := of_decide_eq_true h.2
    subst h1
    subst h2
    cases hx
    cases hy
    rfl
  · rw [Bool.and_eq_true] at h
    have h1 := kindEq_ok h.1
    have h2 := seEq_ok h.2
    subst h1
    subst h2
    cases hx
    cases hy
    rfl
  · cases h
theorem unsafeStringA_ok {P : Program} {ts : Array TypeId} {x k : AV} {s s' : St} {v : AV} (h : unsafeStringA P ts.toList x k s = some (v, s')) :
    Step s s' ∧ ∀ {G : Nat → Prop} {B : Nat} {E : Env} {w : World} {x' k' : Value} (ty : TypeId), (∀ j, In s'.l j → G j) → Sat G B E s w → Rel E x x' → Rel E k k' → Ok1 P G B s' v E w (Builtin.unsafeString_ ts ty #[x', k']) := by
  unfold unsafeStringA at h
  split at h
  · exact unsafeStringP_ok h
  · split at h
    · rename_i qs _
      obtain ⟨hk, h1⟩ := bc_some h
      obtain ⟨q1, q2⟩ := unsafeStringP_ok h1
      refine ⟨q1, fun {G B E w x' k'} ty hG hs hx hk' => q2 ty hG hs hx ?_⟩
      rw [rel_len hk hk' (lenV_ok hs.orc qs)]
      exact .plen _
    · exact unsafeStringB_ok h
theorem builtinA_ok {P : Program} {b : Builtin} {ts : Array TypeId} {args : List AV} {s s' : St} {v : AV} (h : builtinA P b ts.toList args s = some (v, s')) :
    Step s s' ∧ ∀ {G : Nat → Prop} {B : Nat} {E : Env} {w : World} {args' : Array Value} (ty : TypeId) (cs : Array Bool), (∀ j, In s'.l j → G j) → Sat G B E s w → RelL E args args'.toList →
      ∃ m : Sem Value, builtin b ts ty cs args' = (do pure (.value (← m))) ∧ Ok1 P G B s' v E w m := by
  have two : ∀ {E : Env} {x y : AV} {args' : Array Value}, RelL E [x, y] args'.toList → ∃ x' y', args' = #[x', y'] ∧ Rel E x x' ∧ Rel E y y' := by
    intro E x y args' hr
    obtain ⟨l⟩ := args'
    cases hr with | cons h1 t => cases t with | cons h2 t2 => cases t2; exact ⟨_, _, rfl, h1, h2⟩
  have one : ∀ {E : Env} {x : AV} {args' : Array Value}, RelL E [x] args'.toList → ∃ x', args' = #[x'] ∧ Rel E x x' := by
    intro E x args' hr
    obtain ⟨l⟩ := args'
    cases hr with | cons h1 t => cases t; exact ⟨_, rfl, h1⟩
  unfold builtinA at h
  split at h
  · obtain ⟨q1, _⟩ := lenA_ok (ty := 0) h
    refine ⟨q1, fun {G B E w args'} ty cs hG hs hr => ?_⟩
    obtain ⟨x', rfl, hx⟩ := one hr
    exact ⟨_, rfl, (lenA_ok (ty := ty) h).2 hG hs hx⟩
  · obtain ⟨q1, _⟩ := capA_ok (ty := 0) h
    refine ⟨q1, fun {G B E w args'} ty cs hG hs hr => ?_⟩
    obtain ⟨x', rfl, hx⟩ := one hr
    exact ⟨_, rfl, (capA_ok (ty := ty) h).2 hG hs hx⟩
  · obtain ⟨q1, _⟩ := appendA_ok (ty := 0) h
    refine ⟨q1, fun {G B E w args'} ty cs hG hs hr => ?_⟩
    obtain ⟨x', y', rfl, hx, hy⟩ := two hr
    exact ⟨_, rfl, (appendA_ok (ty := ty) h).2 hG hs hx hy⟩
  · obtain ⟨q1, _⟩ := copyA_ok (ty := 0) h
    refine ⟨q1, fun {G B E w args'} ty cs hG hs hr => ?_⟩
    obtain ⟨x', y', rfl, hx, hy⟩ := two hr
    exact ⟨_, rfl, (copyA_ok (ty := ty) h).2 hG hs hx hy⟩
  · rename_i x r
    obtain ⟨u, hu, h1⟩ := oc_some h
    cases h1
    refine ⟨Step.refl _, fun {G B E w args'} ty cs hG hs hr => ⟨_, rfl, ?_⟩⟩
    obtain ⟨l⟩ := args'
    cases hr with
    | cons hx ht =>
      obtain ⟨v', h1, h2⟩ := maxA_ok (P := P) (w := w) hs.orc r hu hx ht
      exact Ok1.pure hs (v' := v') (by simpa [Builtin.max_] using h1) h2
  · rename_i x r
    obtain ⟨u, hu, h1⟩ := oc_some h
    cases h1
    refine ⟨Step.refl _, fun {G B E w args'} ty cs hG hs hr => ⟨_, rfl, ?_⟩⟩
    obtain ⟨l⟩ := args'
    cases hr with
    | cons hx ht =>
      obtain ⟨v', h1, h2⟩ := minA_ok (P := P) (w := w) hs.orc r hu hx ht
      exact Ok1.pure hs (v' := v') (by simpa [Builtin.min_] using h1) h2
  · obtain ⟨q1, _⟩ := clearA_ok (ty := 0) h
    refine ⟨q1, fun {G B E w args'} ty cs hG hs hr => ?_⟩
    obtain ⟨x', rfl, hx⟩ := one hr
    exact ⟨_, rfl, (clearA_ok (ty := ty) h).2 hG hs hx⟩
  · obtain ⟨rfl, _⟩ := sliceDataA_ok (P := P) (ts := ts) h
    refine ⟨Step.refl _, fun {G B E w args'} ty cs hG hs hr => ?_⟩
    obtain ⟨x', rfl, hx⟩ := one hr
    exact ⟨_, rfl, (sliceDataA_ok (P := P) (ts := ts) h).2 ty hs hx⟩
  · obtain ⟨q1, q2⟩ := unsafeStringA_ok h
    refine ⟨q1, fun {G B E w args'} ty cs hG hs hr => ?_⟩
    obtain ⟨x', y', rfl, hx, hy⟩ := two hr
    exact ⟨_, rfl, q2 ty hG hs hx hy⟩
  · split at h
    · rename_i t rst hts
      have hts0 : ts[0]? = some t := by rw [← Array.getElem?_toList, hts]; rfl
      obtain ⟨q1, _⟩ := deleteA_ok h ts 0 hts0
      refine ⟨q1, fun {G B E w args'} ty cs hG hs hr => ?_⟩
      obtain ⟨x', y', rfl, hx, hy⟩ := two hr
      exact ⟨_, rfl, (deleteA_ok h ts ty hts0).2 hG hs hx hy⟩
    · cases h
  · cases h
end Ev
end Go.Proofs.YtbjllaknnpbkkaaGreatDoor
