/-
  The evaluator: every operation.
  Data of any size: what is told of calls and operations, looked up.
-/
import Derived.Test.YtnjpdipombnigaaGreatDoorYf
import Derived.Laws.Externs
import Derived.Lib.Bytealg
import Derived.KernelRfl
namespace Go.Proofs.YtnjpdipombnigaaGreatDoor
namespace Ev
open Go.RowKit

def fen (ro : Option Nat) : Fence := { Fence.wide with round := ro }
theorem fen_none : fen none = Fence.wide := rfl
theorem fen_fn (ro : Option Nat) (f : FuncId) : (fen ro).fn f := trivial
theorem fen_depth (ro : Option Nat) : (fen ro).depth = none := rfl
theorem fen_room (ro : Option Nat) (n : Nat) : (fen ro).room n := fun _ h => by simp [fen, Fence.wide] at h

/-- A call has returned so. -/
def RetOk (G : Nat → Prop) (B : Nat) (s' : St) (v : AV) (E : Env) (w : World) (e : Ending) (w' : World) : Prop :=
  ∃ E' v', e = .returned v' ∧ Rel E' v v' ∧ Sat G B E' s' w' ∧ Ext B s'.w E E' w w'
/-- A call of a function with a body: it is entered. -/
def CallRes (P : Program) (f : FuncId) (args : Array Value) (w : World) (R : Ending → World → Prop) : Prop :=
  (callFunc f args).run P w = .ok (.enter f args) w ∧ CallsIn Fence.wide 0 P f args w R
def CallOk (P : Program) (call : FuncId → List AV → St → R) : Prop :=
  ∀ {f : FuncId} {args : List AV} {s : St} {v : AV} {s' : St}, call f args s = some (v, s') → Step s s' ∧ ∀ {G : Nat → Prop} {B : Nat} {E : Env} {w : World} {args' : Array Value}, (∀ j, In s'.l j → G j) → Sat G B E s w → RelL E args args'.toList →
    CallRes P f args' w (RetOk G B s' v E w)
def YieldOk (P : Program) (yld : Nat → List AV → St → R) : Prop :=
  ∀ {l : Nat} {args : List AV} {s : St} {v : AV} {s' : St}, yld l args s = some (v, s') → Step s s' ∧ ∀ {G : Nat → Prop} {B : Nat} {E : Env} {w : World} {args' : Array Value} {b : Nat}, (∀ j, In s'.l j → G j) → Sat G B E s w → RelL E args args'.toList → (E l).at b →
    ∃ fn tmps asg bo, (Instr.yield b args').run P w = .ok (.round b fn tmps asg bo) w ∧ RoundIn Fence.wide 0 P b fn tmps asg bo w (RetOk G B s' v E w)

section
variable {P : Program} {G : Nat → Prop} {B : Nat} {E : Env} {s s' : St} {w : World} {v : AV} {o : Oper} {ac : Act} {ro : Option Nat} {K : Act → World → Prop} {Q : Exit → Act → World → Prop}

theorem wpIn_value {m : Sem Value} (hsem : o.semAt ro ac.eval = (do pure (.value (← m)))) (h : Ok1 P G B s' v E w m) (hK : ∀ E' v' w', Rel E' v v' → Sat G B E' s' w' → Ext B s'.w E E' w w' → K (ac.put o.dst v') w') : o.wpIn (fen ro) 0 P ac w K Q := by
  obtain ⟨E', v', w', hrun, h1, h2, h3⟩ := h
  refine ⟨fun f _ => fen_fn ro f, ?_⟩
  show o.uponIn (fen ro) 0 P ac K Q ((o.semAt ro ac.eval).run P w)
  rw [hsem]
  simp only [Sem.run_bind, hrun, Result.andThen_ok, Sem.run_pure, Oper.uponIn_value]
  exact hK E' v' w' h1 h2 h3
theorem wpIn_unit {m : Sem Unit} (hsem : o.semAt ro ac.eval = (do m; pure .skip)) (hv : v = undefA) (h : ∃ w', m.run P w = .ok () w' ∧ Sat G B E s' w' ∧ Ext B s'.w E E w w') (hK : ∀ E' v' w', Rel E' v v' → Sat G B E' s' w' → Ext B s'.w E E' w w' → K (ac.put o.dst v') w') : o.wpIn (fen ro) 0 P ac w K Q := by
  obtain ⟨w', hrun, h2, h3⟩ := h
  refine ⟨fun f _ => fen_fn ro f, ?_⟩
  show o.uponIn (fen ro) 0 P ac K Q ((o.semAt ro ac.eval).run P w)
  rw [hsem]
  simp only [Sem.run_bind, hrun, Result.andThen_ok, Sem.run_pure, Oper.uponIn_skip]
  exact hK E undef w' (by rw [hv]; exact .tuple .nil) h2 h3
theorem wpIn_call {f : FuncId} {args : Array Value} (hsem : (o.semAt ro ac.eval).run P w = (callFunc f args).run P w) (h : CallRes P f args w (RetOk G B s' v E w)) (hK : ∀ E' v' w', Rel E' v v' → Sat G B E' s' w' → Ext B s'.w E E' w w' → K (ac.put o.dst v') w') : o.wpIn (fen ro) 0 P ac w K Q := by
  refine ⟨fun f _ => fen_fn ro f, ?_⟩
  show o.uponIn (fen ro) 0 P ac K Q ((o.semAt ro ac.eval).run P w)
  rw [hsem]
  obtain ⟨h1, h2⟩ := h
  rw [h1, Oper.uponIn_enter]
  refine ⟨fun h => by simp [fen, Fence.wide] at h, ?_⟩
  have h2' : CallsIn (fen ro) (0 - 1) P f args w (RetOk G B s' v E w) := h2
  refine h2'.mono fun e w' he => ?_
  obtain ⟨E', v', rfl, q1, q2, q3⟩ := he
  exact hK E' v' w' q1 q2 q3
theorem wpIn_round {b fn : Nat} {tmps : Array Value} {asg bo : Code} (hsem : (o.semAt ro ac.eval).run P w = .ok (.round b fn tmps asg bo) w) (h : RoundIn Fence.wide 0 P b fn tmps asg bo w (RetOk G B s' v E w)) (hK : ∀ E' v' w', Rel E' v v' → Sat G B E' s' w' → Ext B s'.w E E' w w' → K (ac.put o.dst v') w') : o.wpIn (fen ro) 0 P ac w K Q := by
  refine ⟨fun f _ => fen_fn ro f, ?_⟩
  show o.uponIn (fen ro) 0 P ac K Q ((o.semAt ro ac.eval).run P w)
  rw [hsem, Oper.uponIn_round]
  refine ⟨fun h => by simp [fen, Fence.wide] at h, ?_⟩
  have h2' : RoundIn (fen ro) (0 - 1) P b fn tmps asg bo w (RetOk G B s' v E w) := h
  refine h2'.mono fun e w' he => ?_
  obtain ⟨E', v', rfl, q1, q2, q3⟩ := he
  exact hK E' v' w' q1 q2 q3
end

/-- A function without a body: done at once. -/
def ExtOk (P : Program) (f : FuncId) (args : List AV) (s : St) (v : AV) (s' : St) : Prop :=
  Step s s' ∧ ∀ {G : Nat → Prop} {B : Nat} {E : Env} {w : World} {args' : Array Value}, (∀ j, In s'.l j → G j) → Sat G B E s w → RelL E args args'.toList → ∃ E' v' w', (callFunc f args').run P w = .ok (.value v') w' ∧ Rel E' v v' ∧ Sat G B E' s' w' ∧ Ext B s'.w E E' w w'
section
variable {P : Program} {f : FuncId} {args : List AV} {s s' : St} {v : AV}
theorem extK_some {k : Nat} (h : extK P f = k) (h2 : 2 ≤ k) : ∃ fn, P.funcs[f]? = some fn ∧ fn.body = none ∧ Extern.findNext fn = none ∧ ((k = 2 ∧ fn.name = "maps.clone") ∨ (k = 3 ∧ fn.name = "internal/bytealg.IndexByteString") ∨ (k = 4 ∧ fn.name = "internal/abi.NoEscape")) := by
  unfold extK at h
  split at h
  · rename_i fn hfn
    split at h
    · subst h; exact absurd h2 (by decide)
    · rename_i hb
      cases hn : (Extern.findNext fn).isNone with
      | false => rw [hn, bi_false] at h; subst h; exact absurd h2 (by decide)
      | true =>
        rw [hn, bi_true] at h
        refine ⟨fn, hfn, hb, by simpa using hn, ?_⟩
        cases h1 : fn.name == "maps.clone" with
        | true => rw [h1, bi_true] at h; exact .inl ⟨h.symm, by simpa using h1⟩
        | false =>
          rw [h1, bi_false] at h
          cases h3 : fn.name == "internal/bytealg.IndexByteString" with
          | true => rw [h3, bi_true] at h; exact .inr (.inl ⟨h.symm, by simpa using h3⟩)
          | false =>
            rw [h3, bi_false] at h
            cases h4 : fn.name == "internal/abi.NoEscape" with
            | true => rw [h4, bi_true] at h; exact .inr (.inr ⟨h.symm, by simpa using h4⟩)
            | false => rw [h4, bi_false] at h; subst h; exact absurd h2 (by decide)
  · subst h; exact absurd h2 (by decide)
theorem find_of {fn : Func} {n : String} {e : Array Value → Sem Value} (hn : fn.name = n) (h1 : Extern.allGenericRows.lookup n = none) (h2 : Extern.allTypedRows.lookup n = none) (h3 : Extern.allRows.lookup n = some e) : Extern.find fn = some e := by
  subst hn
  simp [Extern.find, h1, h2, h3]
theorem clone_run {r : Nat} {es : Array MapEntry} {clock : Nat} {w : World} (t : TypeId) (hb : w.heap[r]? = some (.map es clock)) :
    (Extern.MapsClone.clone #[.iface t (.map (some r))]).run P w = .ok (.iface t (.map (some w.heap.size))) (w.alloc (.map es clock)) := by
  have e : Extern.MapsClone.clone #[.iface t (.map (some r))] = (getObj r >>= fun o => match o with
      | .map entries clock => (newObj (.map entries clock) >>= fun n => pure (.iface t (.map (some n))))
      | _ => stuck "maps.clone: a map expected") := rfl
  rw [e]
  simp [run_getObj_of hb (fun _ _ _ h => by cases h)]
theorem cloneA_ok (hk : extK P f = 2) (h : cloneA args s = some (v, s')) : ExtOk P f args s v s' := by
  obtain ⟨fn, hfn, hb, hn, hor⟩ := extK_some hk (by decide)
  have hname : fn.name = "maps.clone" := by
    rcases hor with ⟨_, h⟩ | ⟨h, _⟩ | ⟨h, _⟩
    · exact h
    · exact absurd h (by decide)
    · exact absurd h (by decide)
  unfold cloneA at h
  split at h <;> first | (cases h; done) | skip
  rename_i t i
  obtain ⟨o, ho, h1⟩ := oc_some h
  rcases mapU_some h1 with ⟨es, clock, rfl, h2⟩ | ⟨es, K, q, rfl, h2⟩
  · skip
    cases h2
    refine ⟨(Step.see _ _).trans (Step.new _ _), fun {G B E w args'} hG hs ha => ?_⟩
    obtain ⟨args'⟩ := args'
    cases ha
    rename_i y l' hy ht
    cases ht
    cases hy
    rename_i v' hv
    cases hv
    rename_i b hb'
    have hgi : G i := hG _ ((Step.new _ _).l _ (in_see _ _))
    obtain ⟨C, a, he, hh, hr⟩ := hs.map hgi ho hb'
    have hgn : G s.c := hG _ (in_new (s.see i) _)
    have hle : E.le (E.set s.c (.live w.heap.size 0)) := Env.set_le _ _ _ (by rw [hs.fresh s.c (Nat.le_refl _) hgn]; trivial)
    obtain ⟨k1, k2⟩ := (hs.seen i).new (o := .map es clock) (ob := .map a clock) (C := 0) hgn rfl ⟨a, rfl, hr.mono hle⟩
    refine ⟨_, .iface t (.map (some w.heap.size)), _, ?_, .iface (.map (by rw [show (s.see i).c = s.c from rfl, Env.set_same]; rfl)), k1, k2⟩
    rw [run_callFunc_extern hfn (by rw [hname]; decide) (by rw [hb]; rfl) hn (find_of hname (by kernel_rfl) (by kernel_rfl) (show _ = some Extern.MapsClone.clone by kernel_rfl)), clone_run t hh]
    rfl
  cases h2
  refine ⟨(Step.see _ _).trans (Step.new _ _), fun {G B E w args'} hG hs ha => ?_⟩
  obtain ⟨args'⟩ := args'
  cases ha
  rename_i y l' hy ht
  cases ht
  cases hy
  rename_i v' hv
  cases hv
  rename_i b hb'
  have hgi : G i := hG _ ((Step.new _ _).l _ (in_see _ _))
  obtain ⟨C, a, he, hh, hr⟩ := hs.umap hgi ho hb'
  have hgn : G s.c := hG _ (in_new (s.see i) _)
  have hle : E.le (E.set s.c (.live w.heap.size 0)) := Env.set_le _ _ _ (by rw [hs.fresh s.c (Nat.le_refl _) hgn]; trivial)
  obtain ⟨k1, k2⟩ := (hs.seen i).new (o := .umap es K q) (ob := .map a ((E.st q).f K)) (C := 0) hgn rfl ⟨a, rfl, hr.mono hle⟩
  refine ⟨_, .iface t (.map (some w.heap.size)), _, ?_, .iface (.map (by rw [show (s.see i).c = s.c from rfl, Env.set_same]; rfl)), k1, k2⟩
  rw [run_callFunc_extern hfn (by rw [hname]; decide) (by rw [hb]; rfl) hn (find_of hname (by kernel_rfl) (by kernel_rfl) (show _ = some Extern.MapsClone.clone by kernel_rfl)), clone_run t hh]
  rfl
theorem indexFrom_eq (c : UInt8) : ∀ (l : List UInt8) (i : Nat), indexFrom c.toNat i l = if Lib.indexByte l c = -1 then -1 else (i : Int) + Lib.indexByte l c
  | [], i => rfl
  | b :: l, i => by
    have ih := indexFrom_eq c l (i + 1)
    have hge := Lib.indexByte_ge l c
    have e1 : indexFrom c.toNat i (b :: l) = if b = c then (i : Int) else indexFrom c.toNat (i + 1) l := by
      simp only [indexFrom]
      split
      · rename_i hb
        rw [if_pos (UInt8.toNat_inj.1 (by simpa using hb))]; rfl
      · rename_i hb
        rw [if_neg (fun e => by subst e; simp at hb)]
    have e2 : Lib.indexByte (b :: l) c = if b = c then 0 else if Lib.indexByte l c = -1 then -1 else Lib.indexByte l c + 1 := by
      simp [Lib.indexByte]
    rw [e1, e2, ih]
    by_cases hb : b = c
    · simp [hb]
    · simp only [hb, if_false]
      by_cases h1 : Lib.indexByte l c = -1
      · simp [h1]
      · have h2 : Lib.indexByte l c + 1 ≠ -1 := by omega
        simp only [h1, h2, if_false]
        omega
theorem indexByteA_ok (hk : extK P f = 3) (h : indexByteA args s = some (v, s')) : ExtOk P f args s v s' := by
  obtain ⟨fn, hfn, hb, hn, hor⟩ := extK_some hk (by decide)
  have hname : fn.name = "internal/bytealg.IndexByteString" := by
    rcases hor with ⟨h, _⟩ | ⟨_, h⟩ | ⟨h, _⟩
    · exact absurd h (by decide)
    · exact h
    · exact absurd h (by decide)
  unfold indexByteA at h
  split at h <;> first | (cases h; done) | skip
  rename_i l n
  obtain ⟨c, hc, h1⟩ := oc_some h
  obtain ⟨hlt, h2⟩ := bc_some h1
  cases h2
  have hlt' : c < 256 := by simpa using hlt
  have hn' := natOf_some hc
  subst hn'
  refine ⟨Step.refl _, fun {G B E w args'} hG hs ha => ?_⟩
  obtain ⟨args'⟩ := args'
  cases ha
  rename_i y l' hy ht
  cases ht
  rename_i y2 l2 hy2 ht2
  cases ht2
  cases hy
  cases hy2
  refine ⟨E, .int .i64 (indexFrom c 0 l), w, ?_, .int _ _, hs, Ext.refl _ _ _ _⟩
  rw [run_callFunc_extern hfn (by rw [hname]; decide) (by rw [hb]; rfl) hn (find_of hname (by kernel_rfl) (by kernel_rfl) (show _ = some Extern.BytealgIndexByte.indexByte by kernel_rfl)), run_indexByte_string]
  simp only [Result.andThen_ok, Lib.firstIdx_eq]
  have e := indexFrom_eq (UInt8.ofNat c) l 0
  have hc' : (UInt8.ofNat c).toNat = c := by simp [UInt8.toNat_ofNat']; omega
  rw [hc'] at e
  have hc2 : ((c : Int).toNat.toUInt8) = UInt8.ofNat c := by simp
  rw [e, hc2]
  show Result.ok (Next.value (.int .i64 (Lib.indexByte l (UInt8.ofNat c)))) w = _
  congr 3
  split
  · rename_i h; exact h
  · simp
theorem sameA_ok (hk : extK P f = 4) (h : sameA args s = some (v, s')) : ExtOk P f args s v s' := by
  obtain ⟨fn, hfn, hb, hn, hor⟩ := extK_some hk (by decide)
  have hname : fn.name = "internal/abi.NoEscape" := by
    rcases hor with ⟨h, _⟩ | ⟨h, _⟩ | ⟨_, h⟩
    · exact absurd h (by decide)
    · exact absurd h (by decide)
    · exact h
  unfold sameA at h
  split at h <;> first | (cases h; done) | skip
  cases h
  refine ⟨Step.refl _, fun {G B E w args'} hG hs ha => ?_⟩
  obtain ⟨args'⟩ := args'
  cases ha
  rename_i y l' hy ht
  cases ht
  refine ⟨E, y, w, ?_, hy, hs, Ext.refl _ _ _ _⟩
  rw [run_callFunc_extern hfn (by rw [hname]; decide) (by rw [hb]; rfl) hn (find_of hname (by kernel_rfl) (by kernel_rfl) (show _ = some Extern.AbiNoEscape.same by kernel_rfl)), Lib.run_noEscape]
  rfl
end
section
variable {P : Program} {G : Nat → Prop} {B : Nat} {E : Env} {s s' : St} {w : World} {v : AV} {o : Oper} {ac : Act} {ro : Option Nat} {K : Act → World → Prop} {Q : Exit → Act → World → Prop}
theorem wpIn_ext {f : FuncId} {args : Array Value} (hsem : (o.semAt ro ac.eval).run P w = (callFunc f args).run P w) (h : ∃ E' v' w', (callFunc f args).run P w = .ok (.value v') w' ∧ Rel E' v v' ∧ Sat G B E' s' w' ∧ Ext B s'.w E E' w w') (hK : ∀ E' v' w', Rel E' v v' → Sat G B E' s' w' → Ext B s'.w E E' w w' → K (ac.put o.dst v') w') : o.wpIn (fen ro) 0 P ac w K Q := by
  refine ⟨fun f _ => fen_fn ro f, ?_⟩
  show o.uponIn (fen ro) 0 P ac K Q ((o.semAt ro ac.eval).run P w)
  rw [hsem]
  obtain ⟨E', v', w', h1, q1, q2, q3⟩ := h
  rw [h1, Oper.uponIn_value]
  exact hK E' v' w' q1 q2 q3
end

/-- The operands of an operation. -/
def ORel (E : Env) (op : Op) (a : T AV) (ac : Act) : Prop := ∀ x, x ∈ op.operands → ∀ u, opd a x = some u → Rel E u (ac.eval x)
theorem ORel.one {E : Env} {op : Op} {a : T AV} {ac : Act} (h : ORel E op a ac) {x : Operand} {u : AV} (hx : opd a x = some u) (hm : x ∈ op.operands) : Rel E u (ac.eval x) := h x hm u hx
theorem TRel.ops {G : Nat → Prop} {B : Nat} {E : Env} {s : St} {w : World} (hs : Sat G B E s w) {nt : Nat} {a : T AV} {ac : Act} (ht : TRel E nt a ac.tmps) (op : Op) : ORel E op a ac := fun _ _ _ hu => opd_ok hs.glob ht hu
theorem opds_ok2 {E : Env} {a : T AV} {ac : Act} : ∀ {l : List Operand} {m : List AV}, (∀ x, x ∈ l → ∀ u, opd a x = some u → Rel E u (ac.eval x)) → opds a l = some m → RelL E m (l.map ac.eval)
  | [], m, _, h => by cases h; exact .nil
  | x :: r, m, k, h => by
    obtain ⟨v, h1, h2⟩ := oc_some (show oc (opd a x) (fun v => oc (opds a r) fun l => some (v :: l)) = some m from h)
    obtain ⟨l, h3, h4⟩ := oc_some h2
    cases h4
    exact .cons (k x (by simp) _ h1) (opds_ok2 (fun y hy => k y (by simp [hy])) h3)
theorem partsA_ok2 {E : Env} {a : T AV} {ac : Act} : ∀ {l : List (Nat × Operand)} {m : List (Nat × AV)}, (∀ x, x ∈ l.map (·.2) → ∀ u, opd a x = some u → Rel E u (ac.eval x)) → partsA a l = some m → RelP E m (l.map fun p => (p.1, ac.eval p.2))
  | [], m, _, h => by cases h; exact .nil
  | (i, x) :: r, m, k, h => by
    obtain ⟨v, h1, h2⟩ := oc_some (show oc (opd a x) (fun v => oc (partsA a r) fun l => some ((i, v) :: l)) = some m from h)
    obtain ⟨l, h3, h4⟩ := oc_some h2
    cases h4
    exact .cons (k x (by simp) _ h1) (partsA_ok2 (fun y hy => k y (by simp at hy ⊢; exact .inr hy)) h3)
theorem opdO_ok2 {E : Env} {a : T AV} {ac : Act} {x : Option Operand} {v : Option AV} (k : ∀ y, x = some y → ∀ u, opd a y = some u → Rel E u (ac.eval y)) (h : opdO a x = some v) : RelO E v (x.map ac.eval) := by
  cases x with
  | none => cases h; exact .none
  | some x =>
    obtain ⟨y, h1, h2⟩ := oc_some (show oc (opd a x) (fun v => some (some v)) = some v from h)
    cases h2
    exact .some (k x rfl _ h1)
/-- What an operation's evaluation promises. -/
def OpOk (P : Program) (o : Oper) (a : T AV) (s : St) (v : AV) (s' : St) : Prop :=
  Step s s' ∧ ∀ {G : Nat → Prop} {B : Nat} {E : Env} {w : World} {ac : Act} {ro : Option Nat}, (∀ j, In s'.l j → G j) → Sat G B E s w → ORel E o.op a ac → ∀ {K : Act → World → Prop} {Q : Exit → Act → World → Prop},
    (∀ E' v' w', Rel E' v v' → Sat G B E' s' w' → Ext B s'.w E E' w w' → K (ac.put o.dst v') w') → o.wpIn (fen ro) 0 P ac w K Q

theorem intC_some {β : Type} {x : AV} {k : IntKind → Int → Option β} {y : β} (h : x.intC k = some y) : ∃ q n, x = .int q n ∧ k q n = some y := by
  cases x <;> first | (cases h; done) | exact ⟨_, _, rfl, h⟩
theorem sliceDataA_ok {P : Program} {ts : Array TypeId} {x : AV} {s s' : St} {v : AV} (h : sliceDataA x s = some (v, s')) :
    s' = s ∧ ∀ {G : Nat → Prop} {B : Nat} {E : Env} {w : World} {x' : Value} (ty : TypeId), Sat G B E s w → Rel E x x' → Ok1 P G B s v E w (Builtin.unsafeSliceData_ ts ty #[x']) := by
  unfold sliceDataA at h
  split at h
  · cases h
    refine ⟨rfl, fun {G B E w x'} ty hs hx => ?_⟩
    cases hx
    exact Ok1.pure hs (Lib.run_unsafeSliceData_nil (w := w) ts ty 0 0) .nilptr
  · rename_i c _
    obtain ⟨hc, h1⟩ := bc_some h
    cases h1
    refine ⟨rfl, fun {G B E w x'} ty hs hx => ?_⟩
    cases hx
    rename_i b c' hb hcap
    have hcc : c' = c := hcap
    have hc' : 0 < c := by simpa using hc
    exact Ok1.pure hs (Lib.run_unsafeSliceData_row (w := w) ts ty _ _ c' (by omega)) (.ptr hb)
  · obtain ⟨hc, h1⟩ := bc_some h
    cases h1
    refine ⟨rfl, fun {G B E w x'} ty hs hx => ?_⟩
    cases hx
    rename_i n _ b c' hb hcap
    have hle := hcap.1
    have hc' : 0 < n := by simpa using hc
    exact Ok1.pure hs (Lib.run_unsafeSliceData_row (w := w) ts ty _ _ c' (by omega)) (.ptr hb)
  · obtain ⟨hp, h1⟩ := bc_some h
    cases h1
    refine ⟨rfl, fun {G B E w x'} ty hs hx => ?_⟩
    cases hx
    rename_i b c' hb hcap
    have hle := hcap.1
    have hpp := pcsPos_ok E.ρ hp
    exact Ok1.pure hs (Lib.run_unsafeSliceData_row (w := w) ts ty _ _ c' (by omega)) (.ptr hb)
  · cases h
theorem freeze_put {w : World} {b n : Nat} {c : Array Value} {e : TypeId} {f : Nat × Nat} (h : w.heap[b]? = some (.cells c e f)) (hn : n ≠ 0) : ∃ f', w.freeze ⟨b, 0, none⟩ n = w.putObj b (.cells c e f') := by
  obtain ⟨lo, hi⟩ := f
  refine ⟨if lo == hi then (0, 0 + n) else (min lo 0, max hi (0 + n)), ?_⟩
  unfold World.freeze World.putObj
  rw [if_neg hn]
  congr 1
  apply Array.ext_getElem?
  intro j
  rw [Array.getElem?_modify]
  by_cases hj : b = j
  · subst hj
    obtain ⟨hlt, hget⟩ := Array.getElem?_eq_some_iff.1 h
    simp [hlt, hget]
  · rw [if_neg hj, Array.getElem?_setIfInBounds_ne hj]
theorem unsafeStringB_ok {P : Program} {ts : Array TypeId} {x k : AV} {s s' : St} {v : AV} (h : unsafeStringB P ts.toList x k s = some (v, s')) :
    Step s s' ∧ ∀ {G : Nat → Prop} {B : Nat} {E : Env} {w : World} {x' k' : Value} (ty : TypeId), (∀ j, In s'.l j → G j) → Sat G B E s w → Rel E x x' → Rel E k k' → Ok1 P G B s' v E w (Builtin.unsafeString_ ts ty #[x', k']) := by
  obtain ⟨ts⟩ := ts
  unfold unsafeStringB at h
  split at h <;> first | (cases h; done) | skip
  rename_i pt it hts
  have hts' : ts = [pt, it] := hts
  subst hts'
  obtain ⟨kk, n, rfl, h'⟩ := intC_some h
  clear h
  cases kk <;> first | (cases h'; done) | skip
  have h := h'
  clear h'
  simp only at h
  cases hz : eqA n (Int.ofNat (nat_lit 0)) with
  | true =>
    rw [hz, bi_true] at h
    have hn : n = 0 := by rw [eqA_eq] at hz; simpa using hz
    subst hn
    split at h <;> first | (cases h; done) | skip
    · cases h
      refine ⟨Step.refl _, fun {G B E w x' k'} ty hG hs hx hk => ?_⟩
      cases hx
      cases hk
      exact Ok1.pure hs (Lib.run_unsafeString_none w pt it ty none) (.str [])
    · cases h
      refine ⟨Step.refl _, fun {G B E w x' k'} ty hG hs hx hk => ?_⟩
      cases hx
      cases hk
      exact Ok1.pure hs (Lib.run_unsafeString_none w pt it ty _) (.str [])
  | false =>
    rw [hz, bi_false] at h
    obtain ⟨m, hm, h1⟩ := oc_some h
    obtain ⟨i, off, rfl, h2⟩ := ptrC_some h1
    obtain ⟨hoff, h3⟩ := bc_some h2
    obtain ⟨o, ho, h4⟩ := oc_some h3
    clear h h1 h2 h3
    unfold cellsC at h4
    split at h4 <;> first | (cases h4; done) | skip
    rename_i vs e fz op
    split at h4 <;> first | (cases h4; done) | skip
    rename_i e' hu
    obtain ⟨he, h5⟩ := bc_some h4
    obtain ⟨hc, h6⟩ := bc_some h5
    obtain ⟨hle, h7⟩ := bc_some h6
    obtain ⟨l, hl, h8⟩ := oc_some h7
    obtain ⟨b, hb, h9⟩ := oc_some h8
    cases h9
    clear h4 h5 h6 h7 h8
    have he' : e = e' := by simpa using he
    have hc' : P.cellsOf e = 1 := by simpa using hc
    have hle' : m ≤ 1000000 := by simpa using hle
    have hoff' : off = 0 := by simpa using hoff
    have hn := natOf_some hm
    subst he' hoff' hn
    have hm0 : m ≠ 0 := by
      intro e0
      subst e0
      cases hz
    obtain ⟨rfl, hml⟩ := takeN_some _ hl
    refine ⟨Step.set _ _ _, fun {G B E w x' k'} ty hG hs hx hk => ?_⟩
    cases hk
    cases hx
    rename_i bb hbb
    have hgi : G i := hG _ (in_set _ _ _)
    obtain ⟨b', C, ob, hE, hh, hok, _⟩ := hs.fact i _ hgi ho
    obtain rfl := hs.at_live hE hbb
    have hcells : ∃ c f xs rest, ob = .cells c e f ∧ c.toList = xs ++ rest ∧ RelL E vs xs := by
      cases op with
      | none => obtain ⟨c, f, rfl, hr, _⟩ := hok; exact ⟨c, f, c.toList, [], rfl, by simp, hr⟩
      | some z => obtain ⟨c, f, xs, rest, _, _, rfl, hx, hr, _⟩ := hok; exact ⟨c, f, xs, rest, rfl, hx, hr⟩
    obtain ⟨c, f, xs, rest, rfl, hxs, hr⟩ := hcells
    have hys := bytesStrict_some hb (hr.take m)
    have hlen : b.length = m := by
      have h1 := congrArg List.length hys
      have h2 := hr.length
      simp at h1; omega
    have hsize : c.size = xs.length + rest.length := by rw [← Array.length_toList, hxs]; simp
    obtain ⟨f', hf'⟩ := freeze_put (n := m) hh hm0
    have hrun := Lib.run_unsafeString_row (P := P) w pt it ty e hu hc' bb c.size (by simp [World.shape?, hh]) b (by intro e0; subst e0; simp at hlen; omega) (by have := hr.length; omega) (by omega) (by
      intro j x hj
      rw [addr_add, Nat.zero_add]
      have h1 : (xs.take m)[j]? = some (Value.int .u8 x.toNat) := by rw [hys]; simp [hj]
      have h2 : xs[j]? = some (Value.int .u8 x.toNat) := by
        rw [List.getElem?_take] at h1
        split at h1
        · exact h1
        · cases h1
      have h3 : c[j]? = some (Value.int .u8 x.toNat) := by
        rw [← Array.getElem?_toList, hxs]
        have hjl := (List.getElem?_eq_some_iff.1 h2).1
        rw [List.getElem?_append_left hjl]; exact h2
      simp [World.cell?, hh, h3])
    rw [hlen, hf'] at hrun
    obtain ⟨k1, k2⟩ := hs.write (o' := .part vs) (ob' := .cells c e f') hgi ho rfl hE ⟨c, e, f', xs, rest, rfl, hxs, hr⟩
    exact ⟨E, _, _, hrun, .str b, k1, k2⟩
theorem unsafeStringP_ok {P : Program} {ts : Array TypeId} {x : AV} {ps : List Pc} {s s' : St} {v : AV} (h : unsafeStringP P ts.toList x ps s = some (v, s')) :
    Step s s' ∧ ∀ {G : Nat → Prop} {B : Nat} {E : Env} {w : World} {x' k' : Value} (ty : TypeId), (∀ j, In s'.l j → G j) → Sat G B E s w → Rel E x x' → Rel E (.plen ps) k' → Ok1 P G B s' v E w (Builtin.unsafeString_ ts ty #[x', k']) := by
  obtain ⟨ts⟩ := ts
  unfold unsafeStringP at h
  split at h <;> first | (cases h; done) | skip
  rename_i pt it hts
  have hts' : ts = [pt, it] := hts
  subst hts'
  obtain ⟨i, off, rfl, h2⟩ := ptrC_some h
  obtain ⟨hoff, h3⟩ := bc_some h2
  obtain ⟨o, ho, h4⟩ := oc_some h3
  clear h h2 h3
  unfold bufC at h4
  split at h4 <;> first | (cases h4; done) | skip
  rename_i qs e
  obtain ⟨hpq, h5⟩ := bc_some h4
  obtain ⟨hpos, h6⟩ := bc_some h5
  obtain ⟨hle, h7⟩ := bc_some h6
  split at h7 <;> first | (cases h7; done) | skip
  rename_i e' hu
  obtain ⟨he, h8⟩ := bc_some h7
  obtain ⟨hc, h9⟩ := bc_some h8
  cases h9
  clear h4 h5 h6 h7 h8
  have he' : e = e' := by simpa using he
  have hc' : P.cellsOf e = 1 := by simpa using hc
  have hle' : pcsMax ps ≤ 1000000 := by simpa using hle
  have hoff' : off = 0 := by simpa using hoff
  subst he' hoff'
  refine ⟨Step.set _ _ _, fun {G B E w x' k'} ty hG hs hx hk => ?_⟩
  cases hk
  cases hx
  rename_i bb hbb
  have hgi : G i := hG _ (in_set _ _ _)
  obtain ⟨b', C, ob, hE, hh, hok, _⟩ := hs.fact i _ hgi ho
  obtain rfl := hs.at_live hE hbb
  obtain ⟨c, f, rest, b2, C2, rfl, hxs, hE2, hsz, hf⟩ := hok
  have hpp := pcsPos_ok E.ρ hpos
  have hmx := psVal_max E.ρ ps
  rw [← pcsEq_ok E.ρ hpq] at hxs
  have hsize : c.size = (psVal E.ρ ps).length + rest.length := by rw [← Array.length_toList, hxs]; simp [bytesV]
  obtain ⟨f', hf'⟩ := freeze_put (n := (psVal E.ρ ps).length) hh (by omega)
  have hrun := Lib.run_unsafeString_row (P := P) w pt it ty e hu hc' bb c.size (by simp [World.shape?, hh]) (psVal E.ρ ps) (by intro e0; rw [e0] at hpp; simp at hpp) (by omega) (by omega) (by
    intro j x hj
    rw [addr_add, Nat.zero_add]
    have hjl := (List.getElem?_eq_some_iff.1 hj).1
    have h2 : (bytesV (psVal E.ρ ps))[j]? = some (Value.int .u8 x.toNat) := by simp [bytesV, hj]
    have h3 : c[j]? = some (Value.int .u8 x.toNat) := by
      rw [← Array.getElem?_toList, hxs, List.getElem?_append_left (by rw [bytesV_length]; exact hjl)]; exact h2
    simp [World.cell?, hh, h3])
  rw [hf'] at hrun
  obtain ⟨k1, k2⟩ := hs.write (o' := .part []) (ob' := .cells c e f') hgi ho rfl hE ⟨c, e, f', [], c.toList, rfl, by simp, .nil⟩
  exact ⟨E, _, _, hrun, .pstr ps, k1, k2⟩
/-- Numbers alike stand for one number. -/
theorem rel_len {E : Env} {a b : AV} {x y : Value} (h : avEqN a b = true) (hx : Rel E a x) (hy : Rel E b y) : x = y := by
  unfold avEqN at h
  split at h
  · rw [Bool.and_eq_true, eqA_eq] at h
    have h1 := kindEq_ok h.1
    have h2 := of_decide_eq_true h.2
    subst h1
    subst h2
    cases hx
    cases hy
    rfl
  · rw [Bool.and_eq_true] at h
    have h1 := kindEq_ok h.1
    have h2 := seEq_ok h.2
    subst h1
    subst h2
    cases hx
    cases hy
    rfl
  · cases h
theorem unsafeStringA_ok {P : Program} {ts : Array TypeId} {x k : AV} {s s' : St} {v : AV} (h : unsafeStringA P ts.toList x k s = some (v, s')) :
    Step s s' ∧ ∀ {G : Nat → Prop} {B : Nat} {E : Env} {w : World} {x' k' : Value} (ty : TypeId), (∀ j, In s'.l j → G j) → Sat G B E s w → Rel E x x' → Rel E k k' → Ok1 P G B s' v E w (Builtin.unsafeString_ ts ty #[x', k']) := by
  unfold unsafeStringA at h
  split at h
  · exact unsafeStringP_ok h
  · split at h
    · rename_i qs _
      obtain ⟨hk, h1⟩ := bc_some h
      obtain ⟨q1, q2⟩ := unsafeStringP_ok h1
      refine ⟨q1, fun {G B E w x' k'} ty hG hs hx hk' => q2 ty hG hs hx ?_⟩
      rw [rel_len hk hk' (lenV_ok hs.orc qs)]
      exact .plen _
    · exact unsafeStringB_ok h
theorem builtinA_ok {P : Program} {b : Builtin} {ts : Array TypeId} {args : List AV} {s s' : St} {v : AV} (h : builtinA P b ts.toList args s = some (v, s')) :
    Step s s' ∧ ∀ {G : Nat → Prop} {B : Nat} {E : Env} {w : World} {args' : Array Value} (ty : TypeId) (cs : Array Bool), (∀ j, In s'.l j → G j) → Sat G B E s w → RelL E args args'.toList →
      ∃ m : Sem Value, builtin b ts ty cs args' = (do pure (.value (← m))) ∧ Ok1 P G B s' v E w m := by
  have two : ∀ {E : Env} {x y : AV} {args' : Array Value}, RelL E [x, y] args'.toList → ∃ x' y', args' = #[x', y'] ∧ Rel E x x' ∧ Rel E y y' := by
    intro E x y args' hr
    obtain ⟨l⟩ := args'
    cases hr with | cons h1 t => cases t with | cons h2 t2 => cases t2; exact ⟨_, _, rfl, h1, h2⟩
  have one : ∀ {E : Env} {x : AV} {args' : Array Value}, RelL E [x] args'.toList → ∃ x', args' = #[x'] ∧ Rel E x x' := by
    intro E x args' hr
    obtain ⟨l⟩ := args'
    cases hr with | cons h1 t => cases t; exact ⟨_, rfl, h1⟩
  unfold builtinA at h
  split at h
  · obtain ⟨q1, _⟩ := lenA_ok (ty := 0) h
    refine ⟨q1, fun {G B E w args'} ty cs hG hs hr => ?_⟩
    obtain ⟨x', rfl, hx⟩ := one hr
    exact ⟨_, rfl, (lenA_ok (ty := ty) h).2 hG hs hx⟩
  · obtain ⟨q1, _⟩ := capA_ok (ty := 0) h
    refine ⟨q1, fun {G B E w args'} ty cs hG hs hr => ?_⟩
    obtain ⟨x', rfl, hx⟩ := one hr
    exact ⟨_, rfl, (capA_ok (ty := ty) h).2 hG hs hx⟩
  · obtain ⟨q1, _⟩ := appendA_ok (ty := 0) h
    refine ⟨q1, fun {G B E w args'} ty cs hG hs hr => ?_⟩
    obtain ⟨x', y', rfl, hx, hy⟩ := two hr
    exact ⟨_, rfl, (appendA_ok (ty := ty) h).2 hG hs hx hy⟩
  · obtain ⟨q1, _⟩ := copyA_ok (ty := 0) h
    refine ⟨q1, fun {G B E w args'} ty cs hG hs hr => ?_⟩
    obtain ⟨x', y', rfl, hx, hy⟩ := two hr
    exact ⟨_, rfl, (copyA_ok (ty := ty) h).2 hG hs hx hy⟩
  · rename_i x r
    obtain ⟨u, hu, h1⟩ := oc_some h
    cases h1
    refine ⟨Step.refl _, fun {G B E w args'} ty cs hG hs hr => ⟨_, rfl, ?_⟩⟩
    obtain ⟨l⟩ := args'
    cases hr with
    | cons hx ht =>
      obtain ⟨v', h1, h2⟩ := maxA_ok (P := P) (w := w) hs.orc r hu hx ht
      exact Ok1.pure hs (v' := v') (by simpa [Builtin.max_] using h1) h2
  · rename_i x r
    obtain ⟨u, hu, h1⟩ := oc_some h
    cases h1
    refine ⟨Step.refl _, fun {G B E w args'} ty cs hG hs hr => ⟨_, rfl, ?_⟩⟩
    obtain ⟨l⟩ := args'
    cases hr with
    | cons hx ht =>
      obtain ⟨v', h1, h2⟩ := minA_ok (P := P) (w := w) hs.orc r hu hx ht
      exact Ok1.pure hs (v' := v') (by simpa [Builtin.min_] using h1) h2
  · obtain ⟨q1, _⟩ := clearA_ok (ty := 0) h
    refine ⟨q1, fun {G B E w args'} ty cs hG hs hr => ?_⟩
    obtain ⟨x', rfl, hx⟩ := one hr
    exact ⟨_, rfl, (clearA_ok (ty := ty) h).2 hG hs hx⟩
  · obtain ⟨rfl, _⟩ := sliceDataA_ok (P := P) (ts := ts) h
    refine ⟨Step.refl _, fun {G B E w args'} ty cs hG hs hr => ?_⟩
    obtain ⟨x', rfl, hx⟩ := one hr
    exact ⟨_, rfl, (sliceDataA_ok (P := P) (ts := ts) h).2 ty hs hx⟩
  · obtain ⟨q1, q2⟩ := unsafeStringA_ok h
    refine ⟨q1, fun {G B E w args'} ty cs hG hs hr => ?_⟩
    obtain ⟨x', y', rfl, hx, hy⟩ := two hr
    exact ⟨_, rfl, q2 ty hG hs hx hy⟩
  · split at h
    · rename_i t rst hts
      have hts0 : ts[0]? = some t := by rw [← Array.getElem?_toList, hts]; rfl
      obtain ⟨q1, _⟩ := deleteA_ok h ts 0 hts0
      refine ⟨q1, fun {G B E w args'} ty cs hG hs hr => ?_⟩
      obtain ⟨x', y', rfl, hx, hy⟩ := two hr
      exact ⟨_, rfl, (deleteA_ok h ts ty hts0).2 hG hs hx hy⟩
    · cases h
  · cases h
end Ev
end Go.Proofs.YtnjpdipombnigaaGreatDoor
namespace Go.Proofs.YtnjpdipombnigaaGreatDoor
namespace Ev
open Go.RowKit

section
variable {E' F : Env}
theorem allB_ok {f : AV → AV → Bool} (hf : ∀ x y v, f x y = true → Rel E' y v → Rel F x v) : ∀ {l m : List AV} {vs : List Value}, allB f l m = true → RelL E' m vs → RelL F l vs
  | [], [], vs, h, hr => by cases hr; exact .nil
  | [], u :: m, vs, h, hr => absurd (show false = true from h) (by decide)
  | v :: l, [], vs, h, hr => absurd (show false = true from h) (by decide)
  | v :: l, u :: m, vs, h, hr => by
    have h' : (f v u && allB f l m) = true := h
    rw [Bool.and_eq_true] at h'
    cases hr with
    | cons h1 t => exact .cons (hf _ _ _ h'.1 h1) (allB_ok hf h'.2 t)
end
/-- The same data, in at least as many blocks. -/
structure Wider (E F : Env) : Prop where
  ρ : F.ρ = E.ρ
  δ : F.δ = E.δ
  K : ∀ b, E.K b → F.K b
  hp : ∀ b, E.K b → F.hp b = E.hp b
theorem symV_ok {E F : Env} (hw : Wider E F) : ∀ (n : Nat) (x y : AV) (v : Value), symV n x y = true → Rel E y v → Rel F x v := by
  intro n
  induction n with
  | zero => intro x y v h; exact absurd (show false = true from h) (by decide)
  | succ n ih =>
    intro x y v h hr
    cases x <;> cases y <;> first | (exact absurd (show false = true from h) (by decide)) | skip
    case bool.bool a b =>
      have h' : (a == b) = true := h
      rw [beq_iff_eq] at h'
      subst h'
      cases hr; exact .bool _
    case int.int k a q b =>
      have h' : (kindEq k q && eqA a b) = true := h
      rw [Bool.and_eq_true] at h'
      obtain rfl := kindEq_ok h'.1
      have : a = b := by rw [eqA_eq] at h'; exact of_decide_eq_true h'.2
      subst this
      cases hr; exact .int _ _
    case sint.sint k a q b =>
      have h' : (kindEq k q && seEq a b) = true := h
      rw [Bool.and_eq_true] at h'
      obtain rfl := kindEq_ok h'.1
      obtain rfl := seEq_ok h'.2
      cases hr; rw [← hw.ρ]; exact .sint _ _
    case str.str a b =>
      have h' : bytesEq a b = true := h
      rw [bytesEq_eq, beq_iff_eq] at h'
      subst h'
      cases hr; exact .str _
    case nilptr.nilptr => cases hr; exact .nilptr
    case nilslice.nilslice => cases hr; exact .nilslice
    case nilmap.nilmap => cases hr; exact .nilmap
    case func.func f a b g d e =>
      have h' : (Nat.beq f g && (allB (symV n) a d && allB (symV n) b e)) = true := h
      simp only [Bool.and_eq_true] at h'
      obtain rfl := Nat.eq_of_beq_eq_true h'.1
      cases hr; rename_i hp hq
      exact .func (allB_ok ih h'.2.1 hp) (allB_ok ih h'.2.2 hq)
    case nilFunc.nilFunc => cases hr; exact .nilFunc
    case iface.iface t a u b =>
      have h' : (Nat.beq t u && symV n a b) = true := h
      rw [Bool.and_eq_true] at h'
      obtain rfl := Nat.eq_of_beq_eq_true h'.1
      cases hr; rename_i hv; exact .iface (ih _ _ _ h'.2 hv)
    case nilIface.nilIface => cases hr; exact .nilIface
    case agg.agg a b => cases hr; rename_i hl; exact .agg (allB_ok ih (show allB (symV n) a b = true from h) hl)
    case tuple.tuple a b => cases hr; rename_i hl; exact .tuple (allB_ok ih (show allB (symV n) a b = true from h) hl)
    case pstr.pstr a b =>
      have h' : pcsEq a b = true := h
      have e := pcsEq_ok F.ρ h'
      cases hr
      rw [← hw.ρ, ← e]; exact .pstr _
    case opq.opq a b =>
      obtain rfl := Nat.eq_of_beq_eq_true (show Nat.beq a b = true from h)
      cases hr with
      | opq k => exact .opq (by rw [hw.δ]; exact Repr.mono hw.K hw.hp k)
    case optr.optr k i o j u p =>
      have h' : (Nat.beq k j && (seEq i u && Nat.beq o p)) = true := h
      simp only [Bool.and_eq_true] at h'
      obtain ⟨h1, h2, h3⟩ := h'
      obtain rfl := Nat.eq_of_beq_eq_true h1
      obtain rfl := seEq_ok h2
      obtain rfl := Nat.eq_of_beq_eq_true h3
      cases hr with
      | optr hk => exact .optr (by rw [hw.δ, hw.ρ]; exact OPtr.mono hw.K hw.hp hk)
    case psl.psl m a q b =>
      have h' : (Nat.beq m q && allB (symV n) a b) = true := h
      rw [Bool.and_eq_true] at h'
      obtain rfl := Nat.eq_of_beq_eq_true h'.1
      cases hr with
      | psl0 =>
        cases a with
        | nil => exact .psl0
        | cons _ _ => exact absurd h'.2 (by simp [allB])
      | psl hb h1 h2 h3 h4 h5 => exact .psl (hw.K _ hb) ((hw.hp _ hb).trans h1) h2 h3 h4 (allB_ok ih h'.2 h5)
theorem symL_ok {E F : Env} (hw : Wider E F) {l m : List AV} {vs : List Value} (h : symL l m = true) (hr : RelL E m vs) : RelL F l vs := allB_ok (symV_ok hw 40) h hr
mutual
/-- Without ids it hangs on the data alone. -/
theorem pure_rel {ρ : Nat → Int} {δ : Nat → D} {K : Nat → Prop} {hp : Nat → Option Obj} {F : Env} (hw : Wider (pureEnv ρ δ K hp) F) : ∀ {x : AV} {y : Value}, Rel (pureEnv ρ δ K hp) x y → Rel F x y
  | _, _, .bool b => .bool b
  | _, _, .int k n => .int k n
  | _, _, .sint k e => by rw [← hw.ρ]; exact .sint k e
  | _, _, .str s => .str s
  | _, _, .nilptr => .nilptr
  | _, _, .ptr k => k.elim
  | _, _, .nilslice => .nilslice
  | _, _, .slice k _ => k.elim
  | _, _, .eslice => .eslice
  | _, _, .nilmap => .nilmap
  | _, _, .map k => k.elim
  | _, _, .func p q => .func (pure_relL hw p) (pure_relL hw q)
  | _, _, .nilFunc => .nilFunc
  | _, _, .yield k => k.elim
  | _, _, .iface k => .iface (pure_rel hw k)
  | _, _, .nilIface => .nilIface
  | _, _, .agg k => .agg (pure_relL hw k)
  | _, _, .tuple k => .tuple (pure_relL hw k)
  | _, _, .pstr ps => by rw [← hw.ρ]; exact .pstr ps
  | _, _, .plen ps => by rw [← hw.ρ]; exact .plen ps
  | _, _, .bslice k _ => k.elim
  | _, _, .fslice k => k.elim
  | _, _, .aptr k => k.elim
  | _, _, .aslice k _ => k.elim
  | _, _, .oslice k => .oslice (by rw [hw.ρ]; exact k)
  | _, _, .any => .any
  | _, _, .pslice h1 h2 h3 h4 => .pslice (by rw [hw.ρ]; exact h1) (by rw [hw.ρ]; exact h2) (by rw [hw.ρ]; exact h3) h4
  | _, _, .pslice0 h1 => .pslice0 (by rw [hw.ρ]; exact h1)
  | _, _, .opq k => .opq (by rw [hw.δ]; exact Repr.mono hw.K hw.hp k)
  | _, _, .psl0 => .psl0
  | _, _, .optr k => .optr (by rw [hw.δ, hw.ρ]; exact OPtr.mono hw.K hw.hp k)
  | _, _, .rsl k _ _ => k.elim
  | _, _, .psl hb h1 h2 h3 h4 h5 => .psl (hw.K _ hb) ((hw.hp _ hb).trans h1) h2 h3 h4 (pure_relL hw h5)
theorem pure_relL {ρ : Nat → Int} {δ : Nat → D} {K : Nat → Prop} {hp : Nat → Option Obj} {F : Env} (hw : Wider (pureEnv ρ δ K hp) F) : ∀ {x : List AV} {y : List Value}, RelL (pureEnv ρ δ K hp) x y → RelL F x y
  | _, _, .nil => .nil
  | _, _, .cons k t => .cons (pure_rel hw k) (pure_relL hw t)
end

theorem allB_len {f : AV → AV → Bool} : ∀ {l m : List AV}, allB f l m = true → l.length = m.length
  | [], [], _ => rfl
  | [], _ :: _, h => absurd (show false = true from h) (by decide)
  | _ :: _, [], h => absurd (show false = true from h) (by decide)
  | v :: l, u :: m, h => by
    have h' : (f v u && allB f l m) = true := h
    rw [Bool.and_eq_true] at h'
    simp [allB_len h'.2]
theorem symL_len {l m : List AV} (h : symL l m = true) : l.length = m.length := allB_len h
theorem relL_length {E : Env} {l : List AV} {us : List Value} (h : RelL E l us) : l.length = us.length := h.length
theorem Wider.refl (E : Env) : Wider E E := ⟨rfl, rfl, fun _ h => h, fun _ _ => rfl⟩
theorem natsEq_ok : ∀ {l m : List Nat}, natsEq l m = true → l = m
  | [], [], _ => rfl
  | x :: l, y :: m, h => by
    simp only [natsEq, Bool.and_eq_true] at h
    rw [Nat.eq_of_beq_eq_true h.1, natsEq_ok h.2]
  | [], _ :: _, h => by cases h
  | _ :: _, [], h => by cases h
theorem findDef_some {f : Nat} {ts : List Nat} {args : List AV} {d : Def} : ∀ {l : List Def}, findDef f ts args l = some d → d ∈ l ∧ d.f = f ∧ d.ts = ts ∧ symL d.args args = true
  | [], h => by cases h
  | x :: r, h => by
    have h' : bi (Nat.beq x.f f && (natsEq x.ts ts && symL x.args args)) (some x) (findDef f ts args r) = some d := h
    cases hb : (Nat.beq x.f f && (natsEq x.ts ts && symL x.args args)) with
    | true =>
      rw [hb, bi_true] at h'
      cases h'
      simp only [Bool.and_eq_true] at hb
      exact ⟨List.mem_cons_self .., Nat.eq_of_beq_eq_true hb.1, natsEq_ok hb.2.1, hb.2.2⟩
    | false =>
      rw [hb, bi_false] at h'
      obtain ⟨h1, h2⟩ := findDef_some h'
      exact ⟨List.mem_cons_of_mem _ h1, h2⟩
theorem resB_ok {G : Nat → Prop} {B : Nat} {E : Env} {s : St} {w : World} {b : AV} {v : Value} (hs : Sat G B E s w) (h : Rel E b v) : Rel E (resB s b) v := by
  unfold resB
  split
  · rename_i k
    split
    · rename_i d hd
      obtain ⟨hm, hf, hts, hsym⟩ := findDef_some hd
      have hdef := hs.defs d hm
      unfold DefOk at hdef
      rw [if_neg (by rw [hf]; unfold opBase catF; decide), if_neg (by rw [hf]; exact Nat.not_lt.2 (Nat.le_add_right _ _)), if_neg (by rw [hf]; unfold opBase effBase; decide)] at hdef
      have hargs : RelL (pureEnv E.ρ E.δ E.K fun b => w.heap[b]?) d.args [v] :=
        symL_ok (E := E) (F := pureEnv E.ρ E.δ E.K fun b => w.heap[b]?) ⟨rfl, rfl, fun _ h => h, fun b hk => (hs.prot b hk).2.1⟩ hsym (.cons h .nil)
      obtain ⟨m, u, h1, h2, h3⟩ := hdef E.K w [v] (fun b hk => (hs.prot b hk).1) hargs
      rw [hf, hts, show Nat.add opBase 20 - opBase = 20 from Nat.add_sub_cancel_left ..] at h1
      cases h1
      have hu : u = v := by
        rw [Sem.run_pure] at h2
        injection h2 with h2 _
        exact h2.symm
      subst hu
      have h4 : Rel ⟨E.slot, E.ρ, E.st, E.δ, E.K, fun b => w.heap[b]?⟩ d.res u := pure_rel (F := ⟨E.slot, E.ρ, E.st, E.δ, E.K, fun b => w.heap[b]?⟩) ⟨rfl, rfl, fun _ h => h, fun _ _ => rfl⟩ h3
      exact Rel.mono (E := ⟨E.slot, E.ρ, E.st, E.δ, E.K, fun b => w.heap[b]?⟩) (E' := E) ⟨fun _ => Slot.le_refl _, rfl, fun _ _ => rfl, rfl, fun _ h => h, fun b hk => (hs.prot b hk).2.1.symm⟩ h4
    · exact h
  · exact h
section
variable {P : Program} {o : Oper} {a : T AV} {s s' : St} {v : AV}
theorem notCat {k : Nat} (hk : k < 30) : Nat.add opBase k ≠ catF := by
  unfold opBase catF
  show 1000000000 + k ≠ 2000000000
  omega
theorem notEff {k : Nat} (hk : k < 30) : ¬ effBase ≤ Nat.add opBase k := by
  unfold opBase effBase
  show ¬ 1000000030 ≤ 1000000000 + k
  omega
theorem effNot {k : Nat} (hk : k < 40) : Nat.add effBase k ≠ catF ∧ ¬ Nat.add effBase k < opBase := by
  unfold opBase effBase catF
  show 1000000030 + k ≠ 2000000000 ∧ ¬ 1000000030 + k < 1000000000
  omega
theorem Sat.later {G : Nat → Prop} {B : Nat} {E : Env} {s : St} {w w' : World} (hs : Sat G B E s w) (hb : Below w.heap.size w w') : Sat G B E s w' ∧ ∀ W, Ext B W E E w w' := by
  refine ⟨⟨hs.inj, fun i b C h => Nat.lt_of_lt_of_le (hs.lt i b C h) hb.size, Nat.le_trans hs.base hb.size, hs.glob, hs.fresh, ?_, hs.orc, fun b hk => ?_, hs.defs⟩, fun W => ⟨Env.le_refl _, fun _ _ => rfl, fun j b C _ he => hb.block b (hs.lt j b C he), hb.mono hs.base, fun b h _ => hb.block b h, fun j b C h => .inl ⟨j, C, h⟩, fun _ h => .inl h⟩⟩
  · intro i o hg ho
    obtain ⟨b, C, ob, he, hh, hok⟩ := hs.fact i o hg ho
    exact ⟨b, C, ob, he, (hb.block b (hs.lt i b C he)).trans hh, hok⟩
  · obtain ⟨h1, h2, h3⟩ := hs.prot b hk
    exact ⟨Nat.lt_of_lt_of_le h1 hb.size, (hb.block b h1).trans h2, h3⟩
/-- Behind a call: its new blocks are kept. -/
def Env.later (E : Env) (w w' : World) : Env := ⟨E.slot, E.ρ, E.st, E.δ, fun b => E.K b ∨ (w.heap.size ≤ b ∧ b < w'.heap.size), fun b => w'.heap[b]?⟩
theorem Sat.kept {G : Nat → Prop} {B : Nat} {E : Env} {s : St} {w w' : World} (hs : Sat G B E s w) (hb : Below w.heap.size w w') : Sat G B (E.later w w') s w' ∧ Ext B s.w E (E.later w w') w w' := by
  obtain ⟨k1, k2⟩ := hs.later hb
  have hle : E.le (E.later w w') := ⟨fun _ => Slot.le_refl _, rfl, fun _ _ => rfl, rfl, fun _ h => .inl h, fun b hk => (hb.block b (hs.prot b hk).1).trans (hs.prot b hk).2.1⟩
  refine ⟨⟨k1.inj, k1.lt, k1.base, k1.glob, k1.fresh, fun i o hg ho => ?_, k1.orc, ?_, k1.defs⟩, ⟨hle, fun _ _ => rfl, (k2 s.w).block, (k2 s.w).below, (k2 s.w).free, (k2 s.w).liv, ?_⟩⟩
  · obtain ⟨b, C, ob, h1, h2, h3, h4⟩ := k1.fact i o hg ho
    exact ⟨b, C, ob, h1, h2, h3.mono hle (fun _ _ h => h), h4⟩
  · rintro b (hk | ⟨h1, h2⟩)
    · obtain ⟨p1, _, p3⟩ := hs.prot b hk
      exact ⟨Nat.lt_of_lt_of_le p1 hb.size, rfl, p3⟩
    · exact ⟨h2, rfl, fun j C hj => absurd (hs.lt j b C hj) (Nat.not_lt.2 h1)⟩
  · rintro b (hk | ⟨h1, _⟩)
    · exact .inl hk
    · exact .inr (Nat.le_trans hs.base h1)
theorem odefA_ok [hP : IsProg P] {k : Nat} {ts : List Nat} {args : List AV} (hk : k < 30) (h : odefA k ts args s = some (v, s')) : s' = s ∧ ∀ {G : Nat → Prop} {B : Nat} {E : Env} {w : World} {vs : List Value}, Sat G B E s w → RelL E args vs → ∃ m, OSem k ts vs = some m ∧ Ok1 P G B s v E w m := by
  obtain ⟨d, hd, h⟩ := oc_some h
  cases h
  obtain ⟨hm, hf, hts, hsym⟩ := findDef_some hd
  refine ⟨rfl, fun {G B E w vs} hs ha => ?_⟩
  have hdef := hs.defs d hm
  unfold DefOk at hdef
  rw [if_neg (by rw [hf]; exact notCat hk), if_neg (by rw [hf]; exact Nat.not_lt.2 (Nat.le_add_right _ _)), if_neg (by rw [hf]; exact notEff hk)] at hdef
  have hargs : RelL (pureEnv E.ρ E.δ E.K fun b => w.heap[b]?) d.args vs :=
    symL_ok (E := E) (F := pureEnv E.ρ E.δ E.K fun b => w.heap[b]?) ⟨rfl, rfl, fun _ h => h, fun b hk => (hs.prot b hk).2.1⟩ hsym ha
  obtain ⟨m, u, h1, h2, h3⟩ := hdef E.K w vs (fun b hk => (hs.prot b hk).1) hargs
  rw [hf, hts, show Nat.add opBase k - opBase = k from Nat.add_sub_cancel_left ..] at h1
  obtain rfl := hP.eq
  refine ⟨m, h1, Ok1.pure hs h2 ?_⟩
  -- the world's own blocks, as they are kept
  have h4 : Rel ⟨E.slot, E.ρ, E.st, E.δ, E.K, fun b => w.heap[b]?⟩ d.res u := pure_rel (F := ⟨E.slot, E.ρ, E.st, E.δ, E.K, fun b => w.heap[b]?⟩) ⟨rfl, rfl, fun _ h => h, fun _ _ => rfl⟩ h3
  exact Rel.mono (E := ⟨E.slot, E.ρ, E.st, E.δ, E.K, fun b => w.heap[b]?⟩) (E' := E) ⟨fun _ => Slot.le_refl _, rfl, fun _ _ => rfl, rfl, fun _ h => h, fun b hk => (hs.prot b hk).2.1.symm⟩ h4
theorem effA_ok [hP : IsProg P] {k : Nat} {ts : List Nat} {args : List AV} (hk : k < 40) (h : effA k ts args s = some (v, s')) : s' = s ∧ ∀ {G : Nat → Prop} {B : Nat} {E : Env} {w : World} {vs : List Value}, Sat G B E s w → RelL E args vs → ∃ m, ESem k ts vs = some m ∧ Ok1 P G B s v E w m := by
  obtain ⟨d, hd, h⟩ := oc_some h
  cases h
  obtain ⟨hm, hf, hts, hsym⟩ := findDef_some hd
  refine ⟨rfl, fun {G B E w vs} hs ha => ?_⟩
  have hdef := hs.defs d hm
  unfold DefOk at hdef
  rw [if_neg (by rw [hf]; exact (effNot hk).1), if_neg (by rw [hf]; exact (effNot hk).2), if_pos (by rw [hf]; exact Nat.le_add_right _ _)] at hdef
  have hargs : RelL (pureEnv E.ρ E.δ E.K fun b => w.heap[b]?) d.args vs :=
    symL_ok (E := E) (F := pureEnv E.ρ E.δ E.K fun b => w.heap[b]?) ⟨rfl, rfl, fun _ h => h, fun b hk => (hs.prot b hk).2.1⟩ hsym ha
  obtain ⟨m, u, w', h1, h2, hb, h3⟩ := hdef E.K w vs (fun b hk => (hs.prot b hk).1) hargs
  rw [hf, hts, show Nat.add effBase k - effBase = k from Nat.add_sub_cancel_left ..] at h1
  obtain rfl := hP.eq
  obtain ⟨m1, m2⟩ := hs.kept hb
  exact ⟨m, h1, E.later w w', u, w', h2, pure_rel (F := E.later w w') ⟨rfl, rfl, fun _ h => h, fun _ _ => rfl⟩ h3, m1, m2⟩
theorem findCat_some {z b k j : Nat} {vs : List AV} {c : Nat} {e : SE} : ∀ {l : List Def}, findCat z b k j vs l = some (c, e) → ∃ d ∈ l, d.f = catF ∧ ∃ q, d.ts = [z, b, k, j, c] ∧ d.res = .sint q e ∧ symL d.args vs = true
  | [], h => by cases h
  | x :: r, h => by
    have h' : (match x.ts, x.res with
      | [z', b', k', j', c], .sint _ e => bi (Nat.beq x.f catF && (Nat.beq z' z && (Nat.beq b' b && (Nat.beq k' k && (Nat.beq j' j && symL x.args vs))))) (some (c, e)) (findCat z b k j vs r)
      | _, _ => findCat z b k j vs r) = some (c, e) := h
    split at h'
    · rename_i z' b' k' j' c' q e' h1 h2
      cases hb : (Nat.beq x.f catF && (Nat.beq z' z && (Nat.beq b' b && (Nat.beq k' k && (Nat.beq j' j && symL x.args vs))))) with
      | true =>
        rw [hb, bi_true] at h'
        cases h'
        simp only [Bool.and_eq_true] at hb
        obtain ⟨g1, g2, g3, g4, g5, g6⟩ := hb
        refine ⟨x, List.mem_cons_self .., Nat.eq_of_beq_eq_true g1, q, ?_, h2, g6⟩
        rw [h1, Nat.eq_of_beq_eq_true g2, Nat.eq_of_beq_eq_true g3, Nat.eq_of_beq_eq_true g4, Nat.eq_of_beq_eq_true g5]
      | false =>
        rw [hb, bi_false] at h'
        obtain ⟨d, k1, k2⟩ := findCat_some h'
        exact ⟨d, List.mem_cons_of_mem _ k1, k2⟩
    · obtain ⟨d, k1, k2⟩ := findCat_some h'
      exact ⟨d, List.mem_cons_of_mem _ k1, k2⟩
theorem reprL_one {K : Nat → Prop} {hp : Nat → Option Obj} : ∀ {l : List D} {us : List Value}, ReprL K hp l us → ∀ u ∈ us, u.oneCell' = true
  | _, _, .nil => fun u hu => by cases hu
  | _, _, .cons h t => fun u hu => by
    cases hu with
    | head => exact h.one.1
    | tail _ hm => exact reprL_one t u hm
theorem reprL_app {K : Nat → Prop} {hp : Nat → Option Obj} : ∀ {l l' : List D} {us us' : List Value}, ReprL K hp l us → ReprL K hp l' us' → ReprL K hp (l ++ l') (us ++ us')
  | _, _, _, _, .nil, k => k
  | _, _, _, _, .cons h t, k => .cons h (reprL_app t k)
theorem reprL_length {K : Nat → Prop} {hp : Nat → Option Obj} : ∀ {l : List D} {us : List Value}, ReprL K hp l us → l.length = us.length
  | _, _, .nil => rfl
  | _, _, .cons _ t => by simp [reprL_length t]
/-- A row of data, as what is appended. -/
theorem row_first {G : Nat → Prop} {B : Nat} {E : Env} {w : World} {j m z : Nat} {l' : List D} {y' : Value} (hs : Sat G B E s w) (hj : E.δ j = .sl m l') (hl : l'.length = m * z) (hy : Rel E (.opq j) y') :
    ∃ ys, ReprL E.K E.hp l' ys ∧ ys.length = m * z ∧ ∀ W : World, W.heap = w.heap → (Builtin.lenOf y').run P W = .ok m W ∧ (Builtin.firstCells z m y').run P W = .ok ys.toArray W := by
  cases hy with
  | opq h =>
    rw [hj] at h
    cases h with
    | nil => exact ⟨[], .nil, by simp, fun W hW => ⟨rfl, rfl⟩⟩
    | @sl _ z' b off cap _ us c et f hb hh hn hc hx hrl =>
      have hlen : us.length = m * z := by rw [← reprL_length hrl, hl]
      refine ⟨us, hrl, hlen, fun W hW => ⟨rfl, ?_⟩⟩
      simp only [Builtin.firstCells]
      refine run_loadCells_at (fun i v hi => ?_) hlen
      rw [World.cell?, hW, (hs.prot _ hb).2.1, hh]
      exact hx i v hi
theorem appendCat_ok {ts : Array TypeId} {ty e : TypeId} {z j : Nat} {zero : Value} (ht : AppT P ts e z zero) {x : AV} (h : appendCat e z j x s = some (v, s')) :
    Step s s' ∧ ∀ {G B E w x' y'}, (∀ j, In s'.l j → G j) → Sat G B E s w → Rel E x x' → Rel E (.opq j) y' → Ok1 P G B s' v E w (Builtin.append_ ts ty #[x', y']) := by
  unfold appendCat at h
  split at h
  · -- behind none
    obtain ⟨c, m, hfc, h1⟩ := oc2_some h
    obtain ⟨hle, h2⟩ := bc_some h1
    obtain ⟨d, hdm, hdf, q, hts, hres, hsym⟩ := findCat_some hfc
    have data : ∀ {G B E w}, Sat G B E s w → ∃ (n : Nat) (l' : List D), E.δ j = .sl n l' ∧ l'.length = n * z ∧ E.δ c = .sl n l' ∧ m.val E.ρ = ((n : Nat) : Int) := by
      intro G B E w hs
      have hdef := hs.defs d hdm
      unfold DefOk at hdef
      rw [if_pos hdf] at hdef
      unfold CatOk at hdef
      rw [hts, hres] at hdef
      obtain ⟨n, m', N, l, ls, l', h1, h2, h3, h4, h5, h6, h7⟩ := hdef
      rcases h1 with ⟨_, rfl, rfl⟩ | ⟨h1, _⟩
      · have hd0 : d.args = [] := by
          cases hda : d.args with
          | nil => rfl
          | cons a r => rw [hda] at hsym; exact absurd (show false = true from hsym) (by decide)
        have h8 := h7 (fun _ => False) (fun _ => none) [] (by rw [hd0]; exact .nil)
        cases h8
        simp only [List.nil_append] at h4 h5
        have hN : N = m' := Nat.eq_of_mul_eq_mul_right ht.pos (by rw [← h5, h3])
        subst hN
        exact ⟨N, l', h2, h3, h4, h6⟩
      · cases h1
    split at h2
    · -- some
      rename_i hlt
      cases h2
      refine ⟨Step.new _ _, fun {G B E w x' y'} hG hs hx hy => ?_⟩
      obtain ⟨n, l', hj, hl', hc, hm⟩ := data hs
      obtain ⟨ys, hrl, hlen, hrun⟩ := row_first (P := P) hs hj hl' hy
      obtain ⟨r1, _⟩ := hrun w rfl
      obtain ⟨_, r2⟩ := hrun w.drew rfl
      have hn0 : 0 < n := by
        have h9 := hs.orc.lt _ _ _ hlt
        have h10 : (0 : Int) < m.val E.ρ := of_decide_eq_true h9.symm
        omega
      have hn1 : n ≤ 1000000 := by
        have := leO_ok hs.orc hle
        have h7 : m.val E.ρ ≤ 1000000 := this
        omega
      cases hx
      have hrun' := run_append_grow (ty := ty) (sLen := 0) (sCap := 0) (base := none) (old := #[]) ht r1 rfl r2 (by omega) (by omega)
      have hge := grownCap_ge w (0 + n) 0 e
      have hgc : G s.c := hG s.c (in_new _ _)
      have hcu := hs.fresh s.c (Nat.le_refl _) hgc
      have hle2 : E.le (E.set s.c (.live w.heap.size (grownCap w (0 + n) 0 e))) := E.set_le _ _ (by rw [hcu]; trivial)
      obtain ⟨k1, k2⟩ := (hs.drew (w.drawn + 1)).new (o := .acc c [] m e z) (C := grownCap w (0 + n) 0 e)
        (ob := .cells (#[] ++ ys.toArray ++ Builtin.zeroCells zero.cells (grownCap w (0 + n) 0 e - (0 + n))) e (0, 0)) hgc rfl
        ⟨_, (0, 0), ys, [], (Builtin.zeroCells zero.cells (grownCap w (0 + n) 0 e - (0 + n))).toList, _, _, n, l', rfl, by simp, ⟨n, hc, hl'⟩, hrl.mono hle2.K hle2.hp, .nil, Env.set_same _ _ _, by
          simp only [Array.size_append, List.size_toArray, zeroCells_size, List.length_nil, hlen, ht.zs]
          rw [Nat.zero_add, ← Nat.add_mul]
          congr 1
          omega, hm, by simpa using hlen, fun off' _ _ h3 => by simp at h3⟩
      refine ⟨_, _, _, hrun', ?_, k1, (Ext.drew (B := B) (E := E) (w := w) _ _).trans k2 (fun j hj => hj)⟩
      have : Rel (E.set s.c (.live w.heap.size (grownCap w (0 + n) 0 e))) (.rsl s.c m) (.slice (some ⟨w.heap.size, 0, none⟩) n (grownCap w (0 + n) 0 e)) :=
        .rsl (by rw [Env.set_same]; rfl) hm ⟨by omega, by rw [Env.set_same]; simp⟩
      simpa using this
    · -- none
      rename_i hlt
      cases h2
      refine ⟨Step.refl _, fun {G B E w x' y'} hG hs hx hy => ?_⟩
      obtain ⟨n, l', hj, hl', hc, hm⟩ := data hs
      obtain ⟨ys, hrl, hlen, hrun⟩ := row_first (P := P) hs hj hl' hy
      obtain ⟨r1, r2⟩ := hrun w rfl
      have hn0 : n = 0 := by
        have h9 := hs.orc.lt _ _ _ hlt
        have h10 : ¬ (0 : Int) < m.val E.ρ := of_decide_eq_false h9.symm
        omega
      subst hn0
      have hy0 : ys = [] := List.length_eq_zero_iff.1 (by simpa using hlen)
      subst hy0
      cases hx
      exact Ok1.pure hs (append_nil_fit ht r1 r2) .nilslice
    · cases h2
  · -- behind a row
    rename_i i n0
    obtain ⟨o, ho, h1⟩ := oc_some h
    unfold accC at h1
    split at h1
    case h_2 => cases h1
    rename_i k vs n' e' z'
    obtain ⟨hmm, h2⟩ := bc_some h1
    obtain ⟨hee, h3⟩ := bc_some h2
    obtain ⟨hzz, h4⟩ := bc_some h3
    obtain ⟨c, m, hfc, h5⟩ := oc2_some h4
    obtain ⟨hle, h6⟩ := bc_some h5
    cases h6
    obtain rfl := seEq_ok hmm
    have hee' : e = e' := by simpa using hee
    have hzz' : z = z' := by simpa using hzz
    subst hee' hzz'
    obtain ⟨d, hdm, hdf, q, hts, hres, hsym⟩ := findCat_some hfc
    refine ⟨(Step.set _ _ _).trans (Step.new _ _), fun {G B E w x' y'} hG hs hx hy => ?_⟩
    cases hx
    rename_i b c' N0 hb hc hN
    have hgi : G i := hG i ((in_lor _ _ _).2 (.inl (in_set _ _ _)))
    have hgc : G s.c := hG s.c (in_new _ _)
    obtain ⟨b0, C0, ob, he0, hb0, hok, _⟩ := hs.fact i _ hgi ho
    obtain ⟨cc, f, us0, us, rest, b1, C1, N', l, rfl, hx, hd, hl, hrl, he1, hsz, hN', hlen0, hfz⟩ := hok
    rw [he0] at he1
    cases he1
    obtain rfl := hs.at_live he0 hb
    obtain ⟨hlc, hcx⟩ := hc
    rw [he0] at hcx
    simp only [Nat.sub_zero] at hcx
    subst hcx
    obtain rfl : N' = N0 := by omega
    -- the data
    have hdef := hs.defs d hdm
    unfold DefOk at hdef
    rw [if_pos hdf] at hdef
    unfold CatOk at hdef
    rw [hts, hres] at hdef
    obtain ⟨n1, n, N, l1, ls, l', h1, h2, h3, h4, h5, h6, h7⟩ := hdef
    obtain ⟨M, hdk, hll⟩ := hd
    rcases h1 with ⟨h1, _⟩ | ⟨_, h1⟩
    · cases h1
    rw [hdk] at h1
    cases h1
    obtain ⟨ys, hyl, hlen, hyrun⟩ := row_first (P := P) hs h2 h3 hy
    have hls : ReprL E.K E.hp ls us := h7 E.K E.hp us (symL_ok (E := E) (F := pureEnv E.ρ E.δ E.K E.hp) ⟨rfl, rfl, fun _ h => h, fun _ _ => rfl⟩ hsym hrl)
    have hNN : N = N' + n := by
      refine Nat.eq_of_mul_eq_mul_right ht.pos ?_
      rw [← h5, List.length_append, List.length_append, h3, reprL_length hl, reprL_length hls, Nat.add_mul]
      omega
    have hNle : N' + n ≤ 1000000 := by
      have := leO_ok hs.orc hle
      have h7 : m.val E.ρ ≤ 1000000 := this
      omega
    have hmv : m.val E.ρ = ((N' + n : Nat) : Int) := by rw [h6, hNN]
    have hcs : cc.size = us0.length + us.length + rest.length := by rw [← Array.length_toList, hx]; simp; omega
    have hold : cc.toList.take (N' * z) = us0 ++ us := by
      rw [hx, ← hlen0, ← List.length_append, List.take_left']
      rfl
    have hcu := hs.fresh s.c (Nat.le_refl _) hgc
    have hci : s.c ≠ i := fun e => by rw [e, he0] at hcu; cases hcu
    have hall : ReprL E.K E.hp (l ++ (ls ++ l')) (us0 ++ (us ++ ys)) := reprL_app hl (reprL_app hls hyl)
    by_cases hin : N' + n ≤ c'
    · obtain ⟨hy1, hy2⟩ := hyrun w rfl
      have hfits : N' * z + ys.length ≤ cc.size := by
        rw [hlen, ← Nat.add_mul, hsz]; exact Nat.mul_le_mul_right _ hin
      have hst := run_storeCells_in (P := P) b (0 + N' * z) e f ys 0 cc w hb0 (by omega) (fun j hj hx => hfz (0 + N' * z + 0 + j) (by omega) hx.1 hx.2) (reprL_one hyl)
      rw [setRow_put hb0] at hst
      have hst' : (storeCells ⟨b, 0 + N' * z, none⟩ ys).run P w = .ok () (w.putObj b (.cells (cc.toList.take (N' * z) ++ ys ++ cc.toList.drop (N' * z + ys.length)).toArray e f)) := by
        simp only [Nat.add_zero, Nat.zero_add] at hst ⊢; exact hst
      have hrun := run_append_fit (ty := ty) ht hy1 hy2 hin (a := ⟨b, 0, none⟩) (by rw [addr_add]; simpa only [List.toList_toArray] using hst')
      have hle2 : E.le ((E.set i .dead).set s.c (.live b c')) :=
        Env.le_trans (E.set_le _ _ (by rw [he0]; trivial)) (Env.set_le _ _ _ (by rw [Env.set_ne _ _ hci, hcu]; trivial))
      obtain ⟨k1, k2⟩ := hs.take (o' := .acc c [] m e z) (ob' := .cells (cc.toList.take (N' * z) ++ ys ++ cc.toList.drop (N' * z + ys.length)).toArray e f) hgi hgc ho rfl rfl he0
        ⟨_, f, us0 ++ (us ++ ys), [], cc.toList.drop (N' * z + ys.length), b, c', N' + n, l ++ (ls ++ l'), rfl, by rw [hold]; simp, ⟨N, h4, by rw [h5]⟩, hall.mono hle2.K hle2.hp, .nil, Env.set_same _ _ _, by rw [← hsz]; simp; omega, hmv, by
          rw [List.length_append, List.length_append, List.length_nil, hlen, Nat.add_mul, ← hlen0]; omega, fun off' ho' => hfz off' (by simp at ho'; omega)⟩
      exact ⟨(E.set i .dead).set s.c (.live b c'), _, _, hrun, .rsl (by rw [Env.set_same]; rfl) hmv ⟨hin, by rw [Env.set_same]; simp⟩, k1, k2⟩
    · obtain ⟨hy1, _⟩ := hyrun w rfl
      obtain ⟨_, hy2⟩ := hyrun w.drew rfl
      have holdrun : (Builtin.firstCells z N' (.slice (some ⟨b, 0, none⟩) N' c')).run P w.drew = .ok (us0 ++ us).toArray w.drew := by
        simp only [Builtin.firstCells]
        refine run_loadCells_at (w := w.drew) (fun j v hj => ?_) (by simp; omega)
        have : cc[j]? = some v := by
          rw [← Array.getElem?_toList, hx, List.getElem?_append_left (List.getElem?_eq_some_iff.1 hj).1]; exact hj
        have hb0' : w.drew.heap[b]? = some (.cells cc e f) := hb0
        simp [World.cell?, hb0', this]
      have hrun := run_append_grow (ty := ty) ht hy1 holdrun hy2 (by omega) (by omega)
      have hge := grownCap_ge w (N' + n) c' e
      obtain ⟨q1, q2⟩ := (hs.drew (w.drawn + 1)).kill i (by rw [he0]; simp)
      have hle2 : E.le ((E.set i .dead).set s.c (.live w.heap.size (grownCap w (N' + n) c' e))) :=
        Env.le_trans (E.set_le _ _ (by rw [he0]; trivial)) (Env.set_le _ _ _ (by rw [Env.set_ne _ _ hci, hcu]; trivial))
      obtain ⟨k1, k2⟩ := q1.new (o := .acc c [] m e z) (C := grownCap w (N' + n) c' e)
        (ob := .cells ((us0 ++ us).toArray ++ ys.toArray ++ Builtin.zeroCells zero.cells (grownCap w (N' + n) c' e - (N' + n))) e (0, 0)) hgc rfl
        ⟨_, (0, 0), us0 ++ (us ++ ys), [], (Builtin.zeroCells zero.cells (grownCap w (N' + n) c' e - (N' + n))).toList, _, _, N' + n, l ++ (ls ++ l'), rfl, by simp, ⟨N, h4, by rw [h5]⟩, hall.mono hle2.K hle2.hp, .nil, Env.set_same _ _ _, by
          simp only [Array.size_append, List.size_toArray, zeroCells_size, List.length_append, hlen0, hlen, ht.zs]
          rw [← Nat.add_mul, ← Nat.add_mul]
          congr 1
          omega, hmv, by rw [List.length_append, List.length_append, List.length_nil, hlen, Nat.add_mul, ← hlen0]; omega, fun off' _ _ h3 => by simp at h3⟩
      refine ⟨(E.set i .dead).set s.c (.live w.heap.size (grownCap w (N' + n) c' e)), _, _, hrun, .rsl (by rw [Env.set_same]; rfl) hmv ⟨hge, by rw [Env.set_same]; simp⟩, k1, ?_⟩
      exact ((Ext.drew (B := B) (E := E) (w := w) (s.set i none).w (w.drawn + 1)).trans q2 (fun j hj => hj)).trans k2 (fun j hj => (in_lor _ _ _).2 (.inl hj))
  · cases h
theorem appendQ_ok {ts : Array TypeId} {ty : TypeId} {x y : AV} (h : appendQ P ts.toList x y s = some (v, s')) :
    Step s s' ∧ ∀ {G B E w x' y'}, (∀ j, In s'.l j → G j) → Sat G B E s w → Rel E x x' → Rel E y y' → Ok1 P G B s' v E w (Builtin.append_ ts ty #[x', y']) := by
  unfold appendQ at h
  split at h
  case h_2 => cases h
  rename_i st yt rst j hts
  split at h
  case h_2 => cases h
  rename_i e hu
  obtain ⟨z, hz, h1⟩ := oc_some h
  obtain ⟨by_, hby, h2⟩ := oc_some h1
  obtain ⟨d, hd, h3⟩ := oc_some h2
  obtain ⟨hint, h4⟩ := bc_some h3
  obtain ⟨zero, hzero, h5⟩ := oc_some h4
  obtain ⟨hzl, h7⟩ := bc_some h5
  obtain ⟨hpos, h8⟩ := bc_some h7
  obtain ⟨hbl, h10⟩ := bc_some h8
  have ⟨zv, hzv, hzr, hzinfo⟩ : ∃ zv, (∀ w, (zeroValue e).run P w = .ok zv w) ∧ (∀ E, Rel E zero zv) ∧ ∃ i, P.info? e = some i ∧ i.zero = some zv := by
    unfold zeroOf at hzero
    split at hzero
    · rename_i i hi
      split at hzero
      · rename_i zv hv
        exact ⟨zv, fun w => by simp [zeroValue, typeInfo, hi, hv], fun E => ofVal_ok hzero, i, hi, hv⟩
      · cases hzero
    · cases hzero
  obtain ⟨i, hi, hiz⟩ := hzinfo
  have ht : AppT P ts e z zv := by
    refine ⟨⟨st, yt, d, ?_, ?_, hu, hd, by simpa using hint⟩, ⟨i, hi, ?_, ?_, hiz⟩, ?_, by simpa using hpos⟩
    · rw [← Array.getElem?_toList, hts]; rfl
    · rw [← Array.getElem?_toList, hts]; rfl
    · unfold szOf at hz; rw [hi] at hz; cases hz; rfl
    · unfold bytesB at hby; rw [hi] at hby; cases hby; simpa using hbl
    · have := (hzr (⟨fun _ => .dead, fun _ => 0, fun _ => .same, fun _ => default, fun _ => False, fun _ => none⟩ : Env)).cells.length
      have hzl' : zero.cells.length = z := by simpa using hzl
      simp at this; omega
  exact appendCat_ok ht h10
theorem guard_tx {E : Env} {op : BinOp} {t : TypeId} {x y : Operand} {xv yv : AV} {a b : Value} (h : (isTx xv || isTx yv) = true) (hx : Rel E xv a) (hy : Rel E yv b) (u : World) : (eqGuard op t x y a b).run P u = .ok () u := by
  rw [Bool.or_eq_true] at h
  rcases h with h | h
  · cases hx <;> first | (cases h; done) | skip
    all_goals (unfold eqGuard; cases op <;> cases b <;> simp)
  · cases hy <;> first | (cases h; done) | skip
    all_goals (unfold eqGuard; cases op <;> cases a <;> simp)
theorem odefOp_ok [IsProg P] (h : odefOp P o.op a s = some (v, s')) : OpOk P o a s v s' := by
  obtain ⟨dst, op, type, pos, after, guard⟩ := o
  unfold odefOp at h
  split at h
  · rename_i t x ho
    simp only at ho
    subst ho
    obtain ⟨xv, hx, h1⟩ := oc_some h
    obtain ⟨rfl, q⟩ := odefA_ok (P := P) (by decide) h1
    refine ⟨Step.refl _, fun {G B E w ac ro} hG hs ht {K Q} hK => wpIn_value (m := Instr.loadAt t (ac.eval x)) (by cases ro <;> rfl) ?_ hK⟩
    obtain ⟨m, hm, hok⟩ := q hs (.cons (ht.one hx (by simp [Op.operands, Call.operands])) .nil)
    cases hm; exact hok
  · rename_i t x i ho
    simp only at ho
    subst ho
    obtain ⟨xv, hx, h1⟩ := oc_some h
    obtain ⟨iv, hi, h1⟩ := oc_some h1
    obtain ⟨rfl, q⟩ := odefA_ok (P := P) (by decide) h1
    refine ⟨Step.refl _, fun {G B E w ac ro} hG hs ht {K Q} hK => wpIn_value (m := Instr.indexAt t (ac.eval x) (ac.eval i)) (by cases ro <;> rfl) ?_ hK⟩
    obtain ⟨m, hm, hok⟩ := q hs (.cons (ht.one hx (by simp [Op.operands, Call.operands])) (.cons (ht.one hi (by simp [Op.operands, Call.operands])) .nil))
    cases hm; exact hok
  · rename_i t x i ho
    simp only at ho
    subst ho
    obtain ⟨xv, hx, h1⟩ := oc_some h
    obtain ⟨iv, hi, h1⟩ := oc_some h1
    obtain ⟨rfl, q⟩ := odefA_ok (P := P) (by decide) h1
    refine ⟨Step.refl _, fun {G B E w ac ro} hG hs ht {K Q} hK => wpIn_value (m := Instr.index t (ac.eval x) (ac.eval i)) (by cases ro <;> rfl) ?_ hK⟩
    obtain ⟨m, hm, hok⟩ := q hs (.cons (ht.one hx (by simp [Op.operands, Call.operands])) (.cons (ht.one hi (by simp [Op.operands, Call.operands])) .nil))
    cases hm; exact hok
  · rename_i t x i ok ho
    simp only at ho
    subst ho
    obtain ⟨xv, hx, h1⟩ := oc_some h
    obtain ⟨iv, hi, h1⟩ := oc_some h1
    obtain ⟨rfl, q⟩ := odefA_ok (P := P) (by cases ok <;> decide) h1
    refine ⟨Step.refl _, fun {G B E w ac ro} hG hs ht {K Q} hK => wpIn_value (m := Instr.lookup t (ac.eval x) (ac.eval i) ok) (by cases ro <;> rfl) ?_ hK⟩
    obtain ⟨m, hm, hok⟩ := q hs (.cons (ht.one hx (by simp [Op.operands, Call.operands])) (.cons (ht.one hi (by simp [Op.operands, Call.operands])) .nil))
    cases ok <;> (cases hm; exact hok)
  · rename_i t x lo hi ho
    simp only at ho
    subst ho
    obtain ⟨xv, hx, h1⟩ := oc_some h
    obtain ⟨lv, hl, h1⟩ := oc_some h1
    obtain ⟨hv, hh, h1⟩ := oc_some h1
    obtain ⟨rfl, q⟩ := odefA_ok (P := P) (by decide) h1
    refine ⟨Step.refl _, fun {G B E w ac ro} hG hs ht {K Q} hK => wpIn_value (m := Instr.sliceAt t (ac.eval x) (some (ac.eval lo)) (some (ac.eval hi)) none) (by cases ro <;> rfl) ?_ hK⟩
    obtain ⟨m, hm, hok⟩ := q hs (.cons (ht.one hx (by simp [Op.operands, Call.operands])) (.cons (ht.one hl (by simp [Op.operands, Call.operands])) (.cons (ht.one hh (by simp [Op.operands, Call.operands])) .nil)))
    cases hm; exact hok
  · rename_i t x lo ho
    simp only at ho
    subst ho
    obtain ⟨xv, hx, h1⟩ := oc_some h
    obtain ⟨lv, hl, h1⟩ := oc_some h1
    obtain ⟨rfl, q⟩ := odefA_ok (P := P) (by decide) h1
    refine ⟨Step.refl _, fun {G B E w ac ro} hG hs ht {K Q} hK => wpIn_value (m := Instr.sliceAt t (ac.eval x) (some (ac.eval lo)) none none) (by cases ro <;> rfl) ?_ hK⟩
    obtain ⟨m, hm, hok⟩ := q hs (.cons (ht.one hx (by simp [Op.operands, Call.operands])) (.cons (ht.one hl (by simp [Op.operands, Call.operands])) .nil))
    cases hm; exact hok
  · rename_i t x hi ho
    simp only at ho
    subst ho
    obtain ⟨xv, hx, h1⟩ := oc_some h
    obtain ⟨hv, hh, h1⟩ := oc_some h1
    obtain ⟨rfl, q⟩ := odefA_ok (P := P) (by decide) h1
    refine ⟨Step.refl _, fun {G B E w ac ro} hG hs ht {K Q} hK => wpIn_value (m := Instr.sliceAt t (ac.eval x) none (some (ac.eval hi)) none) (by cases ro <;> rfl) ?_ hK⟩
    obtain ⟨m, hm, hok⟩ := q hs (.cons (ht.one hx (by simp [Op.operands, Call.operands])) (.cons (ht.one hh (by simp [Op.operands, Call.operands])) .nil))
    cases hm; exact hok
  · rename_i c ho
    simp only at ho
    subst ho
    unfold odefC at h
    split at h
    case h_3 => cases h
    case h_2 =>
      rename_i x y hcal hargs
      obtain ⟨callee, args, argTypes⟩ := c
      simp only at hcal hargs h
      subst hcal
      obtain ⟨xv, hx, h1⟩ := oc_some h
      obtain ⟨yv, hy, h2⟩ := oc_some h1
      have e1 : args = #[x, y] := by rw [← Array.toList_inj]; exact hargs
      subst e1
      obtain ⟨q1, q2⟩ := appendQ_ok (ty := type) h2
      refine ⟨q1, fun {G B E w ac ro} hG hs ht {K Q} hK => wpIn_value (m := Builtin.append_ argTypes type (#[x, y].map ac.eval)) (by cases ro <;> rfl) ?_ hK⟩
      have := q2 hG hs (ht.one hx (by simp [Op.operands, Call.operands])) (ht.one hy (by simp [Op.operands, Call.operands]))
      rw [show (#[x, y].map ac.eval) = #[ac.eval x, ac.eval y] from by simp]
      exact this
    rename_i x t hcal hargs hts
    obtain ⟨callee, args, argTypes⟩ := c
    simp only at hcal hargs hts
    subst hcal
    obtain ⟨xv, hx, h1⟩ := oc_some h
    obtain ⟨rfl, q⟩ := odefA_ok (P := P) (by decide) h1
    have e1 : args = #[x] := by rw [← Array.toList_inj]; exact hargs
    have e2 : argTypes = #[t] := by rw [← Array.toList_inj]; exact hts
    subst e1 e2
    refine ⟨Step.refl _, fun {G B E w ac ro} hG hs ht {K Q} hK => wpIn_value (m := Builtin.len_ #[t] type (#[x].map ac.eval)) (by cases ro <;> rfl) ?_ hK⟩
    obtain ⟨m, hm, hok⟩ := q hs (.cons (ht.one hx (by simp [Op.operands, Call.operands])) .nil)
    cases hm
    rw [show (#[x].map ac.eval) = #[ac.eval x] from by simp]
    exact hok
  · rename_i t u x ho
    simp only at ho
    subst ho
    obtain ⟨xv, hx, h1⟩ := oc_some h
    obtain ⟨rfl, q⟩ := effA_ok (P := P) (by decide) h1
    refine ⟨Step.refl _, fun {G B E w ac ro} hG hs ht {K Q} hK => wpIn_value (m := convert t u (ac.eval x)) (by cases ro <;> rfl) ?_ hK⟩
    obtain ⟨m, hm, hok⟩ := q hs (.cons (ht.one hx (by simp [Op.operands, Call.operands])) .nil)
    cases hm; exact hok
  · rename_i t x f ho
    simp only at ho
    subst ho
    obtain ⟨xv, hx, h1⟩ := oc_some h
    obtain ⟨rfl, q⟩ := odefA_ok (P := P) (by decide) h1
    refine ⟨Step.refl _, fun {G B E w ac ro} hG hs ht {K Q} hK => wpIn_value (m := Instr.fieldAt t (ac.eval x) f) (by cases ro <;> rfl) ?_ hK⟩
    obtain ⟨m, hm, hok⟩ := q hs (.cons (ht.one hx (by simp [Op.operands, Call.operands])) .nil)
    cases hm; exact hok
  · rename_i t x ho
    simp only at ho
    subst ho
    obtain ⟨xv, hx, h1⟩ := oc_some h
    obtain ⟨rfl, q⟩ := odefA_ok (P := P) (by decide) h1
    refine ⟨Step.refl _, fun {G B E w ac ro} hG hs ht {K Q} hK => wpIn_value (m := Op.unary .not (ac.eval x)) (by cases ro <;> rfl) ?_ hK⟩
    obtain ⟨m, hm, hok⟩ := q hs (.cons (ht.one hx (by simp [Op.operands, Call.operands])) .nil)
    cases hm; exact hok
  · rename_i t x y yt ho
    simp only at ho
    subst ho
    obtain ⟨xv, hx, h1⟩ := oc_some h
    obtain ⟨yv, hy, h1⟩ := oc_some h1
    obtain ⟨htx, h1⟩ := bc_some h1
    obtain ⟨rfl, q⟩ := odefA_ok (P := P) (by decide) h1
    refine ⟨Step.refl _, fun {G B E w ac ro} hG hs ht {K Q} hK => wpIn_value (m := do eqGuard .eql t x y (ac.eval x) (ac.eval y); binOp .eql t (ac.eval x) (ac.eval y)) (by cases ro <;> rfl) ?_ hK⟩
    have hxr := ht.one hx (by simp [Op.operands, Call.operands])
    have hyr := ht.one hy (by simp [Op.operands, Call.operands])
    obtain ⟨m, hm, hok⟩ := q hs (.cons hxr (.cons hyr .nil))
    cases hm
    have hg : ∀ u : World, (eqGuard .eql t x y (ac.eval x) (ac.eval y)).run P u = .ok () u := fun u => guard_tx htx hxr hyr u
    obtain ⟨E', v', w', k1, k2⟩ := hok
    exact ⟨E', v', w', by simp [hg, k1], k2⟩
  · rename_i t x y yt ho
    simp only at ho
    subst ho
    obtain ⟨xv, hx, h1⟩ := oc_some h
    obtain ⟨yv, hy, h1⟩ := oc_some h1
    obtain ⟨htx, h1⟩ := bc_some h1
    obtain ⟨rfl, q⟩ := odefA_ok (P := P) (by decide) h1
    refine ⟨Step.refl _, fun {G B E w ac ro} hG hs ht {K Q} hK => wpIn_value (m := do eqGuard .neq t x y (ac.eval x) (ac.eval y); binOp .neq t (ac.eval x) (ac.eval y)) (by cases ro <;> rfl) ?_ hK⟩
    have hxr := ht.one hx (by simp [Op.operands, Call.operands])
    have hyr := ht.one hy (by simp [Op.operands, Call.operands])
    obtain ⟨m, hm, hok⟩ := q hs (.cons hxr (.cons hyr .nil))
    cases hm
    have hg : ∀ u : World, (eqGuard .neq t x y (ac.eval x) (ac.eval y)).run P u = .ok () u := fun u => guard_tx htx hxr hyr u
    obtain ⟨E', v', w', k1, k2⟩ := hok
    exact ⟨E', v', w', by simp [hg, k1], k2⟩
  · cases h
end
end Ev
end Go.Proofs.YtnjpdipombnigaaGreatDoor
