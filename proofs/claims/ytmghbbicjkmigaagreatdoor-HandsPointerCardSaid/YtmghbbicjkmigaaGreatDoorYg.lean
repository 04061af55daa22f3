/-
  The evaluator: every operation.
  The evaluator: every operation, joined.
  The evaluator: one step of a region; regions that aren't drawn.
-/
import Derived.Test.YtmghbbicjkmigaaGreatDoorSz15
import Derived.Laws.Externs
import Derived.Lib.Bytealg
import Derived.KernelRfl
namespace Go.Proofs.YtmghbbicjkmigaaGreatDoor
namespace Ev
open Go.RowKit

def fen (ro : Option Nat) : Fence := { Fence.wide with round := ro }
theorem fen_none : fen none = Fence.wide := rfl
theorem fen_fn (ro : Option Nat) (f : FuncId) : (fen ro).fn f := trivial
theorem fen_depth (ro : Option Nat) : (fen ro).depth = none := rfl
theorem fen_room (ro : Option Nat) (n : Nat) : (fen ro).room n := fun _ h => by simp [fen, Fence.wide] at h

/-- A call has returned so. -/
def RetOk (G : Nat → Prop) (B : Nat) (s' : St) (v : AV) (E : Env) (w : World) (e : Ending) (w' : World) : Prop :=
  ∃ E' v', e = .returned v' ∧ Rel E' v v' ∧ Sat G B E' s' w' ∧ Ext B s'.w E E' w w'
/-- A call of a function with a body: it is entered. -/
def CallRes (P : Program) (f : FuncId) (args : Array Value) (w : World) (R : Ending → World → Prop) : Prop :=
  (callFunc f args).run P w = .ok (.enter f args) w ∧ CallsIn Fence.wide 0 P f args w R
def CallOk (P : Program) (call : FuncId → List AV → St → R) : Prop :=
  ∀ {f : FuncId} {args : List AV} {s : St} {v : AV} {s' : St}, call f args s = some (v, s') → Step s s' ∧ ∀ {G : Nat → Prop} {B : Nat} {E : Env} {w : World} {args' : Array Value}, (∀ j, In s'.l j → G j) → Sat G B E s w → RelL E args args'.toList →
    CallRes P f args' w (RetOk G B s' v E w)
def YieldOk (P : Program) (yld : Nat → List AV → St → R) : Prop :=
  ∀ {l : Nat} {args : List AV} {s : St} {v : AV} {s' : St}, yld l args s = some (v, s') → Step s s' ∧ ∀ {G : Nat → Prop} {B : Nat} {E : Env} {w : World} {args' : Array Value} {b : Nat}, (∀ j, In s'.l j → G j) → Sat G B E s w → RelL E args args'.toList → (E l).at b →
    ∃ fn tmps as bo, (Instr.yield b args').run P w = .ok (.round b fn tmps as bo) w ∧ RoundIn Fence.wide 0 P b fn tmps as bo w (RetOk G B s' v E w)

section
variable {P : Program} {G : Nat → Prop} {B : Nat} {E : Env} {s s' : St} {w : World} {v : AV} {o : Oper} {ac : Act} {ro : Option Nat} {K : Act → World → Prop} {Q : Exit → Act → World → Prop}

theorem wpIn_value {m : Sem Value} (hsem : o.semAt ro ac.eval = (do pure (.value (← m)))) (h : Ok1 P G B s' v E w m) (hK : ∀ E' v' w', Rel E' v v' → Sat G B E' s' w' → Ext B s'.w E E' w w' → K (ac.put o.dst v') w') : o.wpIn (fen ro) 0 P ac w K Q := by
  obtain ⟨E', v', w', hrun, h1, h2, h3⟩ := h
  refine ⟨fun f _ => fen_fn ro f, ?_⟩
  show o.uponIn (fen ro) 0 P ac K Q ((o.semAt ro ac.eval).run P w)
  rw [hsem]
  simp only [Sem.run_bind, hrun, Result.andThen_ok, Sem.run_pure, Oper.uponIn_value]
  exact hK E' v' w' h1 h2 h3
theorem wpIn_unit {m : Sem Unit} (hsem : o.semAt ro ac.eval = (do m; pure .skip)) (hv : v = undefA) (h : ∃ w', m.run P w = .ok () w' ∧ Sat G B E s' w' ∧ Ext B s'.w E E w w') (hK : ∀ E' v' w', Rel E' v v' → Sat G B E' s' w' → Ext B s'.w E E' w w' → K (ac.put o.dst v') w') : o.wpIn (fen ro) 0 P ac w K Q := by
  obtain ⟨w', hrun, h2, h3⟩ := h
  refine ⟨fun f _ => fen_fn ro f, ?_⟩
  show o.uponIn (fen ro) 0 P ac K Q ((o.semAt ro ac.eval).run P w)
  rw [hsem]
  simp only [Sem.run_bind, hrun, Result.andThen_ok, Sem.run_pure, Oper.uponIn_skip]
  exact hK E undef w' (by rw [hv]; exact .tuple .nil) h2 h3
theorem wpIn_call {f : FuncId} {args : Array Value} (hsem : (o.semAt ro ac.eval).run P w = (callFunc f args).run P w) (h : CallRes P f args w (RetOk G B s' v E w)) (hK : ∀ E' v' w', Rel E' v v' → Sat G B E' s' w' → Ext B s'.w E E' w w' → K (ac.put o.dst v') w') : o.wpIn (fen ro) 0 P ac w K Q := by
  refine ⟨fun f _ => fen_fn ro f, ?_⟩
  show o.uponIn (fen ro) 0 P ac K Q ((o.semAt ro ac.eval).run P w)
  rw [hsem]
  obtain ⟨h1, h2⟩ := h
  rw [h1, Oper.uponIn_enter]
  refine ⟨fun h => by simp [fen, Fence.wide] at h, ?_⟩
  have h2' : CallsIn (fen ro) (0 - 1) P f args w (RetOk G B s' v E w) := h2
  refine h2'.mono fun e w' he => ?_
  obtain ⟨E', v', rfl, q1, q2, q3⟩ := he
  exact hK E' v' w' q1 q2 q3
theorem wpIn_round {b fn : Nat} {tmps : Array Value} {as bo : Code} (hsem : (o.semAt ro ac.eval).run P w = .ok (.round b fn tmps as bo) w) (h : RoundIn Fence.wide 0 P b fn tmps as bo w (RetOk G B s' v E w)) (hK : ∀ E' v' w', Rel E' v v' → Sat G B E' s' w' → Ext B s'.w E E' w w' → K (ac.put o.dst v') w') : o.wpIn (fen ro) 0 P ac w K Q := by
  refine ⟨fun f _ => fen_fn ro f, ?_⟩
  show o.uponIn (fen ro) 0 P ac K Q ((o.semAt ro ac.eval).run P w)
  rw [hsem, Oper.uponIn_round]
  refine ⟨fun h => by simp [fen, Fence.wide] at h, ?_⟩
  have h2' : RoundIn (fen ro) (0 - 1) P b fn tmps as bo w (RetOk G B s' v E w) := h
  refine h2'.mono fun e w' he => ?_
  obtain ⟨E', v', rfl, q1, q2, q3⟩ := he
  exact hK E' v' w' q1 q2 q3
end

/-- A function without a body: done at once. -/
def ExtOk (P : Program) (f : FuncId) (args : List AV) (s : St) (v : AV) (s' : St) : Prop :=
  Step s s' ∧ ∀ {G : Nat → Prop} {B : Nat} {E : Env} {w : World} {args' : Array Value}, (∀ j, In s'.l j → G j) → Sat G B E s w → RelL E args args'.toList → ∃ E' v' w', (callFunc f args').run P w = .ok (.value v') w' ∧ Rel E' v v' ∧ Sat G B E' s' w' ∧ Ext B s'.w E E' w w'
section
variable {P : Program} {f : FuncId} {args : List AV} {s s' : St} {v : AV}
theorem extK_some {k : Nat} (h : extK P f = k) (h2 : 2 ≤ k) : ∃ fn, P.funcs[f]? = some fn ∧ fn.body = none ∧ Extern.findNext fn = none ∧ ((k = 2 ∧ fn.name = "maps.clone") ∨ (k = 3 ∧ fn.name = "internal/bytealg.IndexByteString") ∨ (k = 4 ∧ fn.name = "internal/abi.NoEscape")) := by
  unfold extK at h
  split at h
  · rename_i fn hfn
    split at h
    · subst h; exact absurd h2 (by decide)
    · rename_i hb
      cases hn : (Extern.findNext fn).isNone with
      | false => rw [hn, bi_false] at h; subst h; exact absurd h2 (by decide)
      | true =>
        rw [hn, bi_true] at h
        refine ⟨fn, hfn, hb, by simpa using hn, ?_⟩
        cases h1 : fn.name == "maps.clone" with
        | true => rw [h1, bi_true] at h; exact .inl ⟨h.symm, by simpa using h1⟩
        | false =>
          rw [h1, bi_false] at h
          cases h3 : fn.name == "internal/bytealg.IndexByteString" with
          | true => rw [h3, bi_true] at h; exact .inr (.inl ⟨h.symm, by simpa using h3⟩)
          | false =>
            rw [h3, bi_false] at h
            cases h4 : fn.name == "internal/abi.NoEscape" with
            | true => rw [h4, bi_true] at h; exact .inr (.inr ⟨h.symm, by simpa using h4⟩)
            | false => rw [h4, bi_false] at h; subst h; exact absurd h2 (by decide)
  · subst h; exact absurd h2 (by decide)
theorem find_of {fn : Func} {n : String} {e : Array Value → Sem Value} (hn : fn.name = n) (h1 : Extern.allGenericRows.lookup n = none) (h2 : Extern.allTypedRows.lookup n = none) (h3 : Extern.allRows.lookup n = some e) : Extern.find fn = some e := by
  subst hn
  simp [Extern.find, h1, h2, h3]
theorem clone_run {r : Nat} {es : Array MapEntry} {clock : Nat} {w : World} (t : TypeId) (hb : w.heap[r]? = some (.map es clock)) :
    (Extern.MapsClone.clone #[.iface t (.map (some r))]).run P w = .ok (.iface t (.map (some w.heap.size))) (w.alloc (.map es clock)) := by
  have e : Extern.MapsClone.clone #[.iface t (.map (some r))] = (getObj r >>= fun o => match o with
      | .map entries clock => (newObj (.map entries clock) >>= fun n => pure (.iface t (.map (some n))))
      | _ => stuck "maps.clone: a map expected") := rfl
  rw [e]
  simp [run_getObj_of hb (fun _ _ _ h => by cases h)]
theorem cloneA_ok (hk : extK P f = 2) (h : cloneA args s = some (v, s')) : ExtOk P f args s v s' := by
  obtain ⟨fn, hfn, hb, hn, hor⟩ := extK_some hk (by decide)
  have hname : fn.name = "maps.clone" := by
    rcases hor with ⟨_, h⟩ | ⟨h, _⟩ | ⟨h, _⟩
    · exact h
    · exact absurd h (by decide)
    · exact absurd h (by decide)
  unfold cloneA at h
  split at h <;> first | (cases h; done) | skip
  rename_i t i
  obtain ⟨o, ho, h1⟩ := oc_some h
  rcases mapU_some h1 with ⟨es, clock, rfl, h2⟩ | ⟨es, K, q, rfl, h2⟩
  · skip
    cases h2
    refine ⟨(Step.see _ _).trans (Step.new _ _), fun {G B E w args'} hG hs ha => ?_⟩
    obtain ⟨args'⟩ := args'
    cases ha
    rename_i y l' hy ht
    cases ht
    cases hy
    rename_i v' hv
    cases hv
    rename_i b hb'
    have hgi : G i := hG _ ((Step.new _ _).l _ (in_see _ _))
    obtain ⟨C, a, he, hh, hr⟩ := hs.map hgi ho hb'
    have hgn : G s.c := hG _ (in_new (s.see i) _)
    have hle : E.le (E.set s.c (.live w.heap.size 0)) := Env.set_le _ _ _ (by rw [hs.fresh s.c (Nat.le_refl _) hgn]; trivial)
    obtain ⟨k1, k2⟩ := (hs.seen i).new (o := .map es clock) (ob := .map a clock) (C := 0) hgn rfl ⟨a, rfl, hr.mono hle⟩
    refine ⟨_, .iface t (.map (some w.heap.size)), _, ?_, .iface (.map (by rw [show (s.see i).c = s.c from rfl, Env.set_same]; rfl)), k1, k2⟩
    rw [run_callFunc_extern hfn (by rw [hname]; decide) (by rw [hb]; rfl) hn (find_of hname (by kernel_rfl) (by kernel_rfl) (show _ = some Extern.MapsClone.clone by kernel_rfl)), clone_run t hh]
    rfl
  cases h2
  refine ⟨(Step.see _ _).trans (Step.new _ _), fun {G B E w args'} hG hs ha => ?_⟩
  obtain ⟨args'⟩ := args'
  cases ha
  rename_i y l' hy ht
  cases ht
  cases hy
  rename_i v' hv
  cases hv
  rename_i b hb'
  have hgi : G i := hG _ ((Step.new _ _).l _ (in_see _ _))
  obtain ⟨C, a, he, hh, hr⟩ := hs.umap hgi ho hb'
  have hgn : G s.c := hG _ (in_new (s.see i) _)
  have hle : E.le (E.set s.c (.live w.heap.size 0)) := Env.set_le _ _ _ (by rw [hs.fresh s.c (Nat.le_refl _) hgn]; trivial)
  obtain ⟨k1, k2⟩ := (hs.seen i).new (o := .umap es K q) (ob := .map a ((E.st q).f K)) (C := 0) hgn rfl ⟨a, rfl, hr.mono hle⟩
  refine ⟨_, .iface t (.map (some w.heap.size)), _, ?_, .iface (.map (by rw [show (s.see i).c = s.c from rfl, Env.set_same]; rfl)), k1, k2⟩
  rw [run_callFunc_extern hfn (by rw [hname]; decide) (by rw [hb]; rfl) hn (find_of hname (by kernel_rfl) (by kernel_rfl) (show _ = some Extern.MapsClone.clone by kernel_rfl)), clone_run t hh]
  rfl
theorem indexFrom_eq (c : UInt8) : ∀ (l : List UInt8) (i : Nat), indexFrom c.toNat i l = if Lib.indexByte l c = -1 then -1 else (i : Int) + Lib.indexByte l c
  | [], i => rfl
  | b :: l, i => by
    have ih := indexFrom_eq c l (i + 1)
    have hge := Lib.indexByte_ge l c
    have e1 : indexFrom c.toNat i (b :: l) = if b = c then (i : Int) else indexFrom c.toNat (i + 1) l := by
      simp only [indexFrom]
      split
      · rename_i hb
        rw [if_pos (UInt8.toNat_inj.1 (by simpa using hb))]; rfl
      · rename_i hb
        rw [if_neg (fun e => by subst e; simp at hb)]
    have e2 : Lib.indexByte (b :: l) c = if b = c then 0 else if Lib.indexByte l c = -1 then -1 else Lib.indexByte l c + 1 := by
      simp [Lib.indexByte]
    rw [e1, e2, ih]
    by_cases hb : b = c
    · simp [hb]
    · simp only [hb, if_false]
      by_cases h1 : Lib.indexByte l c = -1
      · simp [h1]
      · have h2 : Lib.indexByte l c + 1 ≠ -1 := by omega
        simp only [h1, h2, if_false]
        omega
theorem indexByteA_ok (hk : extK P f = 3) (h : indexByteA args s = some (v, s')) : ExtOk P f args s v s' := by
  obtain ⟨fn, hfn, hb, hn, hor⟩ := extK_some hk (by decide)
  have hname : fn.name = "internal/bytealg.IndexByteString" := by
    rcases hor with ⟨h, _⟩ | ⟨_, h⟩ | ⟨h, _⟩
    · exact absurd h (by decide)
    · exact h
    · exact absurd h (by decide)
  unfold indexByteA at h
  split at h <;> first | (cases h; done) | skip
  rename_i l n
  obtain ⟨c, hc, h1⟩ := oc_some h
  obtain ⟨hlt, h2⟩ := bc_some h1
  cases h2
  have hlt' : c < 256 := by simpa using hlt
  have hn' := natOf_some hc
  subst hn'
  refine ⟨Step.refl _, fun {G B E w args'} hG hs ha => ?_⟩
  obtain ⟨args'⟩ := args'
  cases ha
  rename_i y l' hy ht
  cases ht
  rename_i y2 l2 hy2 ht2
  cases ht2
  cases hy
  cases hy2
  refine ⟨E, .int .i64 (indexFrom c 0 l), w, ?_, .int _ _, hs, Ext.refl _ _ _ _⟩
  rw [run_callFunc_extern hfn (by rw [hname]; decide) (by rw [hb]; rfl) hn (find_of hname (by kernel_rfl) (by kernel_rfl) (show _ = some Extern.BytealgIndexByte.indexByte by kernel_rfl)), run_indexByte_string]
  simp only [Result.andThen_ok, Lib.firstIdx_eq]
  have e := indexFrom_eq (UInt8.ofNat c) l 0
  have hc' : (UInt8.ofNat c).toNat = c := by simp [UInt8.toNat_ofNat']; omega
  rw [hc'] at e
  have hc2 : ((c : Int).toNat.toUInt8) = UInt8.ofNat c := by simp
  rw [e, hc2]
  show Result.ok (Next.value (.int .i64 (Lib.indexByte l (UInt8.ofNat c)))) w = _
  congr 3
  split
  · rename_i h; exact h
  · simp
theorem sameA_ok (hk : extK P f = 4) (h : sameA args s = some (v, s')) : ExtOk P f args s v s' := by
  obtain ⟨fn, hfn, hb, hn, hor⟩ := extK_some hk (by decide)
  have hname : fn.name = "internal/abi.NoEscape" := by
    rcases hor with ⟨h, _⟩ | ⟨h, _⟩ | ⟨_, h⟩
    · exact absurd h (by decide)
    · exact absurd h (by decide)
    · exact h
  unfold sameA at h
  split at h <;> first | (cases h; done) | skip
  cases h
  refine ⟨Step.refl _, fun {G B E w args'} hG hs ha => ?_⟩
  obtain ⟨args'⟩ := args'
  cases ha
  rename_i y l' hy ht
  cases ht
  refine ⟨E, y, w, ?_, hy, hs, Ext.refl _ _ _ _⟩
  rw [run_callFunc_extern hfn (by rw [hname]; decide) (by rw [hb]; rfl) hn (find_of hname (by kernel_rfl) (by kernel_rfl) (show _ = some Extern.AbiNoEscape.same by kernel_rfl)), Lib.run_noEscape]
  rfl
end
section
variable {P : Program} {G : Nat → Prop} {B : Nat} {E : Env} {s s' : St} {w : World} {v : AV} {o : Oper} {ac : Act} {ro : Option Nat} {K : Act → World → Prop} {Q : Exit → Act → World → Prop}
theorem wpIn_ext {f : FuncId} {args : Array Value} (hsem : (o.semAt ro ac.eval).run P w = (callFunc f args).run P w) (h : ∃ E' v' w', (callFunc f args).run P w = .ok (.value v') w' ∧ Rel E' v v' ∧ Sat G B E' s' w' ∧ Ext B s'.w E E' w w') (hK : ∀ E' v' w', Rel E' v v' → Sat G B E' s' w' → Ext B s'.w E E' w w' → K (ac.put o.dst v') w') : o.wpIn (fen ro) 0 P ac w K Q := by
  refine ⟨fun f _ => fen_fn ro f, ?_⟩
  show o.uponIn (fen ro) 0 P ac K Q ((o.semAt ro ac.eval).run P w)
  rw [hsem]
  obtain ⟨E', v', w', h1, q1, q2, q3⟩ := h
  rw [h1, Oper.uponIn_value]
  exact hK E' v' w' q1 q2 q3
end

/-- The operands of an operation. -/
def ORel (E : Env) (op : Op) (a : T AV) (ac : Act) : Prop := ∀ x, x ∈ op.operands → ∀ u, opd a x = some u → Rel E u (ac.eval x)
theorem ORel.one {E : Env} {op : Op} {a : T AV} {ac : Act} (h : ORel E op a ac) {x : Operand} {u : AV} (hx : opd a x = some u) (hm : x ∈ op.operands) : Rel E u (ac.eval x) := h x hm u hx
theorem TRel.ops {G : Nat → Prop} {B : Nat} {E : Env} {s : St} {w : World} (hs : Sat G B E s w) {nt : Nat} {a : T AV} {ac : Act} (ht : TRel E nt a ac.tmps) (op : Op) : ORel E op a ac := fun _ _ _ hu => opd_ok hs.glob ht hu
theorem opds_ok2 {E : Env} {a : T AV} {ac : Act} : ∀ {l : List Operand} {m : List AV}, (∀ x, x ∈ l → ∀ u, opd a x = some u → Rel E u (ac.eval x)) → opds a l = some m → RelL E m (l.map ac.eval)
  | [], m, _, h => by cases h; exact .nil
  | x :: r, m, k, h => by
    obtain ⟨v, h1, h2⟩ := oc_some (show oc (opd a x) (fun v => oc (opds a r) fun l => some (v :: l)) = some m from h)
    obtain ⟨l, h3, h4⟩ := oc_some h2
    cases h4
    exact .cons (k x (by simp) _ h1) (opds_ok2 (fun y hy => k y (by simp [hy])) h3)
theorem partsA_ok2 {E : Env} {a : T AV} {ac : Act} : ∀ {l : List (Nat × Operand)} {m : List (Nat × AV)}, (∀ x, x ∈ l.map (·.2) → ∀ u, opd a x = some u → Rel E u (ac.eval x)) → partsA a l = some m → RelP E m (l.map fun p => (p.1, ac.eval p.2))
  | [], m, _, h => by cases h; exact .nil
  | (i, x) :: r, m, k, h => by
    obtain ⟨v, h1, h2⟩ := oc_some (show oc (opd a x) (fun v => oc (partsA a r) fun l => some ((i, v) :: l)) = some m from h)
    obtain ⟨l, h3, h4⟩ := oc_some h2
    cases h4
    exact .cons (k x (by simp) _ h1) (partsA_ok2 (fun y hy => k y (by simp at hy ⊢; exact .inr hy)) h3)
theorem opdO_ok2 {E : Env} {a : T AV} {ac : Act} {x : Option Operand} {v : Option AV} (k : ∀ y, x = some y → ∀ u, opd a y = some u → Rel E u (ac.eval y)) (h : opdO a x = some v) : RelO E v (x.map ac.eval) := by
  cases x with
  | none => cases h; exact .none
  | some x =>
    obtain ⟨y, h1, h2⟩ := oc_some (show oc (opd a x) (fun v => some (some v)) = some v from h)
    cases h2
    exact .some (k x rfl _ h1)
/-- What an operation's evaluation promises. -/
def OpOk (P : Program) (o : Oper) (a : T AV) (s : St) (v : AV) (s' : St) : Prop :=
  Step s s' ∧ ∀ {G : Nat → Prop} {B : Nat} {E : Env} {w : World} {ac : Act} {ro : Option Nat}, (∀ j, In s'.l j → G j) → Sat G B E s w → ORel E o.op a ac → ∀ {K : Act → World → Prop} {Q : Exit → Act → World → Prop},
    (∀ E' v' w', Rel E' v v' → Sat G B E' s' w' → Ext B s'.w E E' w w' → K (ac.put o.dst v') w') → o.wpIn (fen ro) 0 P ac w K Q

theorem intC_some {β : Type} {x : AV} {k : IntKind → Int → Option β} {y : β} (h : x.intC k = some y) : ∃ q n, x = .int q n ∧ k q n = some y := by
  cases x <;> first | (cases h; done) | exact ⟨_, _, rfl, h⟩
theorem sliceDataA_ok {P : Program} {ts : Array TypeId} {x : AV} {s s' : St} {v : AV} (h : sliceDataA x s = some (v, s')) :
    s' = s ∧ ∀ {G : Nat → Prop} {B : Nat} {E : Env} {w : World} {x' : Value} (ty : TypeId), Sat G B E s w → Rel E x x' → Ok1 P G B s v E w (Builtin.unsafeSliceData_ ts ty #[x']) := by
  unfold sliceDataA at h
  split at h
  · cases h
    refine ⟨rfl, fun {G B E w x'} ty hs hx => ?_⟩
    cases hx
    exact Ok1.pure hs (Lib.run_unsafeSliceData_nil (w := w) ts ty 0 0) .nilptr
  · rename_i c _
    obtain ⟨hc, h1⟩ := bc_some h
    cases h1
    refine ⟨rfl, fun {G B E w x'} ty hs hx => ?_⟩
    cases hx
    rename_i b c' hb hcap
    have hcc : c' = c := hcap
    have hc' : 0 < c := by simpa using hc
    exact Ok1.pure hs (Lib.run_unsafeSliceData_row (w := w) ts ty _ _ c' (by omega)) (.ptr hb)
  · obtain ⟨hc, h1⟩ := bc_some h
    cases h1
    refine ⟨rfl, fun {G B E w x'} ty hs hx => ?_⟩
    cases hx
    rename_i n _ b c' hb hcap
    have hle := hcap.1
    have hc' : 0 < n := by simpa using hc
    exact Ok1.pure hs (Lib.run_unsafeSliceData_row (w := w) ts ty _ _ c' (by omega)) (.ptr hb)
  · obtain ⟨hp, h1⟩ := bc_some h
    cases h1
    refine ⟨rfl, fun {G B E w x'} ty hs hx => ?_⟩
    cases hx
    rename_i b c' hb hcap
    have hle := hcap.1
    have hpp := pcsPos_ok E.ρ hp
    exact Ok1.pure hs (Lib.run_unsafeSliceData_row (w := w) ts ty _ _ c' (by omega)) (.ptr hb)
  · cases h
theorem freeze_put {w : World} {b n : Nat} {c : Array Value} {e : TypeId} {f : Nat × Nat} (h : w.heap[b]? = some (.cells c e f)) (hn : n ≠ 0) : ∃ f', w.freeze ⟨b, 0, none⟩ n = w.putObj b (.cells c e f') := by
  obtain ⟨lo, hi⟩ := f
  refine ⟨if lo == hi then (0, 0 + n) else (min lo 0, max hi (0 + n)), ?_⟩
  unfold World.freeze World.putObj
  rw [if_neg hn]
  congr 1
  apply Array.ext_getElem?
  intro j
  rw [Array.getElem?_modify]
  by_cases hj : b = j
  · subst hj
    obtain ⟨hlt, hget⟩ := Array.getElem?_eq_some_iff.1 h
    simp [hlt, hget]
  · rw [if_neg hj, Array.getElem?_setIfInBounds_ne hj]
theorem unsafeStringB_ok {P : Program} {ts : Array TypeId} {x k : AV} {s s' : St} {v : AV} (h : unsafeStringB P ts.toList x k s = some (v, s')) :
    Step s s' ∧ ∀ {G : Nat → Prop} {B : Nat} {E : Env} {w : World} {x' k' : Value} (ty : TypeId), (∀ j, In s'.l j → G j) → Sat G B E s w → Rel E x x' → Rel E k k' → Ok1 P G B s' v E w (Builtin.unsafeString_ ts ty #[x', k']) := by
  obtain ⟨ts⟩ := ts
  unfold unsafeStringB at h
  split at h <;> first | (cases h; done) | skip
  rename_i pt it hts
  have hts' : ts = [pt, it] := hts
  subst hts'
  obtain ⟨kk, n, rfl, h'⟩ := intC_some h
  clear h
  cases kk <;> first | (cases h'; done) | skip
  have h := h'
  clear h'
  simp only at h
  cases hz : eqA n (Int.ofNat (nat_lit 0)) with
  | true =>
    rw [hz, bi_true] at h
    have hn : n = 0 := by rw [eqA_eq] at hz; simpa using hz
    subst hn
    split at h <;> first | (cases h; done) | skip
    · cases h
      refine ⟨Step.refl _, fun {G B E w x' k'} ty hG hs hx hk => ?_⟩
      cases hx
      cases hk
      exact Ok1.pure hs (Lib.run_unsafeString_none w pt it ty none) (.str [])
    · cases h
      refine ⟨Step.refl _, fun {G B E w x' k'} ty hG hs hx hk => ?_⟩
      cases hx
      cases hk
      exact Ok1.pure hs (Lib.run_unsafeString_none w pt it ty _) (.str [])
  | false =>
    rw [hz, bi_false] at h
    obtain ⟨m, hm, h1⟩ := oc_some h
    obtain ⟨i, off, rfl, h2⟩ := ptrC_some h1
    obtain ⟨hoff, h3⟩ := bc_some h2
    obtain ⟨o, ho, h4⟩ := oc_some h3
    clear h h1 h2 h3
    unfold cellsC at h4
    split at h4 <;> first | (cases h4; done) | skip
    rename_i vs e fz op
    split at h4 <;> first | (cases h4; done) | skip
    rename_i e' hu
    obtain ⟨he, h5⟩ := bc_some h4
    obtain ⟨hc, h6⟩ := bc_some h5
    obtain ⟨hle, h7⟩ := bc_some h6
    obtain ⟨l, hl, h8⟩ := oc_some h7
    obtain ⟨b, hb, h9⟩ := oc_some h8
    cases h9
    clear h4 h5 h6 h7 h8
    have he' : e = e' := by simpa using he
    have hc' : P.cellsOf e = 1 := by simpa using hc
    have hle' : m ≤ 1000000 := by simpa using hle
    have hoff' : off = 0 := by simpa using hoff
    have hn := natOf_some hm
    subst he' hoff' hn
    have hm0 : m ≠ 0 := by
      intro e0
      subst e0
      cases hz
    obtain ⟨rfl, hml⟩ := takeN_some _ hl
    refine ⟨Step.set _ _ _, fun {G B E w x' k'} ty hG hs hx hk => ?_⟩
    cases hk
    cases hx
    rename_i bb hbb
    have hgi : G i := hG _ (in_set _ _ _)
    obtain ⟨b', C, ob, hE, hh, hok, _⟩ := hs.fact i _ hgi ho
    obtain rfl := hs.at_live hE hbb
    have hcells : ∃ c f xs rest, ob = .cells c e f ∧ c.toList = xs ++ rest ∧ RelL E vs xs := by
      cases op with
      | none => obtain ⟨c, f, rfl, hr, _⟩ := hok; exact ⟨c, f, c.toList, [], rfl, by simp, hr⟩
      | some z => obtain ⟨c, f, xs, rest, _, _, rfl, hx, hr, _⟩ := hok; exact ⟨c, f, xs, rest, rfl, hx, hr⟩
    obtain ⟨c, f, xs, rest, rfl, hxs, hr⟩ := hcells
    have hys := bytesStrict_some hb (hr.take m)
    have hlen : b.length = m := by
      have h1 := congrArg List.length hys
      have h2 := hr.length
      simp at h1; omega
    have hsize : c.size = xs.length + rest.length := by rw [← Array.length_toList, hxs]; simp
    obtain ⟨f', hf'⟩ := freeze_put (n := m) hh hm0
    have hrun := Lib.run_unsafeString_row (P := P) w pt it ty e hu hc' bb c.size (by simp [World.shape?, hh]) b (by intro e0; subst e0; simp at hlen; omega) (by have := hr.length; omega) (by omega) (by
      intro j x hj
      rw [addr_add, Nat.zero_add]
      have h1 : (xs.take m)[j]? = some (Value.int .u8 x.toNat) := by rw [hys]; simp [hj]
      have h2 : xs[j]? = some (Value.int .u8 x.toNat) := by
        rw [List.getElem?_take] at h1
        split at h1
        · exact h1
        · cases h1
      have h3 : c[j]? = some (Value.int .u8 x.toNat) := by
        rw [← Array.getElem?_toList, hxs]
        have hjl := (List.getElem?_eq_some_iff.1 h2).1
        rw [List.getElem?_append_left hjl]; exact h2
      simp [World.cell?, hh, h3])
    rw [hlen, hf'] at hrun
    obtain ⟨k1, k2⟩ := hs.write (o' := .part vs) (ob' := .cells c e f') hgi ho rfl hE ⟨c, e, f', xs, rest, rfl, hxs, hr⟩
    exact ⟨E, _, _, hrun, .str b, k1, k2⟩
theorem unsafeStringP_ok {P : Program} {ts : Array TypeId} {x : AV} {ps : List Pc} {s s' : St} {v : AV} (h : unsafeStringP P ts.toList x ps s = some (v, s')) :
    Step s s' ∧ ∀ {G : Nat → Prop} {B : Nat} {E : Env} {w : World} {x' k' : Value} (ty : TypeId), (∀ j, In s'.l j → G j) → Sat G B E s w → Rel E x x' → Rel E (.plen ps) k' → Ok1 P G B s' v E w (Builtin.unsafeString_ ts ty #[x', k']) := by
  obtain ⟨ts⟩ := ts
  unfold unsafeStringP at h
  split at h <;> first | (cases h; done) | skip
  rename_i pt it hts
  have hts' : ts = [pt, it] := hts
  subst hts'
  obtain ⟨i, off, rfl, h2⟩ := ptrC_some h
  obtain ⟨hoff, h3⟩ := bc_some h2
  obtain ⟨o, ho, h4⟩ := oc_some h3
  clear h h2 h3
  unfold bufC at h4
  split at h4 <;> first | (cases h4; done) | skip
  rename_i qs e
  obtain ⟨hpq, h5⟩ := bc_some h4
  obtain ⟨hpos, h6⟩ := bc_some h5
  obtain ⟨hle, h7⟩ := bc_some h6
  split at h7 <;> first | (cases h7; done) | skip
  rename_i e' hu
  obtain ⟨he, h8⟩ := bc_some h7
  obtain ⟨hc, h9⟩ := bc_some h8
  cases h9
  clear h4 h5 h6 h7 h8
  have he' : e = e' := by simpa using he
  have hc' : P.cellsOf e = 1 := by simpa using hc
  have hle' : pcsMax ps ≤ 1000000 := by simpa using hle
  have hoff' : off = 0 := by simpa using hoff
  subst he' hoff'
  refine ⟨Step.set _ _ _, fun {G B E w x' k'} ty hG hs hx hk => ?_⟩
  cases hk
  cases hx
  rename_i bb hbb
  have hgi : G i := hG _ (in_set _ _ _)
  obtain ⟨b', C, ob, hE, hh, hok, _⟩ := hs.fact i _ hgi ho
  obtain rfl := hs.at_live hE hbb
  obtain ⟨c, f, rest, b2, C2, rfl, hxs, hE2, hsz, hf⟩ := hok
  have hpp := pcsPos_ok E.ρ hpos
  have hmx := psVal_max E.ρ ps
  rw [← pcsEq_ok E.ρ hpq] at hxs
  have hsize : c.size = (psVal E.ρ ps).length + rest.length := by rw [← Array.length_toList, hxs]; simp [bytesV]
  obtain ⟨f', hf'⟩ := freeze_put (n := (psVal E.ρ ps).length) hh (by omega)
  have hrun := Lib.run_unsafeString_row (P := P) w pt it ty e hu hc' bb c.size (by simp [World.shape?, hh]) (psVal E.ρ ps) (by intro e0; rw [e0] at hpp; simp at hpp) (by omega) (by omega) (by
    intro j x hj
    rw [addr_add, Nat.zero_add]
    have hjl := (List.getElem?_eq_some_iff.1 hj).1
    have h2 : (bytesV (psVal E.ρ ps))[j]? = some (Value.int .u8 x.toNat) := by simp [bytesV, hj]
    have h3 : c[j]? = some (Value.int .u8 x.toNat) := by
      rw [← Array.getElem?_toList, hxs, List.getElem?_append_left (by rw [bytesV_length]; exact hjl)]; exact h2
    simp [World.cell?, hh, h3])
  rw [hf'] at hrun
  obtain ⟨k1, k2⟩ := hs.write (o' := .part []) (ob' := .cells c e f') hgi ho rfl hE ⟨c, e, f', [], c.toList, rfl, by simp, .nil⟩
  exact ⟨E, _, _, hrun, .pstr ps, k1, k2⟩
/-- Numbers alike stand for one number. -/
theorem rel_len {E : Env} {a b : AV} {x y : Value} (h : avEqN a b = true) (hx : Rel E a x) (hy : Rel E b y) : x = y := by
  unfold avEqN at h
  split at h
  · rw [Bool.and_eq_true, eqA_eq] at h
    have h1 := kindEq_ok h.1
    have h2 := of_decide_eq_true h.2
    subst h1
    subst h2
    cases hx
    cases hy
    rfl
  · rw [Bool.and_eq_true] at h
    have h1 := kindEq_ok h.1
    have h2 := seEq_ok h.2
    subst h1
    subst h2
    cases hx
    cases hy
    rfl
  · cases h
theorem unsafeStringA_ok {P : Program} {ts : Array TypeId} {x k : AV} {s s' : St} {v : AV} (h : unsafeStringA P ts.toList x k s = some (v, s')) :
    Step s s' ∧ ∀ {G : Nat → Prop} {B : Nat} {E : Env} {w : World} {x' k' : Value} (ty : TypeId), (∀ j, In s'.l j → G j) → Sat G B E s w → Rel E x x' → Rel E k k' → Ok1 P G B s' v E w (Builtin.unsafeString_ ts ty #[x', k']) := by
  unfold unsafeStringA at h
  split at h
  · exact unsafeStringP_ok h
  · split at h
    · rename_i qs _
      obtain ⟨hk, h1⟩ := bc_some h
      obtain ⟨q1, q2⟩ := unsafeStringP_ok h1
      refine ⟨q1, fun {G B E w x' k'} ty hG hs hx hk' => q2 ty hG hs hx ?_⟩
      rw [rel_len hk hk' (lenV_ok hs.orc qs)]
      exact .plen _
    · exact unsafeStringB_ok h
theorem builtinA_ok {P : Program} {b : Builtin} {ts : Array TypeId} {args : List AV} {s s' : St} {v : AV} (h : builtinA P b ts.toList args s = some (v, s')) :
    Step s s' ∧ ∀ {G : Nat → Prop} {B : Nat} {E : Env} {w : World} {args' : Array Value} (ty : TypeId) (cs : Array Bool), (∀ j, In s'.l j → G j) → Sat G B E s w → RelL E args args'.toList →
      ∃ m : Sem Value, builtin b ts ty cs args' = (do pure (.value (← m))) ∧ Ok1 P G B s' v E w m := by
  have two : ∀ {E : Env} {x y : AV} {args' : Array Value}, RelL E [x, y] args'.toList → ∃ x' y', args' = #[x', y'] ∧ Rel E x x' ∧ Rel E y y' := by
    intro E x y args' hr
    obtain ⟨l⟩ := args'
    cases hr with | cons h1 t => cases t with | cons h2 t2 => cases t2; exact ⟨_, _, rfl, h1, h2⟩
  have one : ∀ {E : Env} {x : AV} {args' : Array Value}, RelL E [x] args'.toList → ∃ x', args' = #[x'] ∧ Rel E x x' := by
    intro E x args' hr
    obtain ⟨l⟩ := args'
    cases hr with | cons h1 t => cases t; exact ⟨_, rfl, h1⟩
  unfold builtinA at h
  split at h
  · obtain ⟨q1, _⟩ := lenA_ok (ty := 0) h
    refine ⟨q1, fun {G B E w args'} ty cs hG hs hr => ?_⟩
    obtain ⟨x', rfl, hx⟩ := one hr
    exact ⟨_, rfl, (lenA_ok (ty := ty) h).2 hG hs hx⟩
  · obtain ⟨q1, _⟩ := capA_ok (ty := 0) h
    refine ⟨q1, fun {G B E w args'} ty cs hG hs hr => ?_⟩
    obtain ⟨x', rfl, hx⟩ := one hr
    exact ⟨_, rfl, (capA_ok (ty := ty) h).2 hG hs hx⟩
  · obtain ⟨q1, _⟩ := appendA_ok (ty := 0) h
    refine ⟨q1, fun {G B E w args'} ty cs hG hs hr => ?_⟩
    obtain ⟨x', y', rfl, hx, hy⟩ := two hr
    exact ⟨_, rfl, (appendA_ok (ty := ty) h).2 hG hs hx hy⟩
  · obtain ⟨q1, _⟩ := copyA_ok (ty := 0) h
    refine ⟨q1, fun {G B E w args'} ty cs hG hs hr => ?_⟩
    obtain ⟨x', y', rfl, hx, hy⟩ := two hr
    exact ⟨_, rfl, (copyA_ok (ty := ty) h).2 hG hs hx hy⟩
  · rename_i x r
    obtain ⟨u, hu, h1⟩ := oc_some h
    cases h1
    refine ⟨Step.refl _, fun {G B E w args'} ty cs hG hs hr => ⟨_, rfl, ?_⟩⟩
    obtain ⟨l⟩ := args'
    cases hr with
    | cons hx ht =>
      obtain ⟨v', h1, h2⟩ := maxA_ok (P := P) (w := w) hs.orc r hu hx ht
      exact Ok1.pure hs (v' := v') (by simpa [Builtin.max_] using h1) h2
  · rename_i x r
    obtain ⟨u, hu, h1⟩ := oc_some h
    cases h1
    refine ⟨Step.refl _, fun {G B E w args'} ty cs hG hs hr => ⟨_, rfl, ?_⟩⟩
    obtain ⟨l⟩ := args'
    cases hr with
    | cons hx ht =>
      obtain ⟨v', h1, h2⟩ := minA_ok (P := P) (w := w) hs.orc r hu hx ht
      exact Ok1.pure hs (v' := v') (by simpa [Builtin.min_] using h1) h2
  · obtain ⟨q1, _⟩ := clearA_ok (ty := 0) h
    refine ⟨q1, fun {G B E w args'} ty cs hG hs hr => ?_⟩
    obtain ⟨x', rfl, hx⟩ := one hr
    exact ⟨_, rfl, (clearA_ok (ty := ty) h).2 hG hs hx⟩
  · obtain ⟨rfl, _⟩ := sliceDataA_ok (P := P) (ts := ts) h
    refine ⟨Step.refl _, fun {G B E w args'} ty cs hG hs hr => ?_⟩
    obtain ⟨x', rfl, hx⟩ := one hr
    exact ⟨_, rfl, (sliceDataA_ok (P := P) (ts := ts) h).2 ty hs hx⟩
  · obtain ⟨q1, q2⟩ := unsafeStringA_ok h
    refine ⟨q1, fun {G B E w args'} ty cs hG hs hr => ?_⟩
    obtain ⟨x', y', rfl, hx, hy⟩ := two hr
    exact ⟨_, rfl, q2 ty hG hs hx hy⟩
  · split at h
    · rename_i t rst hts
      have hts0 : ts[0]? = some t := by rw [← Array.getElem?_toList, hts]; rfl
      obtain ⟨q1, _⟩ := deleteA_ok h ts 0 hts0
      refine ⟨q1, fun {G B E w args'} ty cs hG hs hr => ?_⟩
      obtain ⟨x', y', rfl, hx, hy⟩ := two hr
      exact ⟨_, rfl, (deleteA_ok h ts ty hts0).2 hG hs hx hy⟩
    · cases h
  · cases h
end Ev
end Go.Proofs.YtmghbbicjkmigaaGreatDoor
namespace Go.Proofs.YtmghbbicjkmigaaGreatDoor
namespace Ev
open Go.RowKit

section
variable {P : Program} {r : Rec} {o : Oper} {a : T AV} {s s' : St} {v : AV}

theorem evOp_ok (hcall : CallOk P r.call) (hyld : YieldOk P r.yld) (h : evOp P o r a s = some (v, s')) : OpOk P o a s v s' := by
  obtain ⟨dst, op, type, pos, after, guard⟩ := o
  cases op
  case move x =>
    obtain ⟨u, hu, h1⟩ := oc_some (show oc (opd a x) (fun v => some (v, s)) = some (v, s') from h)
    cases h1
    exact ⟨Step.refl _, fun {G B E w ac ro} hG hs ht {K Q} hK => wpIn_value (m := pure (ac.eval x)) (by cases ro <;> rfl) (Ok1.pure hs rfl (ht.one hu (by simp [Op.operands, Call.operands]))) hK⟩
  case assign x =>
    obtain ⟨u, hu, h1⟩ := oc_some (show oc (opd a x) (fun v => some (v, s)) = some (v, s') from h)
    cases h1
    exact ⟨Step.refl _, fun {G B E w ac ro} hG hs ht {K Q} hK => wpIn_value (m := pure (ac.eval x)) (by cases ro <;> rfl) (Ok1.pure hs rfl (ht.one hu (by simp [Op.operands, Call.operands]))) hK⟩
  case pick c x y =>
    obtain ⟨u, hu, h1⟩ := oc_some (show oc (opd a c) (fun b => b.boolC (oc (opd a x) fun v => some (v, s)) (oc (opd a y) fun v => some (v, s))) = some (v, s') from h)
    unfold AV.boolC at h1
    split at h1
    · obtain ⟨q, hq, h2⟩ := oc_some h1
      cases h2
      refine ⟨Step.refl _, fun {G B E w ac ro} hG hs ht {K Q} hK => wpIn_value (m := do pure (if ← asBool (ac.eval c) then ac.eval x else ac.eval y)) (by cases ro <;> simp [Oper.semAt, execOp]) (Ok1.pure hs (v' := ac.eval x) ?_ (ht.one hq (by simp [Op.operands, Call.operands]))) hK⟩
      have := ht.one hu (by simp [Op.operands, Call.operands])
      generalize ac.eval c = cv at this ⊢
      cases this; simp [asBool]
    · obtain ⟨q, hq, h2⟩ := oc_some h1
      cases h2
      refine ⟨Step.refl _, fun {G B E w ac ro} hG hs ht {K Q} hK => wpIn_value (m := do pure (if ← asBool (ac.eval c) then ac.eval x else ac.eval y)) (by cases ro <;> simp [Oper.semAt, execOp]) (Ok1.pure hs (v' := ac.eval y) ?_ (ht.one hq (by simp [Op.operands, Call.operands]))) hK⟩
      have := ht.one hu (by simp [Op.operands, Call.operands])
      generalize ac.eval c = cv at this ⊢
      cases this; simp [asBool]
    · cases h1
  case alloc e =>
    obtain ⟨z, hz, h1⟩ := oc_some (show oc (zeroOf P e) (fun z => newA s e z.cells) = some (v, s') from h)
    obtain ⟨zv, hzr, hzrel⟩ := zeroOf_run hz
    obtain ⟨q1, q2⟩ := newA_ok (P := P) h1
    refine ⟨q1, fun {G B E w ac ro} hG hs ht {K Q} hK => wpIn_value (m := Instr.alloc e true (.tuple #[])) (by cases ro <;> rfl) ?_ hK⟩
    obtain ⟨E', v', w', hrun, q3⟩ := q2 hG hs (ys := zv.cells) (hzrel E).cells
    exact ⟨E', v', w', by simpa [Instr.alloc, hzr, newVar] using hrun, q3⟩
  case box e x =>
    obtain ⟨u, hu, h1⟩ := oc_some (show oc (opd a x) (fun v => newA s e v.cells) = some (v, s') from h)
    obtain ⟨q1, q2⟩ := newA_ok (P := P) h1
    refine ⟨q1, fun {G B E w ac ro} hG hs ht {K Q} hK => wpIn_value (m := Instr.box e (ac.eval x)) (by cases ro <;> rfl) ?_ hK⟩
    obtain ⟨E', v', w', hrun, q3⟩ := q2 hG hs (ys := (ac.eval x).cells) (ht.one hu (by simp [Op.operands, Call.operands])).cells
    exact ⟨E', v', w', by simpa [Instr.box, newVar] using hrun, q3⟩
  case build t ps =>
    obtain ⟨z, hz, h1⟩ := oc_some (show oc (zeroOf P t) (fun z => oc (partsA a ps.toList) fun parts => match P.underlying t with
      | some (.struct fs) => oc (placesOf P fs.toList) fun pl => oc (fillA (nth pl) z.cells parts) fun l => some (AV.agg l, s)
      | some (.array _ e) => oc (szOf P e) fun n => oc (fillA (fun i => some (i * n, n)) z.cells parts) fun l => some (AV.agg l, s)
      | _ => none) = some (v, s') from h)
    obtain ⟨parts, hp, h2⟩ := oc_some h1
    have hs' : s' = s := by
      split at h2
      · obtain ⟨_, _, h3⟩ := oc_some h2
        obtain ⟨_, _, h4⟩ := oc_some h3
        cases h4; rfl
      · obtain ⟨_, _, h3⟩ := oc_some h2
        obtain ⟨_, _, h4⟩ := oc_some h3
        cases h4; rfl
      · cases h2
    subst hs'
    refine ⟨Step.refl _, fun {G B E w ac ro} hG hs ht {K Q} hK => wpIn_value (m := Instr.build t (ps.map fun (p : Nat × Operand) => (p.1, ac.eval p.2))) (by cases ro <;> rfl) ?_ hK⟩
    have hpr := partsA_ok2 (fun x hx => ht x (by simpa [Op.operands] using hx)) hp
    obtain ⟨_, v', hrun, hv⟩ := build_ok (w := w) (l := []) hz (parts' := ps.map fun (p : Nat × Operand) => (p.1, ac.eval p.2)) (by simpa using hpr) h2
    exact Ok1.pure hs hrun hv
  case buildSlice t len ps =>
    obtain ⟨parts, hp, h2⟩ := oc_some (show oc (partsA a ps.toList) (fun parts => match P.underlying t with
      | some (.slice e) => oc (szOf P e) fun n => oc (zeroOf P e) fun z => bc (Nat.blt 0 n) (bc (Nat.beq z.cells.length n) (bc (Nat.ble (Nat.mul len n) 1000000)
        (oc (fillA (fun i => some (i * n, n)) (repL z.cells len) parts) fun l => bc (allOne l) (some (AV.slice s.c 0 len (some len) 0, s.new (.cells l e (0, 0) none))))))
      | _ => none) = some (v, s') from h)
    obtain ⟨q1, q2⟩ := buildSlice_ok h2
    refine ⟨q1, fun {G B E w ac ro} hG hs ht {K Q} hK => wpIn_value (m := Instr.buildSlice t len (ps.map fun (p : Nat × Operand) => (p.1, ac.eval p.2))) (by cases ro <;> rfl) ?_ hK⟩
    have hpr := partsA_ok2 (fun x hx => ht x (by simpa [Op.operands] using hx)) hp
    exact q2 hG hs (by simpa using hpr)
  case load t x =>
    obtain ⟨u, hu, h1⟩ := oc_some (show oc (opd a x) (fun v => v.ptr2C (fun i off => loadVarA P t i off s) (loadRowA P t s)) = some (v, s') from h)
    rcases ptr2C_some h1 with ⟨i, off, rfl, h2⟩ | ⟨i, off, rfl, h2⟩
    · obtain ⟨rfl, q2⟩ := loadVarA_ok h2
      refine ⟨Step.see _ _, fun {G B E w ac ro} hG hs ht {K Q} hK => wpIn_value (m := Instr.loadAt t (ac.eval x)) (by cases ro <;> rfl) ?_ hK⟩
      have hx := ht.one hu (by simp [Op.operands, Call.operands])
      generalize ac.eval x = xv at hx ⊢
      cases hx
      rename_i b hb
      obtain ⟨v', hrun, hv⟩ := q2 (hG _ (in_see _ _)) hs hb
      exact Ok1.pure (hs.seen i) (by simpa [Instr.loadAt, Instr.sureAddr] using hrun) hv
    · obtain ⟨rfl, q2⟩ := loadRowA_ok h2
      refine ⟨Step.see _ _, fun {G B E w ac ro} hG hs ht {K Q} hK => wpIn_value (m := Instr.loadAt t (ac.eval x)) (by cases ro <;> rfl) ?_ hK⟩
      have hx := ht.one hu (by simp [Op.operands, Call.operands])
      generalize ac.eval x = xv at hx ⊢
      cases hx
      rename_i b C hb
      obtain ⟨v', hrun, hv⟩ := q2 (hG _ (in_see _ _)) hs hb
      exact Ok1.pure (hs.seen i) (by simpa [Instr.loadAt, Instr.sureAddr] using hrun) hv
  case store t x y =>
    obtain ⟨u, hu, h1⟩ := oc_some (show oc (opd a x) (fun p => p.ptrC fun i off => oc (opd a y) fun v => storeVarA P t i off v s) = some (v, s') from h)
    obtain ⟨i, off, rfl, h2⟩ := ptrC_some h1
    obtain ⟨yv, hy, h3⟩ := oc_some h2
    obtain ⟨q1, q2, q3⟩ := storeVarA_ok h3
    refine ⟨q1, fun {G B E w ac ro} hG hs ht {K Q} hK => wpIn_unit (m := Instr.storeAt t (ac.eval x) (ac.eval y)) (by cases ro <;> rfl) q2 ?_ hK⟩
    have hx := ht.one hu (by simp [Op.operands, Call.operands])
    have hy' := ht.one hy (by simp [Op.operands, Call.operands])
    generalize ac.eval x = xv at hx ⊢
    cases hx
    rename_i b hb
    obtain ⟨w', hrun, k⟩ := q3 hG hs hb hy'
    exact ⟨w', by simpa [Instr.storeAt, Instr.sureAddr] using hrun, k⟩
  case nilCheck x =>
    have h' : evNilCheck x r a s = some (v, s') := h
    unfold evNilCheck at h'
    split at h' <;> first | (cases h'; done) | skip
    all_goals
      rename_i hu
      cases h'
      refine ⟨Step.refl _, fun {G B E w ac ro} hG hs ht {K Q} hK => ?_⟩
      have hx := ht.one hu (by simp [Op.operands, Call.operands])
      refine wpIn_value (m := pure (ac.eval x)) ?_ (Ok1.pure hs rfl hx) hK
      generalize hev : ac.eval x = xv at hx ⊢
      cases hx <;> cases ro <;> simp [Oper.semAt, execOp, hev]
  case binOp op t x y yt =>
    obtain ⟨xv, hx, h1⟩ := oc_some (show oc (opd a x) (fun x => oc (opd a y) fun y => orElse (binA s.o P op t x y) s (ptrEqA P op t x y s)) = some (v, s') from h)
    obtain ⟨yv, hy, h2⟩ := oc_some h1
    cases hu : binA s.o P op t xv yv with
    | some u =>
      rw [hu] at h2
      cases h2
      refine ⟨Step.refl _, fun {G B E w ac ro} hG hs ht {K Q} hK => wpIn_value (m := do eqGuard op t x y (ac.eval x) (ac.eval y); binOp op t (ac.eval x) (ac.eval y)) (by cases ro <;> rfl) ?_ hK⟩
      obtain ⟨v', hrun, hv, hgu⟩ := binA_ok hs.orc hu (ht.one hx (by simp [Op.operands, Call.operands])) (ht.one hy (by simp [Op.operands, Call.operands])) w
      exact Ok1.pure hs (by simp [hgu, hrun]) hv
    | none =>
      rw [hu] at h2
      obtain ⟨i, off, rfl, h4⟩ := ptrC_some (show (xv.ptrC fun i off => yv.ptrC fun j off2 => _) = some (v, s') from h2)
      obtain ⟨j, off2, rfl, h5⟩ := ptrC_some h4
      obtain ⟨hij, h6⟩ := bc_some h5
      obtain ⟨o, ho, h7⟩ := oc_some h6
      have hij' : i = j := by simpa using hij
      subst hij'
      clear h h1 h2 h4 h5 h6 hij
      split at h7 <;> first | (cases h7; done) | skip
      rename_i e hue
      obtain ⟨z, hz, h8⟩ := oc_some h7
      obtain ⟨hz0, h9⟩ := bc_some h8
      have hz0' : 0 < z := by simpa using hz0
      have key : ∀ {b : Nat} {w : World}, (Op.equal t (.pointer (some ⟨b, off, none⟩)) (.pointer (some ⟨b, off2, none⟩))).run P w = .ok (Nat.beq off off2) w := by
        intro b w
        refine (fun key : ∀ d, (Op.equalIn (d + 1) t _ _).run P w = _ => key 9999) fun d => ?_
        have hb : ((⟨b, off, none⟩ : Addr) == ⟨b, off2, none⟩) = Nat.beq off off2 := by
          by_cases hq : off = off2
          · subst hq; simp
          · have h1 : Nat.beq off off2 = false := by cases hc : Nat.beq off off2 with | false => rfl | true => exact absurd (by simpa using hc) hq
            rw [h1]; simp [hq]
        have hz1 : z ≠ 0 := by omega
        simp [Op.equalIn, und_run hue, szOf_run hz, hz1, sameAddr, hb]
      split at h9 <;> first | (cases h9; done) | skip
      · cases h9
        refine ⟨Step.see _ _, fun {G B E w ac ro} hG hs ht {K Q} hK => wpIn_value (m := do eqGuard .eql t x y (ac.eval x) (ac.eval y); binOp .eql t (ac.eval x) (ac.eval y)) (by cases ro <;> rfl) ?_ hK⟩
        have hxr := ht.one hx (by simp [Op.operands, Call.operands])
        have hyr := ht.one hy (by simp [Op.operands, Call.operands])
        generalize ac.eval x = xw at hxr ⊢
        generalize ac.eval y = yw at hyr ⊢
        cases hxr
        rename_i b1 hb1
        cases hyr
        rename_i b2 hb2
        obtain ⟨b, C, ob, he, _⟩ := hs.fact i _ (hG _ (in_see _ _)) ho
        obtain rfl := hs.at_live he hb1
        obtain rfl := hs.at_live he hb2
        exact Ok1.pure (hs.seen i) (v' := .bool (Nat.beq off off2)) (by simp [eqGuard, show ∀ p q, binOp .eql t (.pointer p) (.pointer q) = (do pure (.bool (← Op.equal t (.pointer p) (.pointer q)))) from fun _ _ => rfl, key]) (.bool _)
      · cases h9
        refine ⟨Step.see _ _, fun {G B E w ac ro} hG hs ht {K Q} hK => wpIn_value (m := do eqGuard .neq t x y (ac.eval x) (ac.eval y); binOp .neq t (ac.eval x) (ac.eval y)) (by cases ro <;> rfl) ?_ hK⟩
        have hxr := ht.one hx (by simp [Op.operands, Call.operands])
        have hyr := ht.one hy (by simp [Op.operands, Call.operands])
        generalize ac.eval x = xw at hxr ⊢
        generalize ac.eval y = yw at hyr ⊢
        cases hxr
        rename_i b1 hb1
        cases hyr
        rename_i b2 hb2
        obtain ⟨b, C, ob, he, _⟩ := hs.fact i _ (hG _ (in_see _ _)) ho
        obtain rfl := hs.at_live he hb1
        obtain rfl := hs.at_live he hb2
        exact Ok1.pure (hs.seen i) (v' := .bool !(Nat.beq off off2)) (by simp [eqGuard, show ∀ p q, binOp .neq t (.pointer p) (.pointer q) = (do pure (.bool (!(← Op.equal t (.pointer p) (.pointer q))))) from fun _ _ => rfl, key]) (.bool _)
  case unOp op t x =>
    obtain ⟨xv, hx, h1⟩ := oc_some (show oc (opd a x) (fun x => oc (unA s.o op x) fun v => some (v, s)) = some (v, s') from h)
    obtain ⟨u, hu, h3⟩ := oc_some h1
    cases h3
    refine ⟨Step.refl _, fun {G B E w ac ro} hG hs ht {K Q} hK => wpIn_value (m := Op.unary op (ac.eval x)) (by cases ro <;> rfl) ?_ hK⟩
    obtain ⟨v', hrun, hv⟩ := unA_ok (P := P) hs.orc hu (ht.one hx (by simp [Op.operands, Call.operands])) w
    exact Ok1.pure hs hrun hv
  case convert src dst x =>
    obtain ⟨xv, hx, h1⟩ := oc_some (show oc (opd a x) (fun x => convA P src dst x s) = some (v, s') from h)
    obtain ⟨q1, q2⟩ := convA_ok h1
    exact ⟨q1, fun {G B E w ac ro} hG hs ht {K Q} hK => wpIn_value (m := convert src dst (ac.eval x)) (by cases ro <;> rfl) (q2 hG hs (ht.one hx (by simp [Op.operands, Call.operands]))) hK⟩
  case makeInterface t x =>
    have h' : evMakeInterface P t x r a s = some (v, s') := h
    unfold evMakeInterface at h'
    split at h' <;> first | (cases h'; done) | skip
    rename_i xv d hn hx hu
    cases h'
    refine ⟨Step.refl _, fun {G B E w ac ro} hG hs ht {K Q} hK => wpIn_value (m := Instr.makeInterface t (ac.eval x)) (by cases ro <;> rfl) ?_ hK⟩
    refine Ok1.pure hs (v' := .iface t (ac.eval x)) ?_ (.iface (ht.one hx (by simp [Op.operands, Call.operands])))
    simp only [Instr.makeInterface, Sem.run_bind, und_run hu, Result.andThen_ok]
    cases d <;> first | rfl | exact absurd rfl (hn _)
  case makeFunc fn first captured =>
    have h' : evMakeFunc fn first.toList captured.toList r a s = some (v, s') := h
    unfold evMakeFunc at h'
    split at h' <;> first | (cases h'; done) | skip
    rename_i f p q hp hq
    cases h'
    refine ⟨Step.refl _, fun {G B E w ac ro} hG hs ht {K Q} hK => wpIn_value (m := Instr.makeFunc (.func f) (first.map ac.eval) (captured.map ac.eval)) (by cases ro <;> rfl) ?_ hK⟩
    exact Ok1.pure hs rfl (.func (by simpa using opds_ok2 (fun x hx => ht x (by simp [Op.operands]; exact .inl (by simpa using hx))) hp) (by simpa using opds_ok2 (fun x hx => ht x (by simp [Op.operands]; exact .inr (by simpa using hx))) hq))
  case makeMap t x =>
    have newm : Step s (s.new (.map [] 0)) ∧ ∀ {G : Nat → Prop} {B : Nat} {E : Env} {w : World}, (∀ j, In (s.new (.map [] 0)).l j → G j) → Sat G B E s w → ∃ E', (Rel E' (.map s.c) (.map (some w.heap.size))) ∧ Sat G B E' (s.new (.map [] 0)) (w.alloc (.map #[] 0)) ∧ Ext B (s.new (.map [] 0)).w E E' w (w.alloc (.map #[] 0)) := by
      refine ⟨Step.new _ _, fun {G B E w} hG hs => ?_⟩
      obtain ⟨k1, k2⟩ := hs.new (o := .map [] 0) (ob := .map #[] 0) (C := 0) (hG _ (in_new _ _)) rfl ⟨#[], rfl, .nil⟩
      exact ⟨_, .map (by rw [Env.set_same]; rfl), k1, k2⟩
    have h' : evMakeMap P t x r a s = some (v, s') := h
    unfold evMakeMap at h'
    split at h'
    · cases h'
      refine ⟨newm.1, fun {G B E w ac ro} hG hs ht {K Q} hK => wpIn_value (m := Instr.makeMap t none) (by cases ro <;> rfl) ?_ hK⟩
      obtain ⟨E', k⟩ := newm.2 hG hs
      exact ⟨E', _, _, by simp [Instr.makeMap], k⟩
    · rename_i x
      split at h' <;> first | (cases h'; done) | skip
      rename_i kt et kk n hu hx
      cases h'
      refine ⟨newm.1, fun {G B E w ac ro} hG hs ht {K Q} hK => wpIn_value (m := Instr.makeMap t (some (ac.eval x))) (by cases ro <;> rfl) ?_ hK⟩
      obtain ⟨E', k⟩ := newm.2 hG hs
      have hxr := ht.one hx (by simp [Op.operands, Call.operands])
      generalize ac.eval x = xv at hxr ⊢
      cases hxr
      exact ⟨E', _, _, by simp [Instr.makeMap, und_run hu, asInt, asIntOf], k⟩
  case makeSlice t l c =>
    obtain ⟨lv, hl, h1⟩ := oc_some (show oc (opd a l) (fun l => oc (opd a c) fun c => makeSliceA P t l c s) = some (v, s') from h)
    obtain ⟨cv, hc, h2⟩ := oc_some h1
    obtain ⟨q1, q2⟩ := makeSliceA_ok h2
    exact ⟨q1, fun {G B E w ac ro} hG hs ht {K Q} hK => wpIn_value (m := Instr.makeSlice t (ac.eval l) (ac.eval c)) (by cases ro <;> rfl) (q2 hG hs (ht.one hl (by simp [Op.operands, Call.operands])) (ht.one hc (by simp [Op.operands, Call.operands]))) hK⟩
  case slice t x lo hi mx =>
    obtain ⟨xv, hx, h1⟩ := oc_some (show oc (opd a x) (fun x => oc (opdO a lo) fun lo => oc (opdO a hi) fun hi => oc (opdO a mx) fun mx => oc (sliceOf P t x lo hi mx) fun v => some (v, s)) = some (v, s') from h)
    obtain ⟨lv, hl, h2⟩ := oc_some h1
    obtain ⟨hv, hh, h3⟩ := oc_some h2
    obtain ⟨mv, hm, h4⟩ := oc_some h3
    obtain ⟨u, hu, h5⟩ := oc_some h4
    cases h5
    refine ⟨Step.refl _, fun {G B E w ac ro} hG hs ht {K Q} hK => wpIn_value (m := Instr.sliceAt t (ac.eval x) (lo.map ac.eval) (hi.map ac.eval) (mx.map ac.eval)) (by cases ro <;> rfl) ?_ hK⟩
    obtain ⟨v', hrun, hr⟩ := sliceOf_ok hu (ht.one hx (by simp [Op.operands, Call.operands])) (opdO_ok2 (fun y hy => ht y (by simp [Op.operands, hy])) hl) (opdO_ok2 (fun y hy => ht y (by simp [Op.operands, hy])) hh) (opdO_ok2 (fun y hy => ht y (by simp [Op.operands, hy])) hm) w
    exact Ok1.pure hs hrun hr
  case fieldAddr t x f =>
    obtain ⟨xv, hx, h1⟩ := oc_some (show oc (opd a x) (fun x => oc (fieldAtA P t x f) fun v => some (v, s)) = some (v, s') from h)
    obtain ⟨u, hu, h3⟩ := oc_some h1
    cases h3
    refine ⟨Step.refl _, fun {G B E w ac ro} hG hs ht {K Q} hK => wpIn_value (m := Instr.fieldAt t (ac.eval x) f) (by cases ro <;> rfl) ?_ hK⟩
    obtain ⟨v', hrun, hv⟩ := fieldAtA_ok hu (ht.one hx (by simp [Op.operands, Call.operands])) w
    exact Ok1.pure hs hrun hv
  case field t x f =>
    obtain ⟨xv, hx, h1⟩ := oc_some (show oc (opd a x) (fun x => oc (fieldA P t x f) fun v => some (v, s)) = some (v, s') from h)
    obtain ⟨u, hu, h3⟩ := oc_some h1
    cases h3
    refine ⟨Step.refl _, fun {G B E w ac ro} hG hs ht {K Q} hK => wpIn_value (m := Instr.field t (ac.eval x) f) (by cases ro <;> rfl) ?_ hK⟩
    obtain ⟨v', hrun, hv⟩ := fieldA_ok hu (ht.one hx (by simp [Op.operands, Call.operands])) w
    exact Ok1.pure hs hrun hv
  case indexAddr t x i =>
    obtain ⟨xv, hx, h1⟩ := oc_some (show oc (opd a x) (fun x => oc (opd a i) fun i => oc (concA s.o (boundOf P t x) i) fun i => oc (indexAtA P t x i) fun v => some (v, s)) = some (v, s') from h)
    obtain ⟨iv, hi, h2⟩ := oc_some h1
    obtain ⟨iw, hw, h2⟩ := oc_some h2
    obtain ⟨u, hu, h3⟩ := oc_some h2
    cases h3
    refine ⟨Step.refl _, fun {G B E w ac ro} hG hs ht {K Q} hK => wpIn_value (m := Instr.indexAt t (ac.eval x) (ac.eval i)) (by cases ro <;> rfl) ?_ hK⟩
    obtain ⟨v', hrun, hv⟩ := indexAtA_ok hu (ht.one hx (by simp [Op.operands, Call.operands])) (concA_ok hs.orc hw (ht.one hi (by simp [Op.operands, Call.operands]))) w
    exact Ok1.pure hs hrun hv
  case index t x i =>
    obtain ⟨xv, hx, h1⟩ := oc_some (show oc (opd a x) (fun x => oc (opd a i) fun i => oc (concA s.o (boundOf P t x) i) fun i => oc (indexA P t x i) fun v => some (v, s)) = some (v, s') from h)
    obtain ⟨iv, hi, h2⟩ := oc_some h1
    obtain ⟨iw, hw, h2⟩ := oc_some h2
    obtain ⟨u, hu, h3⟩ := oc_some h2
    cases h3
    refine ⟨Step.refl _, fun {G B E w ac ro} hG hs ht {K Q} hK => wpIn_value (m := Instr.index t (ac.eval x) (ac.eval i)) (by cases ro <;> rfl) ?_ hK⟩
    obtain ⟨v', hrun, hv⟩ := indexA_ok hu (ht.one hx (by simp [Op.operands, Call.operands])) (concA_ok hs.orc hw (ht.one hi (by simp [Op.operands, Call.operands]))) w
    exact Ok1.pure hs hrun hv
  case lookup t x i ok =>
    obtain ⟨xv, hx, h1⟩ := oc_some (show oc (opd a x) (fun x => oc (opd a i) fun i => lookupA P t x i ok s) = some (v, s') from h)
    obtain ⟨iv, hi, h2⟩ := oc_some h1
    obtain ⟨q1, q2⟩ := lookupA_ok h2
    exact ⟨q1, fun {G B E w ac ro} hG hs ht {K Q} hK => wpIn_value (m := Instr.lookup t (ac.eval x) (ac.eval i) ok) (by cases ro <;> rfl) (q2 hG hs (ht.one hx (by simp [Op.operands, Call.operands])) (ht.one hi (by simp [Op.operands, Call.operands]))) hK⟩
  case mapUpdate t m k x =>
    obtain ⟨mv, hm, h1⟩ := oc_some (show oc (opd a m) (fun m => oc (opd a k) fun k => oc (opd a x) fun v => mapUpdateA P t m k v s) = some (v, s') from h)
    obtain ⟨kv, hk, h2⟩ := oc_some h1
    obtain ⟨xv, hx, h3⟩ := oc_some h2
    obtain ⟨q1, q2, q3⟩ := mapUpdateA_ok h3
    exact ⟨q1, fun {G B E w ac ro} hG hs ht {K Q} hK => wpIn_unit (m := Instr.mapUpdate t (ac.eval m) (ac.eval k) (ac.eval x)) (by cases ro <;> rfl) q2 (q3 hG hs (ht.one hm (by simp [Op.operands, Call.operands])) (ht.one hk (by simp [Op.operands, Call.operands])) (ht.one hx (by simp [Op.operands, Call.operands]))) hK⟩
  case insert t m k x =>
    obtain ⟨mv, hm, h1⟩ := oc_some (show oc (opd a m) (fun m => oc (opd a k) fun k => oc (opd a x) fun v => mapUpdateA P t m k v s) = some (v, s') from h)
    obtain ⟨kv, hk, h2⟩ := oc_some h1
    obtain ⟨xv, hx, h3⟩ := oc_some h2
    obtain ⟨q1, q2, q3⟩ := mapUpdateA_ok h3
    exact ⟨q1, fun {G B E w ac ro} hG hs ht {K Q} hK => wpIn_unit (m := Instr.mapUpdate t (ac.eval m) (ac.eval k) (ac.eval x)) (by cases ro <;> rfl) q2 (q3 hG hs (ht.one hm (by simp [Op.operands, Call.operands])) (ht.one hk (by simp [Op.operands, Call.operands])) (ht.one hx (by simp [Op.operands, Call.operands]))) hK⟩
  case range t x =>
    obtain ⟨xv, hx, h1⟩ := oc_some (show oc (opd a x) (fun x => rangeA P t x s) = some (v, s') from h)
    obtain ⟨q1, q2⟩ := rangeA_ok h1
    exact ⟨q1, fun {G B E w ac ro} hG hs ht {K Q} hK => wpIn_value (m := Instr.range t (ac.eval x)) (by cases ro <;> rfl) (q2 hG hs (ht.one hx (by simp [Op.operands, Call.operands]))) hK⟩
  case next x b =>
    obtain ⟨xv, hx, h1⟩ := oc_some (show oc (opd a x) (fun x => nextA x b s) = some (v, s') from h)
    obtain ⟨q1, q2⟩ := nextA_ok (P := P) h1
    exact ⟨q1, fun {G B E w ac ro} hG hs ht {K Q} hK => wpIn_value (m := Instr.next (ac.eval x) b type) (by cases ro <;> rfl) (q2 type hG hs (ht.one hx (by simp [Op.operands, Call.operands]))) hK⟩
  case entry x =>
    obtain ⟨xv, hx, h1⟩ := oc_some (show oc (opd a x) (fun x => entryA x s) = some (v, s') from h)
    obtain ⟨q1, q2⟩ := entryA_ok (P := P) h1
    exact ⟨q1, fun {G B E w ac ro} hG hs ht {K Q} hK => wpIn_value (m := Instr.entry (ac.eval x)) (by cases ro <;> rfl) (q2 hG hs (ht.one hx (by simp [Op.operands, Call.operands]))) hK⟩
  case extract x i =>
    obtain ⟨xv, hx, h1⟩ := oc_some (show oc (opd a x) (fun x => x.tupC fun l => oc (nth l i) fun v => some (v, s)) = some (v, s') from h)
    unfold AV.tupC at h1
    split at h1 <;> first | (cases h1; done) | skip
    obtain ⟨u, hu, h2⟩ := oc_some h1
    cases h2
    refine ⟨Step.refl _, fun {G B E w ac ro} hG hs ht {K Q} hK => wpIn_value (m := Instr.extract (ac.eval x) i) (by cases ro <;> rfl) ?_ hK⟩
    have hxr := ht.one hx (by simp [Op.operands, Call.operands])
    generalize ac.eval x = xv at hxr ⊢
    cases hxr
    rename_i arr hr
    rw [nth_get] at hu
    obtain ⟨v', h1, h2⟩ := hr.nth hu
    rw [Array.getElem?_toList] at h1
    exact Ok1.pure hs (v' := v') (by simp [Instr.extract, h1]) h2
  case typeAssert x xt t ok =>
    have no : ∀ {s' : St} {v : AV}, assertNot P t ok s = some (v, s') → s' = s ∧ ok = true ∧ ∃ zv, (∀ w, (zeroValue t).run P w = .ok zv w) ∧ ∀ E, Rel E v (.tuple #[zv, .bool false]) := by
      intro s' v hno
      unfold assertNot at hno
      split at hno <;> first | (cases hno; done) | skip
      rename_i z hz
      cases hno
      obtain ⟨zv, hzr, hzrel⟩ := zeroOf_run hz
      exact ⟨rfl, rfl, zv, hzr, fun E => .tuple (.cons (hzrel E) (.cons (.bool _) .nil))⟩
    have h' : evTypeAssert P x t ok r a s = some (v, s') := h
    unfold evTypeAssert at h'
    split at h' <;> first | (cases h'; done) | skip
    · rename_i u uv d hn hx hu
      cases hb : Nat.beq u t with
      | true =>
        rw [hb] at h'
        cases h'
        have hut : u = t := by simpa using hb
        subst hut
        refine ⟨Step.refl _, fun {G B E w ac ro} hG hs ht {K Q} hK => wpIn_value (m := Instr.typeAssert (ac.eval x) xt u ok) (by cases ro <;> rfl) ?_ hK⟩
        have hxr := ht.one hx (by simp [Op.operands, Call.operands])
        generalize ac.eval x = xv at hxr ⊢
        cases hxr
        rename_i v' hv'
        refine Ok1.pure hs (v' := if ok then .tuple #[v', .bool true] else v') ?_ ?_
        · simp only [Instr.typeAssert, Sem.run_bind, und_run hu, Result.andThen_ok]
          cases d <;> first | (simp; done) | exact absurd rfl (hn _)
        · cases ok
          · exact hv'
          · exact .tuple (.cons hv' (.cons (.bool _) .nil))
      | false =>
        rw [hb] at h'
        obtain ⟨rfl, hok, zv, hzr, hrel⟩ := no h'
        have hut : u ≠ t := fun e => by subst e; simp at hb
        refine ⟨Step.refl _, fun {G B E w ac ro} hG hs ht {K Q} hK => wpIn_value (m := Instr.typeAssert (ac.eval x) xt t ok) (by cases ro <;> rfl) ?_ hK⟩
        have hxr := ht.one hx (by simp [Op.operands, Call.operands])
        generalize ac.eval x = xv at hxr ⊢
        cases hxr
        refine Ok1.pure hs (v' := .tuple #[zv, .bool false]) ?_ (hrel E)
        simp only [Instr.typeAssert, Sem.run_bind, und_run hu, Result.andThen_ok]
        subst hok
        cases d <;> first | (simp [hut, hzr]; done) | exact absurd rfl (hn _)
    · rename_i d hn hx hu
      obtain ⟨rfl, hok, zv, hzr, hrel⟩ := no h'
      refine ⟨Step.refl _, fun {G B E w ac ro} hG hs ht {K Q} hK => wpIn_value (m := Instr.typeAssert (ac.eval x) xt t ok) (by cases ro <;> rfl) ?_ hK⟩
      have hxr := ht.one hx (by simp [Op.operands, Call.operands])
      generalize ac.eval x = xv at hxr ⊢
      cases hxr
      refine Ok1.pure hs (v' := .tuple #[zv, .bool false]) ?_ (hrel E)
      simp only [Instr.typeAssert, Sem.run_bind, und_run hu, Result.andThen_ok]
      subst hok
      cases d <;> first | (simp [hzr]; done) | exact absurd rfl (hn _)
  case call c =>
    obtain ⟨callee, args, argTypes⟩ := c
    obtain ⟨argv, hargs, h1⟩ := oc_some (show oc (opds a args.toList) (fun args => match callee with
      | .value f => oc (opd a f) (callV P r args s)
      | .builtin b => builtinA P b argTypes.toList args s
      | _ => none) = some (v, s') from h)
    cases callee <;> first | (cases h1; done) | skip
    case value f =>
      obtain ⟨fv, hf, h2⟩ := oc_some h1
      unfold callV at h2
      split at h2
      · rename_i g p q
        cases hb0 : Nat.beq (extK P g) (nat_lit 0) with
        | true =>
          rw [hb0, bi_true] at h2
          obtain ⟨q1, q2⟩ := hcall h2
          refine ⟨q1, fun {G B E w ac ro} hG hs ht {K Q} hK => ?_⟩
          have hfr := ht.one hf (by simp [Op.operands, Call.operands])
          have har := opds_ok2 (fun x hx => ht x (by simp [Op.operands, Call.operands]; first | exact .inr (by simpa using hx) | (simpa using hx))) hargs
          generalize hev : ac.eval f = fval at hfr
          cases hfr
          rename_i p' q' hp hq
          have hres := q2 hG hs (args' := p' ++ args.map ac.eval ++ q') (by simpa using (hp.append har).append hq)
          refine wpIn_call (f := g) (args := p' ++ args.map ac.eval ++ q') ?_ hres hK
          cases ro <;> simp [Oper.semAt, execOp, resolve, hev, Deferred.ofValue, invoke]
        | false =>
          rw [hb0, bi_false] at h2
          have hext : ExtOk P g (p ++ argv ++ q) s v s' := by
            cases hb2 : Nat.beq (extK P g) (nat_lit 2) with
            | true => rw [hb2, bi_true] at h2; exact cloneA_ok (by simpa using hb2) h2
            | false =>
              rw [hb2, bi_false] at h2
              cases hb3 : Nat.beq (extK P g) (nat_lit 3) with
              | true => rw [hb3, bi_true] at h2; exact indexByteA_ok (by simpa using hb3) h2
              | false =>
                rw [hb3, bi_false] at h2
                obtain ⟨hb4, h4⟩ := bc_some h2
                exact sameA_ok (by simpa using hb4) h4
          obtain ⟨q1, q2⟩ := hext
          refine ⟨q1, fun {G B E w ac ro} hG hs ht {K Q} hK => ?_⟩
          have hfr := ht.one hf (by simp [Op.operands, Call.operands])
          have har := opds_ok2 (fun x hx => ht x (by simp [Op.operands, Call.operands]; first | exact .inr (by simpa using hx) | (simpa using hx))) hargs
          generalize hev : ac.eval f = fval at hfr
          cases hfr
          rename_i p' q' hp hq
          have hres := q2 hG hs (args' := p' ++ args.map ac.eval ++ q') (by simpa using (hp.append har).append hq)
          refine wpIn_ext (f := g) (args := p' ++ args.map ac.eval ++ q') ?_ hres hK
          cases ro <;> simp [Oper.semAt, execOp, resolve, hev, Deferred.ofValue, invoke]
      · rename_i l
        obtain ⟨q1, q2⟩ := hyld h2
        refine ⟨q1, fun {G B E w ac ro} hG hs ht {K Q} hK => ?_⟩
        have hfr := ht.one hf (by simp [Op.operands, Call.operands])
        have har := opds_ok2 (fun x hx => ht x (by simp [Op.operands, Call.operands]; first | exact .inr (by simpa using hx) | (simpa using hx))) hargs
        generalize hev : ac.eval f = fval at hfr
        cases hfr
        rename_i b hb
        obtain ⟨fn, tmps, as, bo, hy, hr⟩ := q2 hG hs (args' := args.map ac.eval) (by simpa using har) hb
        refine wpIn_round ?_ hr hK
        cases ro <;> simp [Oper.semAt, execOp, resolve, hev, Deferred.ofValue, invoke, hy]
      · cases h2
    case builtin b =>
      obtain ⟨q1, q2⟩ := builtinA_ok h1
      refine ⟨q1, fun {G B E w ac ro} hG hs ht {K Q} hK => ?_⟩
      have har := opds_ok2 (fun x hx => ht x (by simp [Op.operands, Call.operands]; first | exact .inr (by simpa using hx) | (simpa using hx))) hargs
      obtain ⟨m, hm, hok⟩ := q2 (args' := args.map ac.eval) type (args.map fun | .const _ => true | _ => false) hG hs (by simpa using har)
      refine wpIn_value (m := m) ?_ hok hK
      rw [← hm]
      cases ro <;> rfl
  all_goals (cases h; done)
end
end Ev
end Go.Proofs.YtmghbbicjkmigaaGreatDoor
namespace Go.Proofs.YtmghbbicjkmigaaGreatDoor
namespace Ev
open Go.RowKit

noncomputable def putT (d : Option Tmp) (a : T AV) (u : AV) : T AV := match d with
  | none => a
  | some d => a.put d (some u)
/-- What a step looks at. -/
def LRel (E : Env) (ops : Array Oper) (o : Oper) (a : T AV) (ac : Act) : Prop :=
  ORel E o.op a ac ∧ ∀ j want oj d g, o.guard = some (j, want) → ops[j]? = some oj → oj.dst = some d → a.get d = some g → ∃ x, ac.tmps[d]? = some x ∧ Rel E g x
/-- What a step's evaluation promises. -/
def OneOk (P : Program) (ops : Array Oper) (nt : Nat) (o : Oper) (a : T AV) (s : St) (a' : T AV) (s' : St) : Prop :=
  Step s s' ∧ (∀ d, o.dst = some d → d < nt) ∧ ∃ u, a' = putT o.dst a u ∧ ∀ {G : Nat → Prop} {B : Nat} {E : Env} {w : World} {ac : Act} {ro : Option Nat} {i : Nat}, ops[i]? = some o → (∀ j, In s'.l j → G j) → Sat G B E s w → LRel E ops o a ac →
    ∀ {K : Act → World → Prop} {Q : Exit → Act → World → Prop}, (∀ E' u' w', Rel E' u u' → Sat G B E' s' w' → Ext B s'.w E E' w w' → K (ac.put o.dst u') w') → wpOpIn (fen ro) 0 P ops Q i K ac w

section
variable {P : Program} {r : Rec}

theorem putS_some {nt : Nat} {d : Option Tmp} {put : T AV → AV → T AV} (h : putS nt d = some put) : (∀ a u, put a u = putT d a u) ∧ ∀ t, d = some t → t < nt := by
  cases d with
  | none => cases h; exact ⟨fun _ _ => rfl, fun t ht => by cases ht⟩
  | some d =>
    simp only [putS] at h
    cases hb : Nat.blt d nt with
    | false => rw [hb] at h; cases h
    | true => rw [hb] at h; cases h; exact ⟨fun _ _ => rfl, fun t ht => by cases ht; simpa using hb⟩
theorem wpOpIn_wanted {ops : Array Oper} {o : Oper} {i : Nat} (hi : ops[i]? = some o) {ac : Act} {w : World} {ro : Option Nat} {K : Act → World → Prop} {Q : Exit → Act → World → Prop} (hw : Region.wanted o (yielded ops ac.tmps) = true) (h : o.wpIn (fen ro) 0 P ac w K Q) : wpOpIn (fen ro) 0 P ops Q i K ac w := by
  simp only [wpOpIn, hi, hw, if_true]; exact h
theorem wpOpIn_not {ops : Array Oper} {o : Oper} {i : Nat} (hi : ops[i]? = some o) {ac : Act} {w : World} {ro : Option Nat} {K : Act → World → Prop} {Q : Exit → Act → World → Prop} (hw : Region.wanted o (yielded ops ac.tmps) = false) (h : K (ac.put o.dst undef) w) : wpOpIn (fen ro) 0 P ops Q i K ac w := by
  simp only [wpOpIn, hi, hw, Bool.false_eq_true, if_false]; exact ⟨fun f _ => fen_fn ro f, h⟩
theorem evOne_ok (hcall : CallOk P r.call) (hyld : YieldOk P r.yld) {ops : Array Oper} {nt : Nat} {o : Oper} {a a' : T AV} {s s' : St} (h : evOne P r nt ops.toList a o s = some (a', s')) : OneOk P ops nt o a s a' s' := by
  unfold evOne at h
  unfold stepS at h
  split at h
  case h_1 => cases h
  rename_i put hput
  obtain ⟨hp1, hp2⟩ := putS_some hput
  have no : (∀ {ac : Act} {E : Env}, LRel E ops o a ac → Region.wanted o (yielded ops ac.tmps) = false) → (some (put a undefA, s) : Option (T AV × St)) = some (a', s') → OneOk P ops nt o a s a' s' := by
    intro hw he
    cases he
    refine ⟨Step.refl _, hp2, undefA, hp1 _ _, fun {G B E w ac ro i} hi hG hs hl {K Q} hK => ?_⟩
    exact wpOpIn_not hi (hw hl) (hK E undef w (.tuple .nil) hs (Ext.refl _ _ _ _))
  have yes : (∀ {ac : Act} {E : Env}, LRel E ops o a ac → Region.wanted o (yielded ops ac.tmps) = true) → oc2 (evOp P o r a s) (fun v s' => some (put a v, s')) = some (a', s') → OneOk P ops nt o a s a' s' := by
    intro hw he
    obtain ⟨u, s1, hu, h1⟩ := oc2_some he
    cases h1
    obtain ⟨q1, q2⟩ := evOp_ok hcall hyld hu
    refine ⟨q1, hp2, u, hp1 _ _, fun {G B E w ac ro i} hi hG hs hl {K Q} hK => ?_⟩
    exact wpOpIn_wanted hi (hw hl) (q2 hG hs hl.1 hK)
  split at h
  · rename_i hg
    exact yes (fun _ => by simp [Region.wanted, hg]) h
  · rename_i j want hg
    split at h
    · rename_i hj
      rw [nth_get, Array.getElem?_toList] at hj
      exact no (fun _ => by simp [Region.wanted, hg, yielded, hj]) h
    · rename_i oj hj
      rw [nth_get, Array.getElem?_toList] at hj
      split at h
      · rename_i hd
        exact no (fun _ => by simp [Region.wanted, hg, yielded, hj, hd]) h
      · rename_i d hd
        obtain ⟨g, hgd, h1⟩ := oc_some h
        have hw : ∀ {ac : Act} {E : Env}, LRel E ops o a ac → Region.wanted o (yielded ops ac.tmps) = guardC want g := by
          intro ac E hl
          obtain ⟨x, hx, hrel⟩ := hl.2 j want oj d g hg hj hd hgd
          simp only [Region.wanted, hg, yielded, hj, Option.bind_some, hd, hx]
          cases hrel <;> simp [guardC]
        cases hgc : guardC want g with
        | true => rw [hgc, bi_true] at h1; exact yes (fun hl => by rw [hw hl, hgc]) h1
        | false => rw [hgc, bi_false] at h1; exact no (fun hl => by rw [hw hl, hgc]) h1
theorem TRel.put {E : Env} {nt : Nat} {a : T AV} {ac : Act} (h : TRel E nt a ac.tmps) {d : Option Tmp} (hd : ∀ t, d = some t → t < nt) {u : AV} {u' : Value} (hu : Rel E u u') : TRel E nt (putT d a u) (ac.put d u').tmps := by
  cases d with
  | none => exact h
  | some d =>
    refine ⟨by simpa [Act.put] using h.1, fun t v ht => ?_⟩
    have hdn := hd d rfl
    rcases T.put_some ht with ⟨rfl, hx⟩ | ⟨hne, hx⟩
    · cases hx
      exact ⟨u', by simp [Act.put, h.1, hdn], hu⟩
    · obtain ⟨x, hx1, hx2⟩ := h.2 t v hx
      exact ⟨x, by simp [Act.put, Array.getElem?_setIfInBounds_ne (Ne.symm hne), hx1], hx2⟩
theorem TRel.look {G : Nat → Prop} {B : Nat} {E : Env} {s : St} {w : World} (hs : Sat G B E s w) {nt : Nat} {a : T AV} {ac : Act} (ht : TRel E nt a ac.tmps) (ops : Array Oper) (o : Oper) : LRel E ops o a ac :=
  ⟨TRel.ops hs ht _, fun _ _ _ d g _ _ _ hg => ht.2 d g hg⟩
theorem act_put_defers (ac : Act) (d : Option Tmp) (u : Value) : (ac.put d u).defers = ac.defers := by cases d <;> rfl
theorem evOps_ok (hcall : CallOk P r.call) (hyld : YieldOk P r.yld) {ops : Array Oper} {nt : Nat} : ∀ (l : List Oper) (k : Nat) {a a' : T AV} {s s' : St}, ops.toList.drop k = l → evOps P r nt ops.toList l a s = some (a', s') →
    Step s s' ∧ ∀ {G : Nat → Prop} {B : Nat} {E : Env} {w : World} {ac : Act} {ro : Option Nat}, (∀ j, In s'.l j → G j) → Sat G B E s w → TRel E nt a ac.tmps → ∀ {Q : Exit → Act → World → Prop},
      (∀ E' ac' w', TRel E' nt a' ac'.tmps → ac'.defers = ac.defers → Sat G B E' s' w' → Ext B s'.w E E' w w' → Q .normal ac' w') → wpOpsIn (fen ro) 0 P ops Q (List.range' k l.length) ac w := by
  intro l
  induction l with
  | nil =>
    intro k a a' s s' _ h
    cases h
    exact ⟨Step.refl _, fun {G B E w ac ro} hG hs ht {Q} hQ => hQ E ac w ht rfl hs (Ext.refl _ _ _ _)⟩
  | cons o l ih =>
    intro k a a' s s' hk h
    obtain ⟨a1, s1, h1, h2⟩ := oc2_some (show oc2 (evOne P r nt ops.toList a o s) (fun a s => evOps P r nt ops.toList l a s) = some (a', s') from h)
    obtain ⟨q1, q2, u, rfl, q3⟩ := evOne_ok hcall hyld h1
    have hk' : ops.toList.drop (k + 1) = l := by rw [← List.drop_drop, hk]; rfl
    have hi : ops[k]? = some o := by
      rw [← Array.getElem?_toList]
      have := congrArg (fun l => l[0]?) hk
      simpa using this
    obtain ⟨p1, p2⟩ := ih (k + 1) hk' h2
    refine ⟨q1.trans p1, fun {G B E w ac ro} hG hs ht {Q} hQ => ?_⟩
    show wpOpsIn (fen ro) 0 P ops Q (k :: List.range' (k + 1) l.length) ac w
    rw [wpOpsIn_cons]
    refine q3 hi (fun j hj => hG j (p1.l j hj)) hs (TRel.look hs ht ops o) fun E1 u' w1 hu hs1 hx1 => ?_
    refine p2 hG hs1 ((ht.mono hx1.le).put q2 hu) fun E2 ac2 w2 ht2 hd2 hs2 hx2 => ?_
    exact hQ E2 ac2 w2 ht2 (hd2.trans (act_put_defers _ _ _)) hs2 (hx1.trans hx2 p1.w)
end
end Ev
end Go.Proofs.YtmghbbicjkmigaaGreatDoor
