/-
  The evaluator: regions, code, calls. No proof here.
-/
import Derived.Test.YtpklliedmplpdaaGreatDoorSy1
namespace Go.Proofs.YtpklliedmplpdaaGreatDoor
namespace Ev

noncomputable def guardC (want : Bool) (v : AV) : Bool := match v with
  | .bool b => b == want
  | _ => false
/-- A step of a region: by its guard; with its target. -/
structure Sf where
  run : Rec → T AV → St → Option (T AV × St)
noncomputable def putS (nt : Nat) (d : Option Tmp) : Option (T AV → AV → T AV) :=
  match d with
  | none => some fun a _ => a
  | some d => bi (Nat.blt d nt) (some fun a v => a.put d (some v)) none
noncomputable def noSf : Sf := ⟨fun _ _ _ => none⟩
noncomputable def stepS (P : Program) (nt : Nat) (ops : List Oper) (o : Oper) : Sf :=
  match putS nt o.dst with
  | none => noSf
  | some put => match o.guard with
    | none => ⟨fun r a s => oc2 (evOp P o r a s) fun v s' => some (put a v, s')⟩
    | some (j, want) => match nth ops j with
      | none => ⟨fun _ a s => some (put a undefA, s)⟩
      | some oj => match oj.dst with
        | none => ⟨fun _ a s => some (put a undefA, s)⟩
        | some d => ⟨fun r a s => oc (a.get d) fun g => bi (guardC want g) (oc2 (evOp P o r a s) fun v s' => some (put a v, s')) (some (put a undefA, s))⟩
noncomputable def evOne (P : Program) (r : Rec) (nt : Nat) (ops : List Oper) (a : T AV) (o : Oper) (s : St) : Option (T AV × St) := (stepS P nt ops o).run r a s

/-- A region that isn't drawn. -/
noncomputable def evOps (P : Program) (r : Rec) (nt : Nat) (ops l : List Oper) : T AV → St → Option (T AV × St) :=
  List.rec (motive := fun _ => T AV → St → Option (T AV × St)) (fun a s => some (a, s))
    (fun o _ ih a s => oc2 (evOne P r nt ops a o s) ih) l

/-- What is ahead of an operation, by edges that bind. -/
noncomputable def ancOf (acc : List Nat) : List Edge → Nat
  | [] => 0
  | e :: r => match Region.binds .any e, nth acc e.on with
    | true, some m => Nat.lor (Nat.lor m (bit e.on)) (ancOf acc r)
    | _, _ => ancOf acc r
noncomputable def ancs : List Oper → List Nat → List Nat
  | [], acc => acc
  | o :: r, acc => ancs r (acc ++ [ancOf acc o.after.toList])

/-- An operation's mark: its number, what it touched, what it wrote, the ids that it may make. -/
structure Log where
  i : Nat
  l : Nat
  w : Nat

noncomputable def logsApart (anc : List Nat) (x y : Log) : Bool :=
  match nth anc y.i with
  | some m => match Nat.testBit m x.i with
    | true => true
    | false => match Nat.land x.w y.l, Nat.land y.w x.l with
      | 0, 0 => true
      | _, _ => false
  | none => false
noncomputable def logsApart1 (anc : List Nat) (x : Log) : List Log → Bool
  | [] => true
  | y :: r => match logsApart anc x y with
    | true => logsApart1 anc x r
    | false => false
noncomputable def logsOk (anc : List Nat) : List Log → Bool
  | [] => true
  | x :: r => match logsApart1 anc x r with
    | true => logsOk anc r
    | false => false

/-- Temporaries: of operations that no edge orders. -/
noncomputable def tmpsApart1 (ops : Array Oper) (anc : List Nat) (i : Nat) (x : Oper) : List (Oper × Nat) → Bool
  | [] => true
  | (y, j) :: r => match (match nth anc j with | some m => Nat.testBit m i | none => false) || Oper.apart ops x y with
    | true => tmpsApart1 ops anc i x r
    | false => false
noncomputable def tmpsApart (ops : Array Oper) (anc : List Nat) : List (Oper × Nat) → Bool
  | [] => true
  | (x, i) :: r => match tmpsApart1 ops anc i x r with
    | true => tmpsApart ops anc r
    | false => false
/-- Edges that bind lead back. -/
noncomputable def edgesBack : List Oper → Nat → Bool
  | [], _ => true
  | o :: r, i => o.after.toList.all (fun e => !Region.binds .any e || Nat.blt e.on i) && edgesBack r (Nat.succ i)
noncomputable def staticOk (ops : Array Oper) : Bool := edgesBack ops.toList 0 && tmpsApart ops (ancs ops.toList []) ops.toList.zipIdx

noncomputable def logged (s : St) (s' : St) : Option St :=
  bc (Nat.ble s.c s'.c) (bc (Nat.beq (Nat.shiftRight s'.l s'.c) (nat_lit 0)) (some ⟨s'.c, s'.h, Nat.lor s.l s'.l, Nat.lor s.w s'.w, s'.o⟩))
noncomputable def logOn (i : Nat) (s' : St) (a2 : T AV) (x : St × List Log) : Option (T AV × St × List Log) :=
  bi (Nat.beq s'.l (nat_lit 0)) (some (a2, x)) (some (a2, x.1, ⟨i, s'.l, s'.w⟩ :: x.2))
/-- A region that is drawn, in the text's order, with its logs. -/
noncomputable def evDrawn (P : Program) (r : Rec) (nt : Nat) (ops l : List Oper) : Nat → T AV → St → Option (T AV × St × List Log) :=
  List.rec (motive := fun _ => Nat → T AV → St → Option (T AV × St × List Log)) (fun _ a s => some (a, s, []))
    (fun o _ ih i a s => oc2 (evOne P r nt ops a o ⟨s.c, s.h, nat_lit 0, nat_lit 0, s.o⟩) fun a' s' =>
      s'.force fun s' => oc (logged s s') fun s2 => s2.force fun s2 => oc2 (ih (Nat.succ i) a' s2) (logOn i s')) l

abbrev C := Option (AX × Fr × St)
noncomputable def cc (x : C) (k : AX → Fr → St → C) : C := oc2 x fun e y => Prod.rec (motive := fun _ => C) (fun fr s => k e fr s) y
noncomputable def AX.thn (e : AX) (fr : Fr) (s : St) (k : Fr → St → C) : C := match e with
  | .normal => s.force (k fr)
  | .exit id => some (.exit id, fr, s)
  | .ret => some (.ret, fr, s)
noncomputable def AX.blk (id : Nat) (e : AX) : AX := match e with
  | .exit j => bi (Nat.beq j id) .normal (.exit j)
  | .normal => .normal
  | .ret => .ret
noncomputable def loopC {β : Type} (o : AObj) (k : LoopState → Option Code → Nat → T AV → List Tmp → Code → Code → Nat → Option β) : Option β := match o with
  | .loop st pend nt a ps as bo d => k st pend nt a ps as bo d
  | _ => none
noncomputable def funC {β : Type} (v : AV) (k : FuncId → List AV → List AV → Option β) : Option β := match v with
  | .func f p q => k f p q
  | _ => none
noncomputable def notBusy : LoopState → Bool
  | .busy => false
  | _ => true
noncomputable def isReady : LoopState → Bool
  | .ready => true
  | _ => false
noncomputable def pendC (pend : Option Code) (fr : Fr) (s : St) : C := match pend with
  | none => some (.normal, fr, s)
  | some .ret => some (.ret, fr, s)
  | some (.exit id) => some (.exit id, fr, s)
  | _ => none
noncomputable def rangeGo (r : Rec) (fr : Fr) (f : FuncId) (p q : List AV) (l : Nat) (m : List Nat) (s2 : St) : C :=
  oc2 (r.call f (p ++ [.yield l] ++ q) s2) fun _ s3 => oc (s3.h.get l) fun o => loopC o fun st pend nt' a' ps' as' bo' d' => bc (notBusy st) (pendC pend ⟨fr.a, m⟩ (s3.set l (some (.loop .exhausted pend nt' a' ps' as' bo' d'))))
/-- A range over a function. -/
noncomputable def evRange (g : Operand) (ps : List Tmp) (assign body : Code) (r : Rec) (nt : Nat) (ro : Option Nat) (fr : Fr) (s : St) : C :=
  oc (opd fr.a g) fun gv => funC gv fun f p q => match ro with
    | none => rangeGo r fr f p q (Nat.succ s.c) (s.c :: fr.m) ((s.new (.defd true)).new (.loop .ready none nt fr.a ps assign body s.c))
    | some l0 => oc (s.h.get l0) fun o => loopC o fun _ _ _ _ _ _ _ d => rangeGo r fr f p q s.c fr.m ((s.see l0).new (.loop .ready none nt fr.a ps assign body d))
structure Cf where
  run : Rec → Option Nat → Fr → St → C
noncomputable def codeS (P : Program) (nt : Nat) (c : Code) : Cf :=
  match c with
  | .skip => ⟨fun _ _ fr s => some (.normal, fr, s)⟩
  | .label _ => ⟨fun _ _ fr s => some (.normal, fr, s)⟩
  | .region _ ops false => ⟨fun r _ fr s => oc2 (evOps P r nt ops.toList ops.toList fr.a s) fun a s => some (.normal, ⟨a, fr.m⟩, s)⟩
  | .region _ ops true => bi (staticOk ops)
      ⟨fun r _ fr s => oc2 (evDrawn P r nt ops.toList ops.toList (nat_lit 0) fr.a s) fun a x => bc (logsOk (ancs ops.toList []) x.2) (some (.normal, ⟨a, fr.m⟩, x.1))⟩
      ⟨fun _ _ _ _ => none⟩
  | .seq x y => ⟨fun r ro fr s => cc (r.code nt ro x fr s) fun e fr s => e.thn fr s (r.code nt ro y)⟩
  | .cond x y z => ⟨fun r ro fr s => oc (opd fr.a x) fun b => b.boolC (r.code nt ro y fr s) (r.code nt ro z fr s)⟩
  | .block id x => ⟨fun r ro fr s => cc (r.code nt ro x fr s) fun e fr s => some (e.blk id, fr, s)⟩
  | .loop x => ⟨fun r ro fr s => cc (r.code nt ro x fr s) fun e fr s => e.thn fr s (r.code nt ro c)⟩
  | .scope x => ⟨fun r ro fr s => r.code nt ro x fr s⟩
  | .rangeFunc g ps assign body => ⟨fun r ro fr s => evRange g ps.toList assign body r nt ro fr s⟩
  | .exit id => ⟨fun _ _ fr s => some (.exit id, fr, s)⟩
  | .ret => ⟨fun _ _ fr s => some (.ret, fr, s)⟩
  | _ => ⟨fun _ _ _ _ => none⟩
noncomputable def evCode (P : Program) (r : Rec) (nt : Nat) (ro : Option Nat) (c : Code) (fr : Fr) (s : St) : C := (codeS P nt c).run r ro fr s

noncomputable def argsA : Nat → List AV → T AV → T AV
  | _, [], a => a
  | i, v :: l, a => argsA (Nat.succ i) l (a.put i (some v))
noncomputable def resultsA (P : Program) (a : T AV) : List ResultVar → St → Option (List AV × St)
  | [], s => some ([], s)
  | .tmp t :: r, s => match a.get t, resultsA P a r s with
    | some v, some (l, s') => some (v :: l, s')
    | _, _ => none
  | .cell t ty :: r, s => match a.get t with
    | some (.ptr i off) => match loadVarA P ty i off s with
      | some (v, s1) => match resultsA P a r s1 with
        | some (l, s') => some (v :: l, s')
        | none => none
      | none => none
    | _ => none
noncomputable def tupA : List AV → AV
  | [v] => v
  | l => .tuple l
/-- The marks of ranges over functions are taken. -/
noncomputable def takeA : List Nat → St → Option St
  | [], s => some s
  | d :: m, s => match s.h.get d with
    | some (.defd true) => takeA m (s.set d (some (.defd false)))
    | _ => none
noncomputable def finB (P : Program) (fn : Func) (fr : Fr) (s1 : St) : R :=
  oc (takeA fr.m s1) fun s2 => oc2 (resultsA P fr.a fn.results.toList s2) fun l s3 => some (tupA l, s3)
noncomputable def evBody (P : Program) (r : Rec) (fn : Func) (c : Code) (args : List AV) (s : St) : R :=
  bc (Nat.ble args.length fn.ntmps) (oc2 (r.code fn.ntmps none c ⟨argsA (nat_lit 0) args .e, []⟩ s) fun e y => match e with
    | .exit _ => none
    | .normal => finB P fn y.1 y.2
    | .ret => finB P fn y.1 y.2)
noncomputable def paramsA (nt : Nat) : List Tmp → List AV → T AV → Option (T AV)
  | [], [], a => some a
  | t :: ts, v :: vs, a => match Nat.blt t nt with
    | true => paramsA nt ts vs (a.put t (some v))
    | false => none
  | _, _, _ => none
noncomputable def roundC (x : C) (k : AX → Fr → St → R) : R := oc2 x fun e y => Prod.rec (motive := fun _ => R) (fun fr s => k e fr s) y
noncomputable def endR (l : Nat) (e : AX) (s3 : St) : R := oc (s3.h.get l) fun o => loopC o fun _ _ nt' a' ps' as' bo' d' => match e with
  | .normal => some (.bool true, s3.set l (some (.loop .ready none nt' a' ps' as' bo' d')))
  | .ret => some (.bool false, s3.set l (some (.loop .done (some .ret) nt' a' ps' as' bo' d')))
  | .exit id => some (.bool false, s3.set l (some (.loop .done (some (.exit id)) nt' a' ps' as' bo' d')))
/-- A round of a range over a function. -/
noncomputable def evYield (r : Rec) (l : Nat) (args : List AV) (s : St) : R :=
  oc (s.h.get l) fun o => loopC o fun _ _ nt a ps assign body _ => oc (paramsA nt ps args a) fun a0 => roundC (r.code nt (some l) assign ⟨a0, []⟩ (s.see l)) fun e fr1 s1 => match e with
    | .normal => oc (s1.h.get l) fun o => loopC o fun st pend nt' a' ps' as' bo' d' => bc (isReady st) (roundC (r.code nt (some l) body fr1 (s1.set l (some (.loop .busy pend nt' a' ps' as' bo' d')))) fun e _ s3 => endR l e s3)
    | _ => none
abbrev Ctr := FuncId → Option (List AV → St → R)
/-- A function, as it is called. -/
structure Cb where
  run : Rec → List AV → St → R
noncomputable def callS (P : Program) (ctr : Ctr) (f : FuncId) : Cb :=
  match ctr f with
  | some g => ⟨fun _ => g⟩
  | none => match P.funcs[f]? with
    | some fn => match fn.body with
      | some c => ⟨fun r => evBody P r fn c⟩
      | none => ⟨fun _ _ _ => none⟩
    | none => ⟨fun _ _ _ => none⟩
noncomputable def evCall (P : Program) (ctr : Ctr) (r : Rec) (f : FuncId) (args : List AV) (s : St) : R := (callS P ctr f).run r args s

noncomputable def ev (P : Program) (ctr : Ctr) (n : Nat) : Rec :=
  Nat.rec (motive := fun _ => Rec) ⟨fun _ _ _ => none, fun _ _ _ => none, fun _ _ _ _ _ => none⟩ (fun _ r => ⟨evCall P ctr r, evYield r, evCode P r⟩) n

end Ev
end Go.Proofs.YtpklliedmplpdaaGreatDoor
