/-
  The evaluator: regions, code, calls. No proof here.
-/
import Derived.Test.YtbjllaknnpbkkaaGreatDoorSz1
namespace Go.Proofs.YtbjllaknnpbkkaaGreatDoor
namespace Ev

noncomputable def guardC (want : Bool) (v : AV) : Bool := match v with
  | .bool b => b == want
  | _ => false
/-- A step of a region: by its guard; with its target. -/
structure Sf where
  run : Rec → T AV → St → Option (T AV × St)
noncomputable def putS (nt : Nat) (d : Option Tmp) : Option (T AV → AV → T AV) :=
  match d with
  | none => some fun a _ => a
  | some d => bi (Nat.blt d nt) (some fun a v => a.put d (some v)) none
noncomputable def noSf : Sf := ⟨fun _ _ _ => none⟩
noncomputable def stepS (P : Program) (nt : Nat) (ops : List Oper) (o : Oper) : Sf :=
  match putS nt o.dst with
  | none => noSf
  | some put => match o.guard with
    | none => ⟨fun r a s => oc2 (evOp P o r a s) fun v s' => some (put a v, s')⟩
    | some (j, want) => match nth ops j with
      | none => ⟨fun _ a s => some (put a undefA, s)⟩
      | some oj => match oj.dst with
        | none => ⟨fun _ a s => some (put a undefA, s)⟩
        | some d => ⟨fun r a s => oc (a.get d) fun g => bi (guardC want g) (oc2 (evOp P o r a s) fun v s' => some (put a v, s')) (some (put a undefA, s))⟩
noncomputable def evOne (P : Program) (r : Rec) (nt : Nat) (ops : List Oper) (a : T AV) (o : Oper) (s : St) : Option (T AV × St) := (stepS P nt ops o).run r a s

/-- A region that isn't drawn. -/
noncomputable def evOps (P : Program) (r : Rec) (nt : Nat) (ops l : List Oper) : T AV → St → Option (T AV × St) :=
  List.rec (motive := fun _ => T AV → St → Option (T AV × St)) (fun a s => some (a, s))
    (fun o _ ih a s => oc2 (evOne P r nt ops a o s) ih) l

/-- What is ahead of an operation, by edges that bind. -/
noncomputable def ancOf (acc : List Nat) : List Edge → Nat
  | [] => 0
  | e :: r => match Region.binds .any e, nth acc e.on with
    | true, some m => Nat.lor (Nat.lor m (bit e.on)) (ancOf acc r)
    | _, _ => ancOf acc r
noncomputable def ancs : List Oper → List Nat → List Nat
  | [], acc => acc
  | o :: r, acc => ancs r (acc ++ [ancOf acc o.after.toList])

/-- An operation's mark: its number, what it touched, what it wrote, the ids that it may make. -/
structure Log where
  i : Nat
  l : Nat
  w : Nat

noncomputable def logsApart (anc : List Nat) (x y : Log) : Bool :=
  match nth anc y.i with
  | some m => match Nat.testBit m x.i with
    | true => true
    | false => match Nat.land x.w y.l, Nat.land y.w x.l with
      | 0, 0 => true
      | _, _ => false
  | none => false
noncomputable def logsApart1 (anc : List Nat) (x : Log) : List Log → Bool
  | [] => true
  | y :: r => match logsApart anc x y with
    | true => logsApart1 anc x r
    | false => false
noncomputable def logsOk (anc : List Nat) : List Log → Bool
  | [] => true
  | x :: r => match logsApart1 anc x r with
    | true => logsOk anc r
    | false => false

/-- Temporaries: of operations that no edge orders. -/
noncomputable def tmpsApart1 (ops : Array Oper) (anc : List Nat) (i : Nat) (x : Oper) : List (Oper × Nat) → Bool
  | [] => true
  | (y, j) :: r => match (match nth anc j with | some m => Nat.testBit m i | none => false) || Oper.apart ops x y with
    | true => tmpsApart1 ops anc i x r
    | false => false
noncomputable def tmpsApart (ops : Array Oper) (anc : List Nat) : List (Oper × Nat) → Bool
  | [] => true
  | (x, i) :: r => match tmpsApart1 ops anc i x r with
    | true => tmpsApart ops anc r
    | false => false
/-- Edges that bind lead back. -/
noncomputable def edgesBack : List Oper → Nat → Bool
  | [], _ => true
  | o :: r, i => o.after.toList.all (fun e => !Region.binds .any e || Nat.blt e.on i) && edgesBack r (Nat.succ i)
noncomputable def staticOk (ops : Array Oper) : Bool := edgesBack ops.toList 0 && tmpsApart ops (ancs ops.toList []) ops.toList.zipIdx

noncomputable def logged (s : St) (s' : St) : Option St :=
  bc (Nat.ble s.c s'.c) (bc (Nat.beq (Nat.shiftRight s'.l s'.c) (nat_lit 0)) (some ⟨s'.c, s'.h, Nat.lor s.l s'.l, Nat.lor s.w s'.w, s'.o⟩))
noncomputable def logOn (i : Nat) (s' : St) (a2 : T AV) (x : St × List Log) : Option (T AV × St × List Log) :=
  bi (Nat.beq s'.l (nat_lit 0)) (some (a2, x)) (some (a2, x.1, ⟨i, s'.l, s'.w⟩ :: x.2))
/-- A region that is drawn, in the text's order, with its logs. -/
noncomputable def evDrawn (P : Program) (r : Rec) (nt : Nat) (ops l : List Oper) : Nat → T AV → St → Option (T AV × St × List Log) :=
  List.rec (motive := fun _ => Nat → T AV → St → Option (T AV × St × List Log)) (fun _ a s => some (a, s, []))
    (fun o _ ih i a s => oc2 (evOne P r nt ops a o ⟨s.c, s.h, nat_lit 0, nat_lit 0, s.o⟩) fun a' s' =>
      s'.force fun s' => oc (logged s s') fun s2 => s2.force fun s2 => oc2 (ih (Nat.succ i) a' s2) (logOn i s')) l

/-- A way that a text's run may have come to its end. -/
abbrev Alt := AX × Fr × St
/-- All the ways. -/
abbrev C := Option (List Alt)
noncomputable def one (e : AX) (fr : Fr) (s : St) : C := some [(e, fr, s)]
noncomputable def altC {β : Type} (a : Alt) (k : AX → Fr → St → β) : β := Prod.rec (motive := fun _ => β) (fun e y => Prod.rec (motive := fun _ => β) (fun fr s => k e fr s) y) a
/-- What is done behind each of them. -/
noncomputable def flatC (k : AX → Fr → St → C) (l : List Alt) : C :=
  List.rec (motive := fun _ => C) (some []) (fun a _ ih => oc (altC a k) fun x => oc ih fun y => some (x ++ y)) l
/-- One way alone, or many. -/
noncomputable def loneC {β : Type} (l : List Alt) (k : AX → Fr → St → β) (d : β) : β :=
  List.rec (motive := fun _ => β) d (fun a t _ => List.rec (motive := fun _ => β) (altC a k) (fun _ _ _ => d) t) l
noncomputable def cc (x : C) (k : AX → Fr → St → C) : C := oc x fun l => loneC l k (flatC k l)
noncomputable def AX.thn (e : AX) (fr : Fr) (s : St) (k : Fr → St → C) : C := match e with
  | .normal => s.force (k fr)
  | .exit id => one (.exit id) fr s
  | .ret => one .ret fr s
noncomputable def AX.blk (id : Nat) (e : AX) : AX := match e with
  | .exit j => bi (Nat.beq j id) .normal (.exit j)
  | .normal => .normal
  | .ret => .ret
noncomputable def loopC {β : Type} (o : AObj) (k : LoopState → Option Code → Nat → T AV → List Tmp → Code → Code → Nat → Option β) : Option β := match o with
  | .loop st pend nt a ps as bo d => k st pend nt a ps as bo d
  | _ => none
noncomputable def funC {β : Type} (v : AV) (k : FuncId → List AV → List AV → Option β) : Option β := match v with
  | .func f p q => k f p q
  | _ => none
noncomputable def notBusy : LoopState → Bool
  | .busy => false
  | _ => true
noncomputable def isReady : LoopState → Bool
  | .ready => true
  | _ => false
noncomputable def pendC (pend : Option Code) (fr : Fr) (s : St) : C := match pend with
  | none => one .normal fr s
  | some .ret => one .ret fr s
  | some (.exit id) => one (.exit id) fr s
  | _ => none
noncomputable def rangeGo (r : Rec) (fr : Fr) (f : FuncId) (p q : List AV) (l : Nat) (m : List Nat) (s2 : St) : C :=
  oc2 (r.call f (p ++ [.yield l] ++ q) s2) fun _ s3 => oc (s3.h.get l) fun o => loopC o fun st pend nt' a' ps' as' bo' d' => bc (notBusy st) (pendC pend ⟨fr.a, m⟩ (s3.set l (some (.loop .exhausted pend nt' a' ps' as' bo' d'))))
/-- A range over a function. -/
noncomputable def evRange (g : Operand) (ps : List Tmp) (assign body : Code) (r : Rec) (nt : Nat) (ro : Option Nat) (fr : Fr) (s : St) : C :=
  oc (opd fr.a g) fun gv => funC gv fun f p q => match ro with
    | none => rangeGo r fr f p q (Nat.succ s.c) (s.c :: fr.m) ((s.new (.defd true)).new (.loop .ready none nt fr.a ps assign body s.c))
    | some l0 => oc (s.h.get l0) fun o => loopC o fun _ _ _ _ _ _ _ d => rangeGo r fr f p q s.c fr.m ((s.see l0).new (.loop .ready none nt fr.a ps assign body d))
/-- A region that begins with a map's next entry. -/
noncomputable def nextOf (ops : List Oper) : Option (Operand × Tmp × List Oper) := match ops with
  | o :: l => match o.op, o.guard, o.dst with
    | .next x false, none, some d => some (x, d, l)
    | _, _, _ => none
  | [] => none
noncomputable def altsAt (a : T AV) (x : Operand) (s : St) : Option (List (AV × St)) := oc (opd a x) fun v => v.ptrC fun r off => bc (Nat.beq off (nat_lit 0)) (nextAlts r s)
noncomputable def altsGo (k : AV → St → Option (T AV × St)) (m : List Nat) (l : List (AV × St)) : C :=
  List.rec (motive := fun _ => C) (some []) (fun p _ ih => oc2 (k p.1 p.2) fun a s => oc ih fun y => some ((.normal, ⟨a, m⟩, s) :: y)) l
noncomputable def orC (x : Option (List (AV × St))) (k : List (AV × St) → C) (d : C) : C := Option.rec (motive := fun _ => C) d k x
structure Cf where
  run : Rec → Option Nat → Fr → St → C
noncomputable def regS (P : Program) (nt : Nat) (ops : Array Oper) (x : Option (Operand × Tmp × List Oper)) : Cf := match x with
  | none => ⟨fun r _ fr s => oc2 (evOps P r nt ops.toList ops.toList fr.a s) fun a s => one .normal ⟨a, fr.m⟩ s⟩
  | some (x, d, l) => bi (Nat.blt d nt)
    ⟨fun r _ fr s => orC (altsAt fr.a x s) (altsGo (fun v s => evOps P r nt ops.toList l (fr.a.put d (some v)) s) fr.m) (oc2 (evOps P r nt ops.toList ops.toList fr.a s) fun a s => one .normal ⟨a, fr.m⟩ s)⟩
    ⟨fun _ _ _ _ => none⟩
noncomputable def codeS (P : Program) (nt : Nat) (c : Code) : Cf :=
  match c with
  | .skip => ⟨fun _ _ fr s => one .normal fr s⟩
  | .label _ => ⟨fun _ _ fr s => one .normal fr s⟩
  | .region _ ops false => regS P nt ops (nextOf ops.toList)
  | .region _ ops true => bi (staticOk ops)
      ⟨fun r _ fr s => oc2 (evDrawn P r nt ops.toList ops.toList (nat_lit 0) fr.a s) fun a x => bc (logsOk (ancs ops.toList []) x.2) (one .normal ⟨a, fr.m⟩ x.1)⟩
      ⟨fun _ _ _ _ => none⟩
  | .seq x y => ⟨fun r ro fr s => cc (r.code nt ro x fr s) fun e fr s => e.thn fr s (r.code nt ro y)⟩
  | .cond x y z => ⟨fun r ro fr s => oc (opd fr.a x) fun b => b.boolC (r.code nt ro y fr s) (r.code nt ro z fr s)⟩
  | .block id x => ⟨fun r ro fr s => cc (r.code nt ro x fr s) fun e fr s => one (e.blk id) fr s⟩
  | .loop x => ⟨fun r ro fr s => cc (r.code nt ro x fr s) fun e fr s => e.thn fr s (r.code nt ro c)⟩
  | .scope x => ⟨fun r ro fr s => r.code nt ro x fr s⟩
  | .rangeFunc g ps assign body => ⟨fun r ro fr s => evRange g ps.toList assign body r nt ro fr s⟩
  | .exit id => ⟨fun _ _ fr s => one (.exit id) fr s⟩
  | .ret => ⟨fun _ _ fr s => one .ret fr s⟩
  | _ => ⟨fun _ _ _ _ => none⟩
noncomputable def evCode (P : Program) (r : Rec) (nt : Nat) (ro : Option Nat) (c : Code) (fr : Fr) (s : St) : C := (codeS P nt c).run r ro fr s

noncomputable def argsA : Nat → List AV → T AV → T AV
  | _, [], a => a
  | i, v :: l, a => argsA (Nat.succ i) l (a.put i (some v))
noncomputable def resultsA (P : Program) (a : T AV) : List ResultVar → St → Option (List AV × St)
  | [], s => some ([], s)
  | .tmp t :: r, s => match a.get t, resultsA P a r s with
    | some v, some (l, s') => some (v :: l, s')
    | _, _ => none
  | .cell t ty :: r, s => match a.get t with
    | some (.ptr i off) => match loadVarA P ty i off s with
      | some (v, s1) => match resultsA P a r s1 with
        | some (l, s') => some (v :: l, s')
        | none => none
      | none => none
    | _ => none
noncomputable def tupA : List AV → AV
  | [v] => v
  | l => .tuple l
/-- The marks of ranges over functions are taken. -/
noncomputable def takeA : List Nat → St → Option St
  | [], s => some s
  | d :: m, s => match s.h.get d with
    | some (.defd true) => takeA m (s.set d (some (.defd false)))
    | _ => none
noncomputable def finB (P : Program) (fn : Func) (fr : Fr) (s1 : St) : R :=
  oc (takeA fr.m s1) fun s2 => oc2 (resultsA P fr.a fn.results.toList s2) fun l s3 => some (tupA l, s3)
/-- Ids of one way, and those of another. -/
abbrev Prs := List (Nat × Nat)
noncomputable def lookP (a : Nat) : Prs → Option Nat
  | [] => none
  | p :: r => bi (Nat.beq p.1 a) (some p.2) (lookP a r)
noncomputable def lookQ (b : Nat) : Prs → Bool
  | [] => false
  | p :: r => bi (Nat.beq p.2 b) true (lookQ b r)
noncomputable def mId (c a b : Nat) (x : Prs × Prs) : Option (Prs × Prs) :=
  bi (Nat.blt a c) (bc (Nat.beq a b) (some x)) (bc (!Nat.blt b c) (match lookP a x.1 with
    | some b' => bc (Nat.beq b b') (some x)
    | none => bc (!lookQ b x.1) (some ((a, b) :: x.1, (a, b) :: x.2))))
/-- Which ids are alike? (A search; what it finds is looked at behind it.) -/
noncomputable def mV (c : Nat) : Nat → AV → AV → Prs × Prs → Option (Prs × Prs) := fun n =>
  Nat.rec (motive := fun _ => AV → AV → Prs × Prs → Option (Prs × Prs)) (fun _ _ _ => none) (fun _ ih x y p =>
    let go : List AV → List AV → Prs × Prs → Option (Prs × Prs) := fun l =>
      List.rec (motive := fun _ => List AV → Prs × Prs → Option (Prs × Prs)) (fun m p => match m with | [] => some p | _ => none)
        (fun v _ ih2 m p => match m with | u :: m => oc (ih v u p) (ih2 m) | [] => none) l
    match x, y with
    | .ptr i _, .ptr j _ => mId c i j p
    | .slice i _ _ _ _, .slice j _ _ _ _ => mId c i j p
    | .map i, .map j => mId c i j p
    | .func _ a b, .func _ d e => oc (go a d p) (go b e)
    | .iface _ a, .iface _ b => ih a b p
    | .agg a, .agg b => go a b p
    | .tuple a, .tuple b => go a b p
    | .fslice i _, .fslice j _ => mId c i j p
    | _, _ => some p) n
noncomputable def mL (c : Nat) (l : List AV) : List AV → Prs × Prs → Option (Prs × Prs) :=
  List.rec (motive := fun _ => List AV → Prs × Prs → Option (Prs × Prs)) (fun m p => match m with | [] => some p | _ => none)
    (fun v _ ih m p => match m with | u :: m => oc (mV c (nat_lit 40) v u p) (ih m) | [] => none) l
/-- Each is like each. -/
noncomputable def allB (f : AV → AV → Bool) (l : List AV) : List AV → Bool :=
  List.rec (motive := fun _ => List AV → Bool) (fun m => match m with | [] => true | _ => false) (fun v _ ih m => match m with | u :: m => f v u && ih m | [] => false) l
/-- Keys of plain kinds. -/
noncomputable def keyS (n : Nat) : AV → AV → Bool :=
  Nat.rec (motive := fun _ => AV → AV → Bool) (fun _ _ => false) (fun _ ih x y => match x, y with
    | .int k a, .int q b => kindEq k q && eqA a b
    | .sint k a, .sint q b => kindEq k q && seEq a b
    | .str a, .str b => bytesEq a b
    | .bool a, .bool b => a == b
    | .agg a, .agg b => allB ih a b
    | _, _ => false) n
/-- An entry of that key is taken out. -/
noncomputable def pullE (k : AV) : List Ent → Option (Ent × List Ent)
  | [] => none
  | e :: r => bi (keyS (nat_lit 3) k e.key) (some (e, r)) (oc2 (pullE k r) fun x y => some (x, e :: y))
/-- The entries, in the order of others. -/
noncomputable def sortE : List Ent → List Ent → Option (List Ent)
  | [], [] => some []
  | e :: l, m => oc2 (pullE e.key m) fun x r => oc (sortE l r) fun y => some (x :: y)
  | [], _ :: _ => none
noncomputable def mE (c : Nat) : List Ent → List Ent → Prs × Prs → Option (Prs × Prs)
  | [], [], p => some p
  | e :: l, f :: m, p => oc (mV c (nat_lit 40) e.val f.val p) (mE c l m)
  | _, _, _ => none
noncomputable def mO (c : Nat) (x y : AObj) (p : Prs × Prs) : Option (Prs × Prs) := match x, y with
  | .cells a _ _ _, .cells b _ _ _ => mL c a b p
  | .part a, .part b => mL c a b p
  | .map a _, .map b _ => oc (sortE a b) fun b => mE c a b p
  | .umap a _ _, .umap b _ _ => oc (sortE a b) fun b => mE c a b p
  | .map a _, .umap b _ _ => oc (sortE a b) fun b => mE c a b p
  | .umap a _ _, .map b _ => oc (sortE a b) fun b => mE c a b p
  | _, _ => none
noncomputable def mOld (c : Nat) (g h : T AObj) : List Nat → Prs × Prs → Option (Prs × Prs)
  | [], p => some p
  | i :: r, p => match g.get i, h.get i with
    | some x, some y => oc (mO c x y p) (mOld c g h r)
    | none, _ => mOld c g h r p
    | _, none => none
/-- Until nothing is open. -/
noncomputable def mAll (c : Nat) (g h : T AObj) (n : Nat) : Prs × Prs → Option Prs :=
  Nat.rec (motive := fun _ => Prs × Prs → Option Prs) (fun _ => none) (fun _ ih p => match p.2 with
    | [] => some p.1
    | (a, b) :: td => oc (g.get a) fun x => oc (h.get b) fun y => oc (mO c x y (p.1, td)) ih) n

/-- The look: under these pairs, are they alike? -/
noncomputable def idS (c : Nat) (ps : Prs) (a b : Nat) : Bool := bi (Nat.blt a c) (Nat.beq a b) (match lookP a ps with
  | some b' => Nat.beq b b'
  | none => false)
noncomputable def natO (a b : Option Nat) : Bool := match a, b with
  | none, none => true
  | some a, some b => Nat.beq a b
  | _, _ => false
noncomputable def likeV (c : Nat) (ps : Prs) (n : Nat) : AV → AV → Bool :=
  Nat.rec (motive := fun _ => AV → AV → Bool) (fun _ _ => false) (fun _ ih x y => match x, y with
    | .bool a, .bool b => a == b
    | .int k a, .int q b => kindEq k q && eqA a b
    | .sint k a, .sint q b => kindEq k q && seEq a b
    | .str a, .str b => bytesEq a b
    | .nilptr, .nilptr => true
    | .ptr i o, .ptr j u => idS c ps i j && Nat.beq o u
    | .nilslice, .nilslice => true
    | .slice i o l k d, .slice j u m q e => idS c ps i j && (Nat.beq o u && (Nat.beq l m && (natO k q && Nat.beq d e)))
    | .eslice, .eslice => true
    | .nilmap, .nilmap => true
    | .map i, .map j => idS c ps i j
    | .func f a b, .func g d e => Nat.beq f g && (allB ih a d && allB ih b e)
    | .nilFunc, .nilFunc => true
    | .iface t a, .iface u b => Nat.beq t u && ih a b
    | .nilIface, .nilIface => true
    | .agg a, .agg b => allB ih a b
    | .tuple a, .tuple b => allB ih a b
    | .pstr a, .pstr b => pcsEq a b
    | .fslice i a, .fslice j b => idS c ps i j && seEq a b
    | _, _ => false) n
noncomputable def likeL (c : Nat) (ps : Prs) (l m : List AV) : Bool := allB (likeV c ps (nat_lit 40)) l m
noncomputable def likeE (c : Nat) (ps : Prs) : List Ent → List Ent → Bool
  | [], [] => true
  | e :: l, f :: m => likeV c ps (nat_lit 40) e.key f.key && (likeV c ps (nat_lit 40) e.val f.val && likeE c ps l m)
  | _, _ => false
noncomputable def isE (l : List Nat) : Bool := match l with
  | [] => true
  | _ => false
noncomputable def bornsOk (c : Nat) : List Ent → List Nat → Bool
  | [], _ => true
  | e :: l, m => Nat.blt e.born c && (!memN e.born m && bornsOk c l (e.born :: m))
/-- Entries of a map, by new numbers. -/
noncomputable def numE : Nat → List Ent → List Ent
  | _, [] => []
  | n, e :: l => ⟨e.key, e.val, n⟩ :: numE (Nat.succ n) l
/-- An object as it is told of all the ways; t: the mark of its order. -/
noncomputable def allO (t : Nat) (o : AObj) : Option AObj := match o with
  | .cells a e f p => some (.cells a e f p)
  | .part a => some (.part a)
  | .map a _ => some (.umap (numE (nat_lit 0) a) a.length t)
  | .umap a _ _ => some (.umap (numE (nat_lit 0) a) a.length t)
  | _ => none
noncomputable def optB (x : Option (List Ent)) (k : List Ent → Bool) : Bool := match x with
  | none => false
  | some l => k l
noncomputable def fzEq (a b : Nat × Nat) : Bool := Nat.beq a.1 b.1 && Nat.beq a.2 b.2
/-- Is that what it says of this way's object? -/
noncomputable def likeO (c : Nat) (ps : Prs) (x y : AObj) : Bool := match x, y with
  | .cells a e f p, .cells b e' f' p' => likeL c ps a b && (Nat.beq e e' && (fzEq f f' && natO p p'))
  | .part a, .part b => likeL c ps a b
  | .umap a n _, .map b k => Nat.beq n a.length && (bornsOk k b [] && optB (sortE a b) (likeE c ps a))
  | .umap a n _, .umap b _ _ => Nat.beq n a.length && optB (sortE a b) (likeE c ps a)
  | _, _ => false

/-- The ids of a mark. -/
noncomputable def bitsOf (n : Nat) : Nat → List Nat → List Nat :=
  Nat.rec (motive := fun _ => Nat → List Nat → List Nat) (fun _ l => l) (fun _ ih m l => bi (Nat.beq m (nat_lit 0)) l (force (Nat.log2 m) fun i => ih (Nat.xor m (bit i)) (i :: l))) n
noncomputable def orBits : List Nat → Nat
  | [] => nat_lit 0
  | i :: r => Nat.lor (bit i) (orBits r)
noncomputable def low (c m : Nat) : Nat := Nat.mod m (bit c)
noncomputable def orAll (f : St → Nat) : List (List AV × St) → Nat → Nat
  | [], m => m
  | p :: r, m => orAll f r (Nat.lor m (f p.2))
noncomputable def maxAll (f : St → Nat) : List (List AV × St) → Nat → Nat
  | [], m => m
  | p :: r, m => maxAll f r (bi (Nat.blt m (f p.2)) (f p.2) m)
/-- What is laid: an id, its object. -/
noncomputable def putsO (h : T AObj) : List Nat → Nat → Option (List (Nat × Option AObj))
  | [], _ => some []
  | i :: r, t => match h.get i with
    | none => oc (putsO h r (Nat.succ t)) fun l => some ((i, none) :: l)
    | some o => oc (allO t o) fun o => oc (putsO h r (Nat.succ t)) fun l => some ((i, some o) :: l)
noncomputable def putAll (h : T AObj) : List (Nat × Option AObj) → T AObj
  | [] => h
  | p :: l => (putAll h l).put p.1 p.2
noncomputable def prOk (c m : Nat) (ps : Prs) : List (Nat × Nat) → Bool
  | [] => true
  | p :: r => Nat.ble c p.1 && (Nat.blt p.1 m && (Nat.ble c p.2 && (Nat.blt p.2 m && prOk c m ps r)))
noncomputable def onceQ : Prs → Bool
  | [] => true
  | p :: r => !lookQ p.2 r && onceQ r
/-- The look at one way. -/
noncomputable def wayOk (c m : Nat) (ps : Prs) (roots : List AV) (puts : List (Nat × Option AObj)) (x : List AV × St) : Bool :=
  prOk c m ps ps && (onceQ ps && (likeL c ps roots x.1 &&
    List.rec (motive := fun _ => Bool) true (fun p _ ih => (match p.2 with
      | none => true
      | some o => match (bi (Nat.blt p.1 c) (some p.1) (lookP p.1 ps)) with
        | none => false
        | some j => match x.2.h.get j with
          | none => false
          | some y => likeO c ps o y) && ih) puts))
noncomputable def idPrs : List Nat → Prs
  | [] => []
  | a :: r => (a, a) :: idPrs r
noncomputable def optP (x : Option Prs) (k : Prs → Bool) : Bool := match x with
  | none => false
  | some ps => k ps
noncomputable def waysOk (c m : Nat) (roots : List AV) (old : List Nat) (puts : List (Nat × Option AObj)) (g : T AObj) : List (List AV × St) → Bool
  | [] => true
  | x :: r => optP (oc (mOld c g x.2.h old ([], [])) fun p => oc (mL c roots x.1 p) fun p => mAll c g x.2.h (nat_lit 10000) p) (fun ps => wayOk c m ps roots puts x) && waysOk c m roots old puts g r
noncomputable def fstP : Prs → List Nat
  | [] => []
  | p :: r => p.1 :: fstP r
noncomputable def marksIn (c m : Nat) : Nat := Nat.sub (bit m) (bit c)
/-- Many ways are told as one. -/
noncomputable def mrg (base : St) (ways : List (List AV × St)) : Option St := match ways with
  | x :: y :: _ => force (low base.c (orAll St.w ways (nat_lit 0))) fun w0 => force (maxAll St.c ways (nat_lit 0)) fun m =>
    let old := bitsOf m w0 []
    bc (Nat.beq (orBits old) w0) (oc (oc (mOld base.c x.2.h y.2.h old ([], [])) fun p => oc (mL base.c x.1 y.1 p) fun p => mAll base.c x.2.h y.2.h (nat_lit 10000) p) fun ps =>
      bc (prOk base.c m ps ps) (oc (putsO x.2.h (old ++ fstP ps) m) fun puts => force (Nat.add m puts.length) fun m' =>
        bc (Nat.ble (nat_lit 64) base.c) (bc (Nat.ble base.c m) (bc (waysOk base.c m x.1 old puts x.2.h ways)
          (some ⟨m', putAll base.h puts, Nat.lor (orAll St.l ways (nat_lit 0)) (marksIn base.c m'), Nat.lor (orAll St.w ways (nat_lit 0)) (marksIn base.c m'), base.o⟩)))))
  | _ => none

/-- Which temporaries does a code look at? -/
noncomputable def usesL : List Tmp → Nat → Nat
  | [], m => m
  | t :: r, m => usesL r (Nat.lor m (bit t))
noncomputable def usesO (ops : Array Oper) : List Oper → Nat → Nat
  | [], m => m
  | o :: r, m => usesO ops r (usesL (o.looksAt ops) m)
noncomputable def usesX : Operand → Nat → Nat
  | .tmp t, m => Nat.lor m (bit t)
  | _, m => m
noncomputable def uses : Code → Nat → Nat
  | .region _ ops _, m => usesO ops ops.toList m
  | .seq a b, m => uses b (uses a m)
  | .cond x a b, m => uses b (uses a (usesX x m))
  | .block _ a, m => uses a m
  | .loop a, m => uses a m
  | .scope a, m => uses a m
  | .rangeFunc x _ a b, m => uses b (uses a (usesX x m))
  | _, m => m
noncomputable def usesR : List ResultVar → Nat → Nat
  | [], m => m
  | .tmp t :: r, m => usesR r (Nat.lor m (bit t))
  | .cell t _ :: r, m => usesR r (Nat.lor m (bit t))
noncomputable def liveT (m : Nat) (a : T AV) (n : Nat) : List Tmp :=
  Nat.rec (motive := fun _ => List Tmp) [] (fun t ih => bi (Nat.testBit m t) (Option.rec (motive := fun _ => List Tmp) ih (fun _ => t :: ih) (a.get t)) ih) n
noncomputable def rootsOf (a : T AV) : List Tmp → Option (List AV)
  | [] => some []
  | t :: r => oc (a.get t) fun v => oc (rootsOf a r) fun l => some (v :: l)
noncomputable def putRoots : List Tmp → List AV → T AV → T AV
  | t :: r, v :: l, a => (putRoots r l a).put t (some v)
  | _, _, a => a
/-- All of them went on; none is in a range over a function. -/
noncomputable def goesOn : List Alt → Bool
  | [] => true
  | a :: r => altC a (fun e fr _ => (match e with | .normal => isE fr.m | _ => false)) && goesOn r
noncomputable def waysOf (lv : List Tmp) : List Alt → Option (List (List AV × St))
  | [] => some []
  | a :: r => altC a fun _ fr s => oc (rootsOf fr.a lv) fun v => oc (waysOf lv r) fun l => some ((v, s) :: l)
noncomputable def tryM (base : St) (nt m : Nat) (l : List Alt) : Option (Fr × St) := match l with
  | [] => none
  | a :: _ => bc (goesOn l) (altC a fun _ fr _ => let lv := liveT m fr.a nt; oc (waysOf lv l) fun ways => oc (rootsOf fr.a lv) fun v => oc (mrg base ways) fun T => some (⟨putRoots lv v .e, []⟩, T))
noncomputable def finL (P : Program) (fn : Func) : List Alt → Option (List (List AV × St))
  | [] => some []
  | a :: r => altC a fun e fr s => match e with
    | .exit _ => none
    | _ => oc2 (finB P fn fr s) fun v s => oc (finL P fn r) fun l => some (([v], s) :: l)
/-- The end of a call. -/
noncomputable def endB (P : Program) (fn : Func) (base : St) (l : List Alt) : R := loneC l
  (fun e fr s => match e with
    | .exit _ => none
    | .normal => finB P fn fr s
    | .ret => finB P fn fr s)
  (oc (finL P fn l) fun ways => match ways with
    | ([v], _) :: _ => oc (mrg base ways) fun T => some (v, T)
    | _ => none)
noncomputable def orM (x : Option (Fr × St)) (l : List Alt) : List Alt := Option.rec (motive := fun _ => List Alt) l (fun p => [(.normal, p.1, p.2)]) x
noncomputable def normL (base : St) (nt : Nat) (m : Nat) (l : List Alt) : List Alt := loneC l (fun _ _ _ => l) (orM (tryM base nt m l) l)
noncomputable def onN (e : AX) : Bool := match e with
  | .normal => true
  | _ => false
noncomputable def allN : List Alt → Bool
  | [] => true
  | a :: r => altC a (fun e _ _ => onN e) && allN r
noncomputable def noneN : List Alt → Bool
  | [] => true
  | a :: r => altC a (fun e _ _ => !onN e) && noneN r
/-- A body, from its top: where there are many ways, they are told as one as soon as that can be. -/
noncomputable def topS (P : Program) (r : Rec) (fn : Func) (base : St) (n : Nat) : Code → List Alt → R :=
  Nat.rec (motive := fun _ => Code → List Alt → R) (fun _ _ => none) (fun _ ih c l => match c with
    | .seq x y => oc (flatC (fun _ fr s => r.code fn.ntmps none x fr s) l) fun l => bi (allN l)
        (loneC l (fun e fr s => s.force fun s => ih y [(e, fr, s)]) (ih y (normL base fn.ntmps (uses y (usesR fn.results.toList (nat_lit 0))) l)))
        (bc (noneN l) (endB P fn base l))
    | c => oc (flatC (fun _ fr s => r.code fn.ntmps none c fr s) l) (endB P fn base)) n
noncomputable def bareS (s : St) : St := ⟨s.c, s.h, nat_lit 0, nat_lit 0, s.o⟩
noncomputable def evBody (P : Program) (r : Rec) (fn : Func) (c : Code) (args : List AV) (s : St) : R :=
  bc (Nat.ble args.length fn.ntmps) (oc2 (topS P r fn (bareS s) (nat_lit 100000) c [(.normal, ⟨argsA (nat_lit 0) args .e, []⟩, bareS s)]) fun v s' => some (v, ⟨s'.c, s'.h, Nat.lor s.l s'.l, Nat.lor s.w s'.w, s'.o⟩))
noncomputable def paramsA (nt : Nat) : List Tmp → List AV → T AV → Option (T AV)
  | [], [], a => some a
  | t :: ts, v :: vs, a => match Nat.blt t nt with
    | true => paramsA nt ts vs (a.put t (some v))
    | false => none
  | _, _, _ => none
noncomputable def roundC (x : C) (k : AX → Fr → St → R) : R := oc x fun l => loneC l k none
noncomputable def endR (l : Nat) (e : AX) (s3 : St) : R := oc (s3.h.get l) fun o => loopC o fun _ _ nt' a' ps' as' bo' d' => match e with
  | .normal => some (.bool true, s3.set l (some (.loop .ready none nt' a' ps' as' bo' d')))
  | .ret => some (.bool false, s3.set l (some (.loop .done (some .ret) nt' a' ps' as' bo' d')))
  | .exit id => some (.bool false, s3.set l (some (.loop .done (some (.exit id)) nt' a' ps' as' bo' d')))
/-- A round of a range over a function. -/
noncomputable def evYield (r : Rec) (l : Nat) (args : List AV) (s : St) : R :=
  oc (s.h.get l) fun o => loopC o fun _ _ nt a ps assign body _ => oc (paramsA nt ps args a) fun a0 => roundC (r.code nt (some l) assign ⟨a0, []⟩ (s.see l)) fun e fr1 s1 => match e with
    | .normal => oc (s1.h.get l) fun o => loopC o fun st pend nt' a' ps' as' bo' d' => bc (isReady st) (roundC (r.code nt (some l) body fr1 (s1.set l (some (.loop .busy pend nt' a' ps' as' bo' d')))) fun e _ s3 => endR l e s3)
    | _ => none
abbrev Ctr := FuncId → Option (List AV → St → R)
/-- A function, as it is called. -/
structure Cb where
  run : Rec → List AV → St → R
noncomputable def callS (P : Program) (ctr : Ctr) (f : FuncId) : Cb :=
  match ctr f with
  | some g => ⟨fun _ => g⟩
  | none => match P.funcs[f]? with
    | some fn => match fn.body with
      | some c => ⟨fun r => evBody P r fn c⟩
      | none => ⟨fun _ _ _ => none⟩
    | none => ⟨fun _ _ _ => none⟩
noncomputable def evCall (P : Program) (ctr : Ctr) (r : Rec) (f : FuncId) (args : List AV) (s : St) : R := (callS P ctr f).run r args s

noncomputable def ev (P : Program) (ctr : Ctr) (n : Nat) : Rec :=
  Nat.rec (motive := fun _ => Rec) ⟨fun _ _ _ => none, fun _ _ _ => none, fun _ _ _ _ _ => none⟩ (fun _ r => ⟨evCall P ctr r, evYield r, evCode P r⟩) n

end Ev
end Go.Proofs.YtbjllaknnpbkkaaGreatDoor
