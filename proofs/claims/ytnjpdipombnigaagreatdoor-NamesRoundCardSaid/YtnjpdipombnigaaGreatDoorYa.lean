/-
  The evaluator: abstract values, the heap of facts, the operations. No proof here.
  The program that is spoken of.
  The evaluator: regions, code, calls. No proof here.
-/
import Derived.Orders
import GoSem.Extern.Table
import Derived.Test.YtnjpdipombnigaaGreatDoorProg
namespace Go.Proofs.YtnjpdipombnigaaGreatDoor
namespace Ev

/-- A node of eight. -/
inductive N (β : Type) where
  | mk (c0 c1 c2 c3 c4 c5 c6 c7 : β)

/-- What is there is handed on. -/
noncomputable def oc {α β : Type} (x : Option α) (k : α → Option β) : Option β := Option.rec (motive := fun _ => Option β) none k x
noncomputable def oc2 {α β γ : Type} (x : Option (α × β)) (k : α → β → Option γ) : Option γ := Option.rec (motive := fun _ => Option γ) none (fun p => Prod.rec (motive := fun _ => Option γ) (fun a b => k a b) p) x
noncomputable def bc {β : Type} (b : Bool) (k : Option β) : Option β := Bool.rec (motive := fun _ => Option β) none k b
noncomputable def bi {β : Type} (b : Bool) (x y : β) : β := Bool.rec (motive := fun _ => β) y x b

/-- A number is forced ahead of what is done with it. -/
noncomputable def force {α : Type} (n : Nat) (k : Nat → α) : α := Nat.rec (motive := fun _ => α) (k 0) (fun m _ => k (Nat.succ m)) n

/-- How a place of a node is read; how it is turned. -/
inductive Pk (β : Type) where
  | mk (get : N β → β) (set : N β → (β → β) → N β)
noncomputable def Pk.by {β γ : Type} (p : Pk β) (k : (N β → β) → (N β → (β → β) → N β) → γ) : γ := Pk.rec (motive := fun _ => γ) k p
noncomputable def Pk.get {β : Type} (p : Pk β) : N β → β := p.by fun g _ => g
noncomputable def Pk.set {β : Type} (p : Pk β) : N β → (β → β) → N β := p.by fun _ s => s
noncomputable def pick {β : Type} (d : Nat) : Pk β :=
  bi (Nat.beq d (nat_lit 0)) ⟨fun n => N.rec (motive := fun _ => β) (fun c0 c1 c2 c3 c4 c5 c6 c7 => c0) n, fun n f => N.rec (motive := fun _ => N β) (fun c0 c1 c2 c3 c4 c5 c6 c7 => N.mk (f c0) c1 c2 c3 c4 c5 c6 c7) n⟩ (
  bi (Nat.beq d (nat_lit 1)) ⟨fun n => N.rec (motive := fun _ => β) (fun c0 c1 c2 c3 c4 c5 c6 c7 => c1) n, fun n f => N.rec (motive := fun _ => N β) (fun c0 c1 c2 c3 c4 c5 c6 c7 => N.mk c0 (f c1) c2 c3 c4 c5 c6 c7) n⟩ (
  bi (Nat.beq d (nat_lit 2)) ⟨fun n => N.rec (motive := fun _ => β) (fun c0 c1 c2 c3 c4 c5 c6 c7 => c2) n, fun n f => N.rec (motive := fun _ => N β) (fun c0 c1 c2 c3 c4 c5 c6 c7 => N.mk c0 c1 (f c2) c3 c4 c5 c6 c7) n⟩ (
  bi (Nat.beq d (nat_lit 3)) ⟨fun n => N.rec (motive := fun _ => β) (fun c0 c1 c2 c3 c4 c5 c6 c7 => c3) n, fun n f => N.rec (motive := fun _ => N β) (fun c0 c1 c2 c3 c4 c5 c6 c7 => N.mk c0 c1 c2 (f c3) c4 c5 c6 c7) n⟩ (
  bi (Nat.beq d (nat_lit 4)) ⟨fun n => N.rec (motive := fun _ => β) (fun c0 c1 c2 c3 c4 c5 c6 c7 => c4) n, fun n f => N.rec (motive := fun _ => N β) (fun c0 c1 c2 c3 c4 c5 c6 c7 => N.mk c0 c1 c2 c3 (f c4) c5 c6 c7) n⟩ (
  bi (Nat.beq d (nat_lit 5)) ⟨fun n => N.rec (motive := fun _ => β) (fun c0 c1 c2 c3 c4 c5 c6 c7 => c5) n, fun n f => N.rec (motive := fun _ => N β) (fun c0 c1 c2 c3 c4 c5 c6 c7 => N.mk c0 c1 c2 c3 c4 (f c5) c6 c7) n⟩ (
  bi (Nat.beq d (nat_lit 6)) ⟨fun n => N.rec (motive := fun _ => β) (fun c0 c1 c2 c3 c4 c5 c6 c7 => c6) n, fun n f => N.rec (motive := fun _ => N β) (fun c0 c1 c2 c3 c4 c5 c6 c7 => N.mk c0 c1 c2 c3 c4 c5 (f c6) c7) n⟩ (
  ⟨fun n => N.rec (motive := fun _ => β) (fun c0 c1 c2 c3 c4 c5 c6 c7 => c7) n, fun n f => N.rec (motive := fun _ => N β) (fun c0 c1 c2 c3 c4 c5 c6 c7 => N.mk c0 c1 c2 c3 c4 c5 c6 (f c7)) n⟩)))))))
/-- A trie: numbers below 64 in two rounds, those below 262144 in six. -/
inductive T (α : Type) where
  | mk (lo : N (N (Option α))) (hi : N (N (N (N (N (N (Option α)))))))
noncomputable def all8 {β : Type} (x : β) : N β := .mk x x x x x x x x
noncomputable def T.e {α : Type} : T α := .mk (all8 (all8 none)) (all8 (all8 (all8 (all8 (all8 (all8 none))))))
/-- How a number is read; how it is turned. -/
inductive Pt (α : Type) where
  | mk (get : T α → Option α) (put : T α → Option α → T α)
noncomputable def digit (k : Nat) : Nat := Nat.mod k (nat_lit 8)
noncomputable def pathLo (α : Type) (k : Nat) : Pt α :=
  force (digit k) fun d0 => force (digit (Nat.div k (nat_lit 8))) fun d1 =>
    (pick d0).by fun g0 s0 => (pick d1).by fun g1 s1 =>
      .mk (fun t => T.rec (motive := fun _ => Option α) (fun lo _ => g0 (g1 lo)) t)
        (fun t x => T.rec (motive := fun _ => T α) (fun lo hi => .mk (s1 lo fun t => s0 t fun _ => x) hi) t)
noncomputable def pathHi (α : Type) (k : Nat) : Pt α :=
  force (digit k) fun d0 => force (digit (Nat.div k (nat_lit 8))) fun d1 => force (digit (Nat.div k (nat_lit 64))) fun d2 => force (digit (Nat.div k (nat_lit 512))) fun d3 => force (digit (Nat.div k (nat_lit 4096))) fun d4 => force (digit (Nat.div k (nat_lit 32768))) fun d5 =>
    (pick d0).by fun g0 s0 => (pick d1).by fun g1 s1 => (pick d2).by fun g2 s2 => (pick d3).by fun g3 s3 => (pick d4).by fun g4 s4 => (pick d5).by fun g5 s5 =>
      .mk (fun t => T.rec (motive := fun _ => Option α) (fun _ hi => g0 (g1 (g2 (g3 (g4 (g5 hi)))))) t)
        (fun t x => T.rec (motive := fun _ => T α) (fun lo hi => .mk lo (s5 hi fun t => s4 t fun t => s3 t fun t => s2 t fun t => s1 t fun t => s0 t fun _ => x)) t)
noncomputable def path (α : Type) (k : Nat) : Pt α := bi (Nat.blt k (nat_lit 64)) (pathLo α k) (bi (Nat.blt k (nat_lit 262144)) (pathHi α k) (.mk (fun _ => none) (fun t _ => t)))
noncomputable def T.get {α : Type} (t : T α) (k : Nat) : Option α := Pt.rec (motive := fun _ => Option α) (fun g _ => g t) (path α k)
noncomputable def T.put {α : Type} (t : T α) (k : Nat) (x : Option α) : T α := Pt.rec (motive := fun _ => T α) (fun _ p => p t x) (path α k)
noncomputable def T.force {α β : Type} (t : T α) (k : T α → β) : β := T.rec (motive := fun _ => β) (fun lo hi => k (.mk lo hi)) t

/-- Whole numbers that hang on what came in. -/
inductive SE where
  | var (i : Nat)
  | lit (n : Int)
  | wrap (k : IntKind) (a : SE)
  | bin (op : BinOp) (k : IntKind) (a b : SE)
  | fn (k : Nat) (a b : SE)
  | lin (n : Int) (l : List (Nat × Int))
  deriving Inhabited
/-- A piece of a text: bytes; a number in tens; one byte of a number; a text that came in, of n bytes, m at most, that are numbers from b on. -/
inductive Pc where
  | lit (l : List UInt8)
  | dec (e : SE)
  | byt (e : SE)
  | opq (b : Nat) (n : SE) (m : Nat)
  deriving Inhabited
/-- Abstract values: blocks by ids; a slice's capacity is known, or runs to the end of its row less 'dr' elements. An 'aslice' came in: where in its block it begins nobody knows. Of an 'oslice' nothing is known but its length; 'opq' is a value that stands for data of a number; 'psl' a slice of n elements whose cells are told; 'any' is some text. A 'pslice' is told by variables: block, place and length. -/
inductive AV where
  | bool (b : Bool)
  | int (k : IntKind) (n : Int)
  | sint (k : IntKind) (e : SE)
  | str (s : List UInt8)
  | nilptr
  | ptr (i off : Nat)
  | nilslice
  | slice (i off len : Nat) (cap : Option Nat) (dr : Nat)
  | eslice
  | nilmap
  | map (i : Nat)
  | func (f : FuncId) (first captured : List AV)
  | nilFunc
  | yield (i : Nat)
  | iface (t : TypeId) (v : AV)
  | nilIface
  | agg (l : List AV)
  | tuple (l : List AV)
  | pstr (ps : List Pc)
  | plen (ps : List Pc)
  | bslice (i : Nat) (ps : List Pc)
  | fslice (i : Nat) (n : SE)
  | aptr (i off : Nat)
  | aslice (i off n : Nat)
  | oslice (n : SE)
  | any
  | pslice (k : Nat)
  | opq (k : Nat)
  | psl (n : Nat) (l : List AV)
  | rsl (i : Nat) (n : SE)
  | optr (k : Nat) (i : SE) (o : Nat)
  deriving Inhabited

/-- What a call, or an operation, comes to: of a function (an operation, with types), on these arguments, this. -/
structure Def where
  f : Nat
  ts : List Nat
  args : List AV
  res : AV
/-- What is taken for decided: of equal numbers, of one below another; that a number is small; how expressions are made; what calls come to. -/
structure Orc where
  eq : SE → SE → Option Bool
  lt : SE → SE → Option Bool
  small : SE → Bool
  wrap : IntKind → SE → SE
  bin : BinOp → IntKind → SE → SE → SE
  defs : List Def
  tabs : List (Nat × List AV)
noncomputable def noOrc : Orc := ⟨fun _ _ => none, fun _ _ => none, fun _ => false, .wrap, .bin, [], []⟩

structure Ent where
  key : AV
  val : AV
  born : Nat

inductive AObj where
  | cells (vs : List AV) (elem : TypeId) (fz : Nat × Nat) (op : Option Nat)
  | tab (vs : List AV)
  | map (es : List Ent) (clock : Nat)
  | iter (m : Option Nat) (since : Nat) (seen : List Nat) (stepped : Nat)
  | umap (es : List Ent) (clock : Nat) (t : Nat)
  | uiter (m : Nat) (since : Nat) (seen : List Nat) (stepped : Nat) (t : Nat)
  | siter (s : List UInt8) (pos : Nat)
  | loop (st : LoopState) (pend : Option Code) (nt : Nat) (a : T AV) (ps : List Tmp) (assign body : Code) (d : Nat)
  | defd (open_ : Bool)
  | part (vs : List AV)
  | buf (ps : List Pc) (e : TypeId)
  | flat (n v : SE) (e : TypeId)
  | row (vs : List AV)
  | acc (k : Nat) (vs : List AV) (n : SE) (e : TypeId) (z : Nat)

structure St where
  c : Nat
  h : T AObj
  l : Nat
  w : Nat
  o : Orc

noncomputable def bit (i : Nat) : Nat := Nat.shiftLeft (nat_lit 1) i
noncomputable def St.see (s : St) (i : Nat) : St := ⟨s.c, s.h, Nat.lor s.l (bit i), s.w, s.o⟩
noncomputable def St.set (s : St) (i : Nat) (o : Option AObj) : St := ⟨s.c, s.h.put i o, Nat.lor s.l (bit i), Nat.lor s.w (bit i), s.o⟩
noncomputable def St.new (s : St) (o : AObj) : St := ⟨Nat.succ s.c, s.h.put s.c (some o), Nat.lor s.l (bit s.c), Nat.lor s.w (bit s.c), s.o⟩

noncomputable def St.force {α : Type} (s : St) (k : St → α) : α :=
  Ev.force s.c fun c => Ev.force s.l fun l => Ev.force s.w fun w => s.h.force fun h => k ⟨c, h, l, w, s.o⟩

/-- A value that is written in the program's text, or is a zero. -/
noncomputable def ofVal1 : Value → Option AV
  | .bool b => some (.bool b)
  | .int k n => some (.int k n)
  | .string s => some (.str s.data.toList)
  | .pointer none => some .nilptr
  | .slice none 0 0 => some .nilslice
  | .map none => some .nilmap
  | .nilFunc => some .nilFunc
  | .nilIface => some .nilIface
  | _ => none
noncomputable def ofVals : List Value → Option (List AV)
  | [] => some []
  | v :: r => match ofVal1 v, ofVals r with
    | some a, some l => some (a :: l)
    | _, _ => none
noncomputable def ofVal : Value → Option AV
  | .agg cs => (ofVals cs.toList).map .agg
  | .tuple cs => (ofVals cs.toList).map .tuple
  | v => ofVal1 v

noncomputable def AV.ptrC {β : Type} (v : AV) (k : Nat → Nat → Option β) : Option β := match v with
  | .ptr i off => k i off
  | _ => none
/-- An address, of a block of ours or in a row that came in. -/
noncomputable def AV.ptr2C {β : Type} (v : AV) (k r : Nat → Nat → Option β) : Option β := match v with
  | .ptr i off => k i off
  | .aptr i off => r i off
  | _ => none
noncomputable def AV.intC {β : Type} (v : AV) (k : IntKind → Int → Option β) : Option β := match v with
  | .int q n => k q n
  | _ => none
noncomputable def AV.boolC {β : Type} (v : AV) (x y : Option β) : Option β := match v with
  | .bool true => x
  | .bool false => y
  | _ => none
noncomputable def AV.tupC {β : Type} (v : AV) (k : List AV → Option β) : Option β := match v with
  | .tuple l => k l
  | _ => none
noncomputable def AV.one : AV → Bool
  | .agg _ => false
  | .tuple _ => false
  | _ => true
/-- The cells of a value. -/
noncomputable def AV.cells : AV → List AV
  | .agg l => l
  | v => [v]

noncomputable def isAggB (P : Program) (t : TypeId) : Option Bool :=
  match P.underlying t with
  | some (.struct _) => some true
  | some (.array _ _) => some true
  | some _ => some false
  | none => none
noncomputable def szOf (P : Program) (t : TypeId) : Option Nat := (P.info? t).map (·.size)
noncomputable def bytesB (P : Program) (t : TypeId) : Option Nat := (P.info? t).map (·.bytes)
noncomputable def zeroOf (P : Program) (t : TypeId) : Option AV :=
  match P.info? t with
  | some i => match i.zero with
    | some v => ofVal v
    | none => none
  | none => none

/-- Just n of them, from the front. -/
noncomputable def takeN (n : Nat) : List AV → Option (List AV) :=
  Nat.rec (motive := fun _ => List AV → Option (List AV)) (fun _ => some [])
    (fun _ ih l => List.rec (motive := fun _ => Option (List AV)) none (fun x t _ => oc (ih t) fun r => some (x :: r)) l) n
noncomputable def dropN (n : Nat) : List AV → List AV :=
  Nat.rec (motive := fun _ => List AV → List AV) (fun l => l)
    (fun _ ih l => List.rec (motive := fun _ => List AV) [] (fun _ t _ => ih t) l) n
/-- New cells at a place, none beyond the end. -/
noncomputable def setFrom : Nat → List AV → List AV → Option (List AV)
  | _, [], l => some l
  | 0, y :: ys, _ :: l => match setFrom 0 ys l with
    | some r => some (y :: r)
    | none => none
  | n + 1, ys, x :: l => match setFrom n ys l with
    | some r => some (x :: r)
    | none => none
  | _, _ :: _, [] => none
noncomputable def allOne : List AV → Bool
  | [] => true
  | x :: l => match x.one with
    | true => allOne l
    | false => false

abbrev R := Option (AV × St)

/-- The cells of a block. -/
noncomputable def cellsAt (s : St) (i : Nat) : Option (List AV) :=
  match s.h.get i with
  | some (.cells vs _ _ _) => some vs
  | some (.tab vs) => some vs
  | _ => none
noncomputable def loadN (s : St) (i off n : Nat) : Option (List AV) := oc (cellsAt s i) fun vs => takeN n (dropN off vs)
noncomputable def headA (l : List AV) (k : AV → R) : R := match l with
  | [v] => k v
  | _ => none
noncomputable def loadVarA (P : Program) (t : TypeId) (i off : Nat) (s : St) : R :=
  oc (isAggB P t) fun b => bi b
    (oc (szOf P t) fun n => oc (loadN s i off n) fun l => some (.agg l, s.see i))
    (oc (loadN s i off (nat_lit 1)) fun l => headA l fun v => some (v, s.see i))
noncomputable def rowC {β : Type} (o : AObj) (k : List AV → Option β) : Option β := match o with
  | .row vs => k vs
  | _ => none
noncomputable def rowN (s : St) (i off n : Nat) : Option (List AV) := oc (s.h.get i) fun o => rowC o fun vs => takeN n (dropN off vs)
noncomputable def loadRowA (P : Program) (t : TypeId) (s : St) (i off : Nat) : R :=
  oc (isAggB P t) fun b => bi b
    (oc (szOf P t) fun n => oc (rowN s i off n) fun l => some (.agg l, s.see i))
    (oc (rowN s i off (nat_lit 1)) fun l => headA l fun v => some (v, s.see i))
/-- May the cells from off, n of them, be written? -/
noncomputable def unfrozen (fz : Nat × Nat) (off n : Nat) : Bool := Nat.ble fz.2 off || Nat.ble (off + n) fz.1 || Nat.ble fz.2 fz.1
noncomputable def cellsC {β : Type} (o : AObj) (k : List AV → TypeId → Nat × Nat → Option Nat → Option β) : Option β := match o with
  | .cells vs e fz op => k vs e fz op
  | _ => none
noncomputable def mapC {β : Type} (o : AObj) (k : List Ent → Nat → Option β) : Option β := match o with
  | .map es clock => k es clock
  | _ => none
/-- A map, in its order; or in any. -/
noncomputable def mapU {β : Type} (o : AObj) (k : List Ent → Nat → Option β) (u : List Ent → Nat → Nat → Option β) : Option β := match o with
  | .map es clock => k es clock
  | .umap es clock t => u es clock t
  | _ => none
noncomputable def iterU {β : Type} (o : AObj) (k : Option Nat → Nat → List Nat → Nat → Option β) (u : Nat → Nat → List Nat → Nat → Nat → Option β) : Option β := match o with
  | .iter m since seen last => k m since seen last
  | .uiter m since seen last t => u m since seen last t
  | _ => none
noncomputable def iterC {β : Type} (o : AObj) (k : Option Nat → Nat → List Nat → Nat → Option β) : Option β := match o with
  | .iter m since seen last => k m since seen last
  | _ => none
noncomputable def siterC {β : Type} (o : AObj) (k : List UInt8 → Nat → Option β) : Option β := match o with
  | .siter l pos => k l pos
  | _ => none
noncomputable def storeN (s : St) (i off : Nat) (l : List AV) : Option St :=
  oc (s.h.get i) fun o => cellsC o fun vs e fz op => bc (unfrozen fz off l.length) (bc (allOne l) (oc (setFrom off l vs) fun vs' => some (s.set i (some (.cells vs' e fz op)))))
noncomputable def undefA : AV := .tuple []
noncomputable def storeVarA (P : Program) (t : TypeId) (i off : Nat) (v : AV) (s : St) : R :=
  oc (szOf P t) fun n => bc (Nat.beq v.cells.length n) (oc (storeN s i off v.cells) fun s' => some (undefA, s'))
noncomputable def newA (s : St) (e : TypeId) (l : List AV) : R := bc (allOne l) (some (.ptr s.c (nat_lit 0), s.new (.cells l e (nat_lit 0, nat_lit 0) none)))

noncomputable def fillA (place : Nat → Option (Nat × Nat)) (cells : List AV) : List (Nat × AV) → Option (List AV)
  | [] => some cells
  | (i, v) :: rest => oc2 (place i) fun off size => bc (Nat.beq v.cells.length size) (bc (Nat.blt (nat_lit 0) size) (bc (allOne v.cells) (oc (setFrom off v.cells cells) fun cells' => fillA place cells' rest)))
noncomputable def placesOf (P : Program) : List Field → Option (List (Nat × Nat))
  | [] => some []
  | f :: r => match szOf P f.type, placesOf P r with
    | some n, some l => some ((f.offset, n) :: l)
    | _, _ => none
noncomputable def nth {α : Type} (l : List α) : Nat → Option α :=
  List.rec (motive := fun _ => Nat → Option α) (fun _ => none)
    (fun x _ ih n => Nat.rec (motive := fun _ => Option α) (some x) (fun n' _ => ih n') n) l
noncomputable def repL (z : List AV) : Nat → List AV
  | 0 => []
  | n + 1 => z ++ repL z n

noncomputable def cat (a b : List AV) : List AV := a ++ b

structure Og where
  get : T AV → Option AV
noncomputable def opS : Operand → Og
  | .tmp t => ⟨fun a => a.get t⟩
  | .const v => ⟨fun _ => ofVal v⟩
  | .global g => bi (Nat.blt g 64) ⟨fun _ => some (.ptr g 0)⟩ ⟨fun _ => none⟩
  | .func f => ⟨fun _ => some (.func f [] [])⟩
noncomputable def opd (a : T AV) (x : Operand) : Option AV := (opS x).get a
noncomputable def opds (a : T AV) (l : List Operand) : Option (List AV) :=
  List.rec (motive := fun _ => Option (List AV)) (some []) (fun x _ ih => oc (opd a x) fun v => oc ih fun l => some (v :: l)) l
noncomputable def partsA (a : T AV) (l : List (Nat × Operand)) : Option (List (Nat × AV)) :=
  List.rec (motive := fun _ => Option (List (Nat × AV))) (some []) (fun p _ ih => oc (opd a p.2) fun v => oc ih fun l => some ((p.1, v) :: l)) l

noncomputable def bytesEq : List UInt8 → List UInt8 → Bool
  | [], [] => true
  | a :: x, b :: y => match Nat.beq a.toNat b.toNat with
    | true => bytesEq x y
    | false => false
  | _, _ => false
noncomputable def bytesLt : List UInt8 → List UInt8 → Bool
  | _, [] => false
  | [], _ :: _ => true
  | a :: x, b :: y => match Nat.blt a.toNat b.toNat with
    | true => true
    | false => match Nat.beq a.toNat b.toNat with
      | true => bytesLt x y
      | false => false

/-- The integer of a kind: as it is where it fits. -/
noncomputable def wrapA (k : IntKind) (n : Int) : Int :=
  match n with
  | .ofNat m => match k with
    | .i64 => bif Nat.blt m (nat_lit 9223372036854775808) then n else k.wrap n
    | .u8 => bif Nat.blt m (nat_lit 256) then n else k.wrap n
    | .u32 => bif Nat.blt m (nat_lit 4294967296) then n else k.wrap n
    | .u64 => bif Nat.blt m (nat_lit 18446744073709551616) then n else k.wrap n
    | _ => k.wrap n
  | .negSucc m => match k with
    | .i64 => bif Nat.blt m (nat_lit 9223372036854775808) then n else k.wrap n
    | _ => k.wrap n
/-- Whole numbers compared. -/
noncomputable def ltA (x y : Int) : Bool :=
  match x, y with
  | .ofNat a, .ofNat b => Nat.blt a b
  | .negSucc _, .ofNat _ => true
  | .ofNat _, .negSucc _ => false
  | .negSucc a, .negSucc b => Nat.blt b a
noncomputable def eqA (x y : Int) : Bool :=
  match x, y with
  | .ofNat a, .ofNat b => Nat.beq a b
  | .negSucc a, .negSucc b => Nat.beq a b
  | _, _ => false

noncomputable def intOp (op : BinOp) (k : IntKind) (x y : Int) : Option AV :=
  match op with
  | .add => some (.int k (wrapA k (x + y)))
  | .sub => some (.int k (wrapA k (x - y)))
  | .mul => some (.int k (wrapA k (x * y)))
  | .quo => if y = 0 then none else some (.int k (wrapA k (x.tdiv y)))
  | .rem => if y = 0 then none else some (.int k (x.tmod y))
  | .and => some (.int k (k.wrap (BitVec.ofInt k.bits x &&& BitVec.ofInt k.bits y).toNat))
  | .or => some (.int k (k.wrap (BitVec.ofInt k.bits x ||| BitVec.ofInt k.bits y).toNat))
  | .xor => some (.int k (k.wrap (BitVec.ofInt k.bits x ^^^ BitVec.ofInt k.bits y).toNat))
  | .andNot => some (.int k (k.wrap (BitVec.ofInt k.bits x &&& ~~~ BitVec.ofInt k.bits y).toNat))
  | .eql => some (.bool (eqA x y))
  | .neq => some (.bool (!eqA x y))
  | .lss => some (.bool (ltA x y))
  | .leq => some (.bool (!ltA y x))
  | .gtr => some (.bool (ltA y x))
  | .geq => some (.bool (!ltA x y))
  | _ => none
noncomputable def shiftOp (op : BinOp) (k : IntKind) (x y : Int) : Option AV :=
  if y < 0 then none else
  match op with
  | .shl => some (.int k (k.wrap (x * 2 ^ (min y.toNat k.bits))))
  | .shr => some (.int k (x.fdiv (2 ^ (min y.toNat k.bits))))
  | _ => none
noncomputable def strOp (op : BinOp) (x y : List UInt8) : Option AV :=
  match op with
  | .add => if 1000000000 < x.length + y.length then none else some (.str (x ++ y))
  | .eql => some (.bool (bytesEq x y))
  | .neq => some (.bool (!bytesEq x y))
  | .lss => some (.bool (bytesLt x y))
  | .leq => some (.bool (bytesLt x y || bytesEq x y))
  | .gtr => some (.bool (!(bytesLt x y || bytesEq x y)))
  | .geq => some (.bool (!bytesLt x y))
  | _ => none
/-- Is it nil? Of what may be compared with nil. -/
noncomputable def nilEq : AV → AV → Option Bool
  | .nilptr, .nilptr => some true
  | .nilptr, .ptr _ _ => some false
  | .ptr _ _, .nilptr => some false
  | .nilslice, .nilslice => some true
  | .nilslice, .eslice => some false
  | .eslice, .nilslice => some false
  | .nilslice, .slice .. => some false
  | .slice .., .nilslice => some false
  | .nilslice, .aslice .. => some false
  | .aslice .., .nilslice => some false
  | .psl n _, .nilslice => bi (Nat.beq n (nat_lit 0)) none (some false)
  | .nilmap, .nilmap => some true
  | .nilmap, .map _ => some false
  | .map _, .nilmap => some false
  | .nilFunc, .nilFunc => some true
  | .nilFunc, .func .. => some false
  | .func .., .nilFunc => some false
  | .bool a, .bool b => some (a == b)
  | _, _ => none
/-- Of which types nilEq is right. -/
noncomputable def nilType (P : Program) (t : TypeId) : AV → Bool
  | .nilptr | .ptr _ _ => match P.underlying t with | some (.pointer _) => true | _ => false
  | .nilslice | .eslice | .slice .. | .aslice .. | .psl .. => match P.underlying t with | some (.slice _) => true | _ => false
  | .nilmap | .map _ => match P.underlying t with | some (.map _ _) => true | _ => false
  | .nilFunc | .func .. => match P.underlying t with | some (.func _ _ _) => true | _ => false
  | .bool _ => match P.underlying t with | some .bool => true | _ => false
  | _ => false
/-- The same key? Of integers, texts, Booleans. -/
noncomputable def keyEq (O : Orc) : AV → AV → Option Bool
  | .int k a, .int k' b => if k = k' then some (eqA a b) else none
  | .str a, .str b => some (bytesEq a b)
  | .bool a, .bool b => some (a == b)
  | .sint k a, .int k' b => if k = k' then O.eq a (.lit b) else none
  | .int k a, .sint k' b => if k = k' then O.eq (.lit a) b else none
  | .sint k a, .sint k' b => if k = k' then O.eq a b else none
  | _, _ => none
noncomputable def keyType (P : Program) (t : TypeId) (k : AV) : Bool :=
  match P.underlying t, k with
  | some (.int _), .int _ _ => true
  | some (.int _), .sint _ _ => true
  | some .string, .str _ => true
  | some .string, .pstr _ => true
  | some .bool, .bool _ => true
  | _, _ => false
noncomputable def plainT (P : Program) (t : TypeId) : Bool := match P.underlying t with
  | some (.int _) => true
  | some .string => true
  | some .bool => true
  | _ => false
/-- Structs of plain fields, compared. -/
noncomputable def eqFlds (O : Orc) (P : Program) (a b : List AV) : List Field → Option Bool
  | [] => some true
  | f :: r => bc (f.name != "_") (bc (plainT P f.type) (oc (nth a f.offset) fun x => oc (nth b f.offset) fun y => bc (keyType P f.type x) (oc (keyEq O x y) fun q => bi q (eqFlds O P a b r) (some false))))
noncomputable def eqAgg (O : Orc) (P : Program) (t : TypeId) (a b : List AV) : Option Bool := match P.underlying t with
  | some (.struct fs) => bc (!P.stoodInHeld t) (bc (!P.eqGuardType P.depth t) (eqFlds O P a b fs.toList))
  | _ => none
/-- Known not to be zero. -/
noncomputable def nz (O : Orc) (b : SE) : Bool := match b with
  | .lit n => !eqA n 0
  | b => match O.eq b (.lit 0) with
    | some false => true
    | _ => false
/-- Numbers of which one at least hangs on what came in. -/
noncomputable def symOp (O : Orc) (op : BinOp) (k k' : IntKind) (a b : SE) : Option AV :=
  if k = k' then match op with
    | .add | .sub | .mul | .and | .or | .xor | .andNot => some (.sint k (O.bin op k a b))
    | .quo | .rem => bc (nz O b) (some (.sint k (O.bin op k a b)))
    | .eql => (O.eq a b).map .bool
    | .neq => (O.eq a b).map fun q => .bool !q
    | .lss => (O.lt a b).map .bool
    | .gtr => (O.lt b a).map .bool
    | .leq => (O.lt b a).map fun q => .bool !q
    | .geq => (O.lt a b).map fun q => .bool !q
    | _ => none
  else none
noncomputable def kindN : IntKind → Nat
  | .i8 => 0 | .i16 => 1 | .i32 => 2 | .i64 => 3 | .u8 => 4 | .u16 => 5 | .u32 => 6 | .u64 => 7
noncomputable def kindEq (a b : IntKind) : Bool := Nat.beq (kindN a) (kindN b)
noncomputable def opN : BinOp → Nat
  | .add => 0 | .sub => 1 | .mul => 2 | .and => 3 | .or => 4 | .xor => 5 | .andNot => 6 | .quo => 7 | .rem => 8 | .shl => 9 | .shr => 10 | _ => 11
noncomputable def opEq (a b : BinOp) : Bool := Nat.beq (opN a) (opN b) && Nat.blt (opN a) (nat_lit 11)
noncomputable def linEq : List (Nat × Int) → List (Nat × Int) → Bool
  | [], [] => true
  | p :: l, q :: m => Nat.beq p.1 q.1 && (eqA p.2 q.2 && linEq l m)
  | _, _ => false
/-- The same expression? -/
noncomputable def seEq : SE → SE → Bool
  | .var i, .var j => Nat.beq i j
  | .lit m, .lit n => eqA m n
  | .wrap k a, .wrap q b => kindEq k q && seEq a b
  | .bin o k a c, .bin p q b d => opEq o p && (kindEq k q && (seEq a b && seEq c d))
  | .fn i a c, .fn j b d => Nat.beq i j && (seEq a b && seEq c d)
  | .lin m l, .lin n k => eqA m n && linEq l k
  | _, _ => false
/-- Pieces joined; at most so long; longer than nothing; the same. -/
noncomputable def catP : List Pc → List Pc → List Pc
  | [], b => b
  | p :: a, b => match p, a, b with
    | .lit x, [], .lit y :: b => .lit (x ++ y) :: b
    | p, a, b => p :: catP a b
noncomputable def pcsMax : List Pc → Nat
  | [] => nat_lit 0
  | .lit l :: r => Nat.add l.length (pcsMax r)
  | .dec _ :: r => Nat.add (nat_lit 32) (pcsMax r)
  | .byt _ :: r => Nat.add (nat_lit 1) (pcsMax r)
  | .opq _ _ m :: r => Nat.add m (pcsMax r)
noncomputable def pcsPos : List Pc → Bool
  | [] => false
  | .lit (_ :: _) :: _ => true
  | .lit [] :: r => pcsPos r
  | .dec _ :: r => pcsPos r
  | .byt _ :: _ => true
  | .opq _ _ _ :: r => pcsPos r
noncomputable def pcsEq : List Pc → List Pc → Bool
  | [], [] => true
  | .lit a :: x, .lit b :: y => bytesEq a b && pcsEq x y
  | .dec a :: x, .dec b :: y => seEq a b && pcsEq x y
  | .byt a :: x, .byt b :: y => seEq a b && pcsEq x y
  | .opq i n m :: x, .opq j k q :: y => Nat.beq i j && (seEq n k && (Nat.beq m q && pcsEq x y))
  | _, _ => false
/-- Known to be at most. -/
noncomputable def leO (O : Orc) (a b : SE) : Bool := match O.lt b a with
  | some false => true
  | _ => false
/-- How long a text is, where that is an expression. -/
noncomputable def addE (O : Orc) : SE → SE → SE
  | .lit a, .lit b => .lit (a + b)
  | a, b => O.bin .add .i64 a b
noncomputable def pcLen (O : Orc) : Pc → Option SE
  | .lit l => some (.lit (Int.ofNat l.length))
  | .dec _ => none
  | .byt _ => some (.lit 1)
  | .opq _ n m => bc (leO O (.lit 0) n) (bc (leO O n (.lit (Int.ofNat m))) (some n))
noncomputable def pcsLen (O : Orc) : List Pc → Option SE
  | [] => some (.lit 0)
  | p :: r => oc (pcLen O p) fun a => oc (pcsLen O r) fun b => some (addE O a b)
noncomputable def numV : SE → AV
  | .lit n => .int .i64 n
  | e => .sint .i64 e
/-- One opaque piece, however long. -/
noncomputable def oneLen (O : Orc) (ps : List Pc) : Option SE := match ps with
  | [.opq b n m] => pcLen O (.opq b n m)
  | _ => none
noncomputable def lenV (O : Orc) (ps : List Pc) : AV := match oneLen O ps with
  | some e => numV e
  | none => match bi (Nat.ble (pcsMax ps) (nat_lit 1000000)) (pcsLen O ps) none with
    | some e => numV e
    | none => .plen ps
/-- Bytes, one by one. -/
noncomputable def bytesO (O : Orc) : Nat → List UInt8 → Option Bool
  | _, [] => some true
  | b, x :: r => match O.eq (.var b) (.lit (Int.ofNat x.toNat)) with
    | some true => bytesO O (Nat.succ b) r
    | some false => bc (leO O (.lit 0) (.var b)) (bc (leO O (.var b) (.lit 255)) (some false))
    | none => none
noncomputable def opqLit (O : Orc) (b : Nat) (n : SE) (m : Nat) (l : List UInt8) : Option Bool :=
  bc (leO O (.lit 0) n) (bc (leO O n (.lit (Int.ofNat m))) (match O.eq n (.lit (Int.ofNat l.length)) with
    | some true => bytesO O b l
    | some false => some false
    | none => none))
noncomputable def pcsDiff (O : Orc) (a b : List Pc) : Bool := bi (Nat.ble (pcsMax a) (nat_lit 1000000) && Nat.ble (pcsMax b) (nat_lit 1000000)) (match pcsLen O a, pcsLen O b with
    | some x, some y => (match O.eq x y with
      | some false => true
      | _ => false)
    | _, _ => false) false
/-- The byte that a number is. -/
noncomputable def byteE (e : SE) : SE := match e with
  | .fn k a b => bi (Nat.beq k (nat_lit 1)) (.fn (nat_lit 1) a b) (.fn (nat_lit 3) (.fn k a b) (.lit 0))
  | e => .fn (nat_lit 3) e (.lit 0)
/-- A text of bytes against a literal. -/
noncomputable def eqBytes (O : Orc) : List Pc → List UInt8 → Option Bool
  | [], [] => some true
  | .byt e :: r, x :: l => match O.eq (byteE e) (.lit (Int.ofNat x.toNat)) with
    | some true => eqBytes O r l
    | some false => some false
    | none => none
  | _, _ => none
noncomputable def bytesEqO (O : Orc) (a b : List Pc) : Option Bool := match a, b with
  | a, [.lit l] => eqBytes O a l
  | [.lit l], b => eqBytes O b l
  | _, _ => none
/-- Nothing on the one side, something on the other. -/
noncomputable def litNil : List Pc → Bool
  | [] => true
  | [.lit []] => true
  | _ => false
noncomputable def pcsEqO (O : Orc) (a b : List Pc) : Option Bool := bi (pcsEq a b) (some true) (bi ((litNil a && pcsPos b) || (litNil b && pcsPos a)) (some false) (match a, b with
  | [.opq i n m], [.lit l] => opqLit O i n m l
  | [.lit l], [.opq i n m] => opqLit O i n m l
  | a, b => bi (pcsDiff O a b) (some false) (bytesEqO O a b)))
noncomputable def pstrOp (O : Orc) (op : BinOp) (a b : List Pc) : Option AV := match op with
  | .add => bc (Nat.ble (Nat.add (pcsMax a) (pcsMax b)) 1000000) (some (.pstr (catP a b)))
  | .eql => (pcsEqO O a b).map .bool
  | .neq => (pcsEqO O a b).map fun q => .bool !q
  | _ => none
/-- A symbolic number, moved by so many bits. -/
noncomputable def symShift (O : Orc) (op : BinOp) (k : IntKind) (a : SE) (n : Int) : Option AV := bi (ltA n 0) none (match op with
  | .shl => some (.sint k (O.bin .shl k a (.lit n)))
  | .shr => some (.sint k (O.bin .shr k a (.lit n)))
  | _ => none)
noncomputable def binA (O : Orc) (P : Program) (op : BinOp) (t : TypeId) (x y : AV) : Option AV :=
  match x, y with
  | .int k a, .int k' b => match op with
    | .shl => shiftOp op k a b
    | .shr => shiftOp op k a b
    | _ => if k = k' then intOp op k a b else none
  | .str a, .str b => strOp op a b
  | .agg a, .agg b => match op with
    | .eql => (eqAgg O P t a b).map .bool
    | .neq => (eqAgg O P t a b).map fun b => .bool !b
    | _ => none
  | .sint k a, .int k' b => match op with
    | .shl => symShift O op k a b
    | .shr => symShift O op k a b
    | _ => symOp O op k k' a (.lit b)
  | .int k a, .sint k' b => symOp O op k k' (.lit a) b
  | .sint k a, .sint k' b => symOp O op k k' a b
  | .pstr a, .str b => pstrOp O op a [.lit b]
  | .str a, .pstr b => pstrOp O op [.lit a] b
  | .pstr a, .pstr b => pstrOp O op a b
  | x, y => match nilType P t x with
    | true => match op with
      | .eql => (nilEq x y).map .bool
      | .neq => (nilEq x y).map fun b => .bool !b
      | _ => none
    | false => none
noncomputable def unA (O : Orc) (op : UnOp) (x : AV) : Option AV :=
  match op, x with
  | .neg, .sint k e => some (.sint k (O.bin .sub k (.lit 0) e))
  | .not, .bool b => some (.bool !b)
  | .neg, .int k n => some (.int k (wrapA k (0 - n)))
  | .xor, .int k n => some (.int k (k.wrap (BitVec.ofInt k.bits (if k.signed then -1 else k.max) ^^^ BitVec.ofInt k.bits n).toNat))
  | _, _ => none

noncomputable def bytesOfA : List AV → Option (List UInt8)
  | [] => some []
  | .int .u8 n :: r => match bytesOfA r with
    | some l => some (UInt8.ofNat n.toNat :: l)
    | none => none
  | _ :: _ => none
noncomputable def ofBytes : List UInt8 → List AV
  | [] => []
  | b :: r => .int .u8 b.toNat :: ofBytes r

/-- Bytes that hang on what came in. -/
noncomputable def pcsOfA : List AV → Option (List Pc)
  | [] => some []
  | .int .u8 n :: r => oc (pcsOfA r) fun l => some (catP [.lit [UInt8.ofNat n.toNat]] l)
  | .sint .u8 e :: r => oc (pcsOfA r) fun l => some (.byt e :: l)
  | _ :: _ => none
/-- An address as one of no type; and back. -/
noncomputable def unsafeA (P : Program) (sd dd : TypeDesc) (i off : Nat) (s : St) : R := oc (s.h.get i) fun o => cellsC o fun vs e _ op => match op with
  | some _ => none
  | none => bc (Nat.blt off vs.length) (match sd, dd with
    | .pointer t, .unsafePointer => oc (szOf P t) fun z => bc (Nat.blt (nat_lit 0) z) (some (.ptr i off, s.see i))
    | .unsafePointer, .pointer u => oc (szOf P u) fun _ => bc (liesAt P P.depth e (vs.length / P.cellsOf e) off u 1) (some (.ptr i off, s.see i))
    | _, _ => none)
/-- The cells of a text of known length. -/
noncomputable def bytesP : List Pc → Option (List AV)
  | [] => some []
  | .lit l :: r => oc (bytesP r) fun m => some (ofBytes l ++ m)
  | .byt e :: r => oc (bytesP r) fun m => some (.sint .u8 (byteE e) :: m)
  | _ :: _ => none
noncomputable def convA (P : Program) (src dst : TypeId) (x : AV) (s : St) : R :=
  oc (P.underlying src) fun sd => oc (P.underlying dst) fun dd => match x with
    | .int _ n => match dd with
      | .int k => some (.int k (wrapA k n), s)
      | .string => some (.str (Utf8.encode n).data.toList, s)
      | _ => none
    | .sint _ e => match dd with
      | .int k => some (.sint k (s.o.wrap k e), s)
      | _ => none
    | .str l => match sd, dd with
      | .string, .string => some (.str l, s)
      | .string, .slice e => match P.underlying e with
        | some (.int .u8) => some (.slice s.c (nat_lit 0) l.length none (nat_lit 0), s.new (.cells (ofBytes l) e (nat_lit 0, nat_lit 0) (some (nat_lit 1))))
        | _ => none
      | _, _ => none
    | .pstr ps => match sd, dd with
      | .string, .slice e => match P.underlying e with
        | some (.int .u8) => oc (bytesP ps) fun cs => some (.slice s.c (nat_lit 0) cs.length none (nat_lit 0), s.new (.cells cs e (nat_lit 0, nat_lit 0) (some (nat_lit 1))))
        | _ => none
      | _, _ => none
    | .nilslice => match sd, dd with
      | .slice e, .string => match P.underlying e with
        | some (.int .u8) => some (.str [], s)
        | _ => none
      | _, _ => none
    | .ptr i off => unsafeA P sd dd i off s
    | .slice i off len _ _ => match sd, dd with
      | .slice e, .string => match P.underlying e with
        | some (.int .u8) => oc (loadN s i off len) fun l => match bytesOfA l with
          | some b => some (.str b, s.see i)
          | none => oc (pcsOfA l) fun ps => some (.pstr ps, s.see i)
        | _ => none
      | _, _ => none
    | .bslice i ps => match sd, dd with
      | .slice e, .string => match P.underlying e with
        | some (.int .u8) => oc (s.h.get i) fun o => match o with
          | .buf qs _ => bc (pcsEq ps qs) (some (.pstr ps, s.see i))
          | _ => none
        | _ => none
      | _, _ => none
    | _ => none

noncomputable def natOf : Int → Option Nat
  | .ofNat m => some m
  | .negSucc _ => none
/-- Which of the numbers below n is it? -/
noncomputable def concF (O : Orc) (e : SE) : Nat → Nat → Option Int
  | 0, _ => none
  | m + 1, i => match O.eq e (.lit (Int.ofNat i)) with
    | some true => some (Int.ofNat i)
    | some false => concF O e m (Nat.succ i)
    | none => none
noncomputable def concA (O : Orc) (n : Nat) (ix : AV) : Option AV := match ix with
  | .sint k e => (concF O e n (nat_lit 0)).map fun i => .int k i
  | x => some x
/-- How many places has it? -/
noncomputable def boundOf (P : Program) (t : TypeId) (x : AV) : Nat := match x with
  | .slice _ _ n _ _ => n
  | .aslice _ _ n => n
  | .str l => l.length
  | _ => match P.underlying t with
    | some (.array n _) => n
    | _ => nat_lit 0
noncomputable def numO (o : Option AV) (d : Nat) : Option Nat := match o with
  | none => some d
  | some v => v.intC fun _ n => natOf n
noncomputable def sliceStr (l : List UInt8) (lo hi : Option AV) : Option AV :=
  oc (numO lo (nat_lit 0)) fun a => oc (numO hi l.length) fun b => bc (Nat.ble a b) (bc (Nat.ble b l.length) (some (.str ((l.drop a).take (b - a)))))
noncomputable def sliceKnown (i off len c n : Nat) (lo hi : Option AV) : Option AV :=
  oc (numO lo (nat_lit 0)) fun a => oc (numO hi len) fun b => bc (Nat.ble a b) (bc (Nat.ble b c) (some (.slice i (bi (Nat.beq c a) off (Nat.add off (Nat.mul a n))) (b - a) (some (c - a)) (nat_lit 0))))
noncomputable def sliceOpen (i off len dr n : Nat) (lo hi : Option AV) : Option AV :=
  oc (numO lo (nat_lit 0)) fun a => oc (numO hi len) fun b => bc (Nat.ble a b) (bc (Nat.ble b len) (bi (Nat.blt a len || Nat.beq a (nat_lit 0)) (some (.slice i (Nat.add off (Nat.mul a n)) (b - a) none (Nat.add dr a))) (some .eslice)))
/-- With a third bound, of at most c. -/
noncomputable def sliceMax (i off c n : Nat) (lo : Option AV) (hi mx : AV) : Option AV :=
  oc (numO lo (nat_lit 0)) fun a => oc (numO (some hi) (nat_lit 0)) fun b => oc (numO (some mx) (nat_lit 0)) fun m => bc (Nat.ble a b) (bc (Nat.ble b m) (bc (Nat.ble m c) (some (.slice i (bi (Nat.beq m a) off (Nat.add off (Nat.mul a n))) (b - a) (some (m - a)) (nat_lit 0)))))
noncomputable def sliceOf (P : Program) (t : TypeId) (x : AV) (lo hi mx : Option AV) : Option AV :=
  match P.underlying t, x with
  | some .string, .str l => match mx with
    | none => sliceStr l lo hi
    | some _ => none
  | some (.slice e), .slice i off len cap dr => oc (szOf P e) fun n => match mx, hi with
    | none, _ => match cap with
      | some c => sliceKnown i off len c n lo hi
      | none => sliceOpen i off len dr n lo hi
    | some mx, some hi => match cap with
      | some c => sliceMax i off c n lo hi mx
      | none => sliceMax i off len n lo hi mx
    | _, _ => none
  | some (.slice e), .nilslice => oc (szOf P e) fun _ => match mx with
    | none => oc (numO lo (nat_lit 0)) fun a => oc (numO hi (nat_lit 0)) fun b => bc (Nat.beq a (nat_lit 0)) (bc (Nat.beq b (nat_lit 0)) (some .nilslice))
    | some mx => match hi with
      | some hi => oc (numO lo (nat_lit 0)) fun a => oc (numO (some hi) (nat_lit 0)) fun b => oc (numO (some mx) (nat_lit 0)) fun m => bc (Nat.beq a (nat_lit 0)) (bc (Nat.beq b (nat_lit 0)) (bc (Nat.beq m (nat_lit 0)) (some .nilslice)))
      | none => none
  | some (.slice e), .eslice => oc (szOf P e) fun _ => match mx with
    | none => oc (numO lo (nat_lit 0)) fun a => oc (numO hi (nat_lit 0)) fun b => bc (Nat.beq a (nat_lit 0)) (bc (Nat.beq b (nat_lit 0)) (some .eslice))
    | some mx => match hi with
      | some hi => oc (numO lo (nat_lit 0)) fun a => oc (numO (some hi) (nat_lit 0)) fun b => oc (numO (some mx) (nat_lit 0)) fun m => bc (Nat.beq a (nat_lit 0)) (bc (Nat.beq b (nat_lit 0)) (bc (Nat.beq m (nat_lit 0)) (some .eslice)))
      | none => none
  | some (.array len e), .ptr i off => oc (szOf P e) fun n => match mx with
    | none => sliceKnown i off len len n lo hi
    | some _ => none
  | _, _ => none

noncomputable def indexAtA (P : Program) (t : TypeId) (x ix : AV) : Option AV :=
  ix.intC fun _ n => oc (natOf n) fun m => match P.underlying t, x with
    | some (.array len e), .ptr i off => oc (szOf P e) fun z => bc (Nat.blt m len) (some (.ptr i (Nat.add off (Nat.mul m z))))
    | some (.slice e), .slice i off len _ _ => oc (szOf P e) fun z => bc (Nat.blt m len) (some (.ptr i (Nat.add off (Nat.mul m z))))
    | some (.slice e), .aslice i off len => oc (szOf P e) fun z => bc (Nat.blt m len) (some (.aptr i (Nat.add off (Nat.mul m z))))
    | _, _ => none
noncomputable def partA (P : Program) (t : TypeId) (cs : List AV) (off : Nat) : Option AV :=
  match isAggB P t with
  | some true => match szOf P t with
    | some n => (takeN n (dropN off cs)).map .agg
    | none => none
  | some false => nth cs off
  | none => none
noncomputable def indexA (P : Program) (t : TypeId) (x ix : AV) : Option AV :=
  match ix with
  | .int _ n => match natOf n with
    | some m => match P.underlying t, x with
      | some (.array len e), .agg cs => match szOf P e, Nat.blt m len with
        | some z, true => partA P e cs (Nat.mul m z)
        | _, _ => none
      | some .string, .str l => match nth l m with
        | some b => some (.int .u8 b.toNat)
        | none => none
      | some .string, .pstr ps => oc (bytesP ps) fun cs => nth cs m
      | _, _ => none
    | none => none
  | _ => none
noncomputable def fieldA (P : Program) (t : TypeId) (x : AV) (f : Nat) : Option AV :=
  match P.underlying t, x with
  | some (.struct fs), .agg cs => match nth fs.toList f with
    | some fd => partA P fd.type cs fd.offset
    | none => none
  | _, _ => none
noncomputable def fieldAtA (P : Program) (t : TypeId) (x : AV) (f : Nat) : Option AV :=
  match P.underlying t, x with
  | some (.struct fs), .ptr i off => match nth fs.toList f with
    | some fd => match szOf P fd.type with
      | some 0 => none
      | some (_ + 1) => some (.ptr i (Nat.add off fd.offset))
      | none => none
    | none => none
  | _, _ => none

noncomputable def findE (O : Orc) (k : AV) : List Ent → Nat → Option (Option (Nat × AV))
  | [], _ => some none
  | e :: es, i => match keyEq O k e.key with
    | some true => some (some (i, e.val))
    | some false => findE O k es (i + 1)
    | none => none
/-- Where no order is known: every entry is decided. -/
noncomputable def noneE (O : Orc) (k : AV) : List Ent → Bool
  | [] => true
  | e :: es => match keyEq O k e.key with
    | some false => noneE O k es
    | _ => false
noncomputable def findU (O : Orc) (k : AV) : List Ent → Nat → Option (Option (Nat × AV))
  | [], _ => some none
  | e :: es, i => match keyEq O k e.key with
    | some true => bc (noneE O k es) (some (some (i, e.val)))
    | some false => findU O k es (i + 1)
    | none => none
noncomputable def setE : Nat → AV → AV → List Ent → List Ent
  | _, _, _, [] => []
  | 0, k, v, e :: es => ⟨k, v, e.born⟩ :: es
  | i + 1, k, v, e :: es => e :: setE i k v es
noncomputable def delE : Nat → List Ent → List Ent
  | _, [] => []
  | 0, _ :: es => es
  | i + 1, e :: es => e :: delE i es
/-- A struct of plain fields, as a key of an empty map. -/
noncomputable def plainFields (P : Program) (l : List AV) : List Field → Bool
  | [] => true
  | f :: r => plainT P f.type && (nth l f.offset).isSome && plainFields P l r
noncomputable def plainKey (P : Program) (t : TypeId) (k : AV) : Bool := match P.underlying t, k with
  | some (.struct fs), .agg l => plainFields P l fs.toList
  | _, _ => false
noncomputable def isTrueO (x : Option Bool) : Bool := match x with
  | some b => b
  | none => false
/-- Cells, one by one the same. -/
noncomputable def cellsEq (O : Orc) : List AV → List AV → Bool
  | [], [] => true
  | x :: l, y :: m => isTrueO (keyEq O x y) && cellsEq O l m
  | _, _ => false
/-- A struct of plain fields, looked up. -/
noncomputable def findG (O : Orc) (P : Program) (t : TypeId) (k : List AV) : List Ent → Nat → Option (Option (Nat × AV))
  | [], _ => some none
  | e :: es, i => match e.key with
    | .agg b => (match eqAgg O P t k b with
      | some true => bc (cellsEq O k b) (some (some (i, e.val)))
      | some false => findG O P t k es (i + 1)
      | none => none)
    | _ => none
noncomputable def findS (O : Orc) (P : Program) (t : TypeId) (k : AV) (es : List Ent) : Option (Option (Nat × AV)) := bi (keyType P t k) (findE O k es (nat_lit 0)) (match k with
  | .agg l => findG O P t l es (nat_lit 0)
  | _ => none)
noncomputable def lookupFin (P : Program) (e : TypeId) (ok : Bool) (r : Option (Nat × AV)) (s : St) : R := match r with
  | some (_, v) => some (bi ok (.tuple [v, .bool true]) v, s)
  | none => oc (zeroOf P e) fun z => some (bi ok (.tuple [z, .bool false]) z, s)
noncomputable def lookupA (P : Program) (t : TypeId) (m k : AV) (ok : Bool) (s : St) : R :=
  match P.underlying t with
  | some (.map kt e) => match m with
    | .nilmap => bc (keyType P kt k || plainKey P kt k) (lookupFin P e ok none s)
    | .map i => bc (keyType P kt k || plainKey P kt k) (oc (s.h.get i) fun o => mapU o (fun es _ => oc (findS s.o P kt k es) fun r => lookupFin P e ok r (s.see i)) fun es _ _ => bc (keyType P kt k) (oc (findU s.o k es (nat_lit 0)) fun r => lookupFin P e ok r (s.see i)))
    | _ => none
  | _ => none
noncomputable def mapUpdateA (P : Program) (t : TypeId) (m k v : AV) (s : St) : R :=
  match P.underlying t with
  | some (.map kt _) => match m with
    | .map i => bc (keyType P kt k || plainKey P kt k) (oc (s.h.get i) fun o => mapU o (fun es clock => oc (findS s.o P kt k es) fun r => match r with
      | some (j, _) => some (undefA, s.set i (some (.map (setE j k v es) clock)))
      | none => some (undefA, s.set i (some (.map (es ++ [⟨k, v, clock⟩]) (Nat.succ clock))))) fun es clock t => bc (keyType P kt k) (oc (findU s.o k es (nat_lit 0)) fun r => match r with
      | some (j, _) => some (undefA, s.set i (some (.umap (setE j k v es) clock t)))
      | none => some (undefA, s.set i (some (.umap (es ++ [⟨k, v, clock⟩]) (Nat.succ clock) t)))))
    | _ => none
  | _ => none
noncomputable def deleteA (P : Program) (t : TypeId) (m k : AV) (s : St) : R :=
  match P.underlying t with
  | some (.map kt _) => match m with
    | .nilmap => bc (keyType P kt k) (some (undefA, s))
    | .map i => bc (keyType P kt k) (oc (s.h.get i) fun o => mapU o (fun es clock => oc (findE s.o k es (nat_lit 0)) fun r => match r with
      | some (j, _) => some (undefA, s.set i (some (.map (delE j es) clock)))
      | none => some (undefA, s.set i (some (.map es clock)))) fun es clock t => oc (findU s.o k es (nat_lit 0)) fun r => match r with
      | some (j, _) => some (undefA, s.set i (some (.umap (delE j es) clock t)))
      | none => some (undefA, s.set i (some (.umap es clock t))))
    | _ => none
  | _ => none
noncomputable def rangeA (P : Program) (t : TypeId) (x : AV) (s : St) : R :=
  match P.underlying t with
  | some .string => match x with
    | .str l => some (.ptr s.c (nat_lit 0), s.new (.siter l (nat_lit 0)))
    | _ => none
  | some (.map _ _) => match x with
    | .nilmap => some (.ptr s.c (nat_lit 0), s.new (.iter none (nat_lit 0) [] (nat_lit 0)))
    | .map m => oc (s.h.get m) fun o => mapU o (fun _ clock => some (.ptr s.c (nat_lit 0), (s.see m).new (.iter (some m) clock [] clock))) fun _ clock t => some (.ptr s.c (nat_lit 0), (s.see m).new (.uiter m clock [] clock t))
    | _ => none
  | _ => none
noncomputable def memN : Nat → List Nat → Bool
  | _, [] => false
  | x, y :: l => match Nat.beq x y with
    | true => true
    | false => memN x l
noncomputable def leftE (seen : List Nat) : List Ent → List Ent
  | [] => []
  | e :: es => match memN e.born seen with
    | true => leftE seen es
    | false => e :: leftE seen es
noncomputable def allFrom (n : Nat) : List Ent → Bool
  | [] => true
  | e :: es => match Nat.ble n e.born with
    | true => allFrom n es
    | false => false
noncomputable def allUnder (n : Nat) : List Ent → Bool
  | [] => true
  | e :: es => match Nat.blt e.born n with
    | true => allUnder n es
    | false => false
/-- A map's next entry, where there is no choice. -/
noncomputable def nextS (r : Nat) (s : St) : R := oc (s.h.get r) fun o => siterC o fun l pos =>
  bi (Nat.blt pos l.length)
    (some (.tuple [.bool true, .int .i64 (Int.ofNat pos), .int .i32 (Int.ofNat (Utf8.decode ⟨l.toArray⟩ pos).1)], s.set r (some (.siter l (pos + (Utf8.decode ⟨l.toArray⟩ pos).2)))))
    (some (.tuple [.bool false], s.see r))
noncomputable def nextE (r m since clock : Nat) (seen : List Nat) (s : St) (left : List Ent) : R := match left with
  | [] => some (.tuple [.bool false], (s.see m).see r)
  | [e] => bc (Nat.blt e.born since) (some (.tuple [.bool true, e.key, e.val], (s.see m).set r (some (.iter (some m) since (seen ++ [e.born]) clock))))
  | _ => none
noncomputable def nextUE (r m since clock t : Nat) (seen : List Nat) (s : St) (left : List Ent) : R := match left with
  | [] => some (.tuple [.bool false], (s.see m).see r)
  | [e] => bc (Nat.blt e.born since) (some (.tuple [.bool true, e.key, e.val], (s.see m).set r (some (.uiter m since (seen ++ [e.born]) clock t))))
  | _ => none
noncomputable def nextM (r : Nat) (s : St) : R := oc (s.h.get r) fun o => iterU o (fun m since seen last => match m with
  | none => some (.tuple [.bool false], s.see r)
  | some m => oc (s.h.get m) fun o => mapC o fun es clock => bc (seen.isEmpty || es.isEmpty || !allFrom last es) (nextE r m since clock seen s (leftE seen es)))
  fun m since seen last t => oc (s.h.get m) fun o => mapU o (fun _ _ => none) fun es clock t' => bc (Nat.beq t t') (bc (seen.isEmpty || es.isEmpty || !allFrom last es) (nextUE r m since clock t seen s (leftE seen es)))
/-- A map's next entry, where there is a choice: one state for each. -/
noncomputable def altsE (r m since clock : Nat) (seen : List Nat) (s : St) : List Ent → List (AV × St)
  | [] => []
  | e :: l => (.tuple [.bool true, e.key, e.val], (s.see m).set r (some (.iter (some m) since (seen ++ [e.born]) clock))) :: altsE r m since clock seen s l
noncomputable def altsU (r m since clock t : Nat) (seen : List Nat) (s : St) : List Ent → List (AV × St)
  | [] => []
  | e :: l => (.tuple [.bool true, e.key, e.val], (s.see m).set r (some (.uiter m since (seen ++ [e.born]) clock t))) :: altsU r m since clock t seen s l
noncomputable def two (l : List Ent) : Bool := match l with
  | _ :: _ :: _ => true
  | _ => false
noncomputable def allOld (n : Nat) : List Ent → Bool
  | [] => true
  | e :: es => match Nat.blt e.born n with
    | true => allOld n es
    | false => false
noncomputable def nextAlts (r : Nat) (s : St) : Option (List (AV × St)) := oc (s.h.get r) fun o => iterU o (fun m since seen last => match m with
  | none => none
  | some m => oc (s.h.get m) fun o => mapC o fun es clock => bc (seen.isEmpty || es.isEmpty || !allFrom last es) (bc (two (leftE seen es)) (bc (allOld since (leftE seen es)) (some (altsE r m since clock seen s (leftE seen es))))))
  fun m since seen last t => oc (s.h.get m) fun o => mapU o (fun _ _ => none) fun es clock t' => bc (Nat.beq t t') (bc (seen.isEmpty || es.isEmpty || !allFrom last es) (bc (two (leftE seen es)) (bc (allOld since (leftE seen es)) (some (altsU r m since clock t seen s (leftE seen es))))))
noncomputable def nextA (x : AV) (isString : Bool) (s : St) : R := x.ptrC fun r off => bc (Nat.beq off (nat_lit 0)) (bi isString (nextS r s) (nextM r s))
noncomputable def lastN : List Nat → Option Nat
  | [] => none
  | [x] => some x
  | _ :: y :: l => lastN (y :: l)
noncomputable def bornE (n : Nat) : List Ent → Option Ent
  | [] => none
  | e :: es => match Nat.beq e.born n with
    | true => some e
    | false => bornE n es
noncomputable def entryA (x : AV) (s : St) : R := x.ptrC fun r off => bc (Nat.beq off (nat_lit 0)) (oc (s.h.get r) fun o => iterU o (fun m _ seen stepped => oc m fun m => oc (lastN seen) fun stamp =>
  oc (s.h.get m) fun o => mapC o fun es clock => bc (Nat.beq clock stepped) (oc (bornE stamp es) fun e => some (.tuple [e.key, e.val], (s.see r).see m)))
  fun m _ seen stepped t => oc (lastN seen) fun stamp => oc (s.h.get m) fun o => mapU o (fun _ _ => none) fun es clock t' => bc (Nat.beq t t') (bc (Nat.beq clock stepped) (oc (bornE stamp es) fun e => some (.tuple [e.key, e.val], (s.see r).see m))))

noncomputable def lenOfA : AV → Option Nat
  | .nilslice => some 0
  | .eslice => some 0
  | .slice _ _ n _ _ => some n
  | .aslice _ _ n => some n
  | .psl n _ => some n
  | .str l => some l.length
  | _ => none
noncomputable def firstCellsA (s : St) (z n : Nat) : AV → Option (List AV × St)
  | .nilslice => some ([], s)
  | .eslice => some ([], s)
  | .slice i off _ _ _ => oc (loadN s i off (Nat.mul n z)) fun l => some (l, s.see i)
  | .aslice i off _ => oc (rowN s i off (Nat.mul n z)) fun l => some (l, s.see i)
  | .psl m l => bc (Nat.beq n m) (bc (Nat.beq l.length (Nat.mul m z)) (some (l, s)))
  | .str l => bc (Nat.beq z (nat_lit 1)) (some (ofBytes (l.take n), s))
  | _ => none
noncomputable def isIntD : TypeDesc → Bool
  | .int _ => true
  | _ => false
/-- A slice of known capacity is appended to. -/
noncomputable def appendKnown (e : TypeId) (z n : Nat) (new : List AV) (i off len c : Nat) (s : St) : R :=
  bi (Nat.ble (Nat.add len n) c)
    (oc (storeN s i (Nat.add off (Nat.mul len z)) new) fun s2 => some (.slice i off (Nat.add len n) (some c) (nat_lit 0), s2))
    (bc (Nat.ble len 1000000) (oc (loadN s i off (Nat.mul len z)) fun old => bc (allOne old)
      (some (.slice s.c (nat_lit 0) (Nat.add len n) none (nat_lit 0), (s.see i).new (.cells (old ++ new) e (nat_lit 0, nat_lit 0) (some z))))))
/-- One whose row runs on, nobody knows how far. -/
noncomputable def appendOpen (e : TypeId) (z n : Nat) (new : List AV) (i off len dr : Nat) (s : St) : R :=
  oc (s.h.get i) fun o => cellsC o fun vs e' fz op => oc op fun z' => bc (Nat.beq e e') (bc (Nat.beq z z') (bc (Nat.beq off (Nat.mul dr z))
    (bi (Nat.ble (Nat.add off (Nat.mul (Nat.add len n) z)) vs.length)
      (oc (storeN s i (Nat.add off (Nat.mul len z)) new) fun s2 => some (.slice i off (Nat.add len n) none dr, s2))
      (bc (Nat.beq dr (nat_lit 0)) (bc (Nat.ble len 1000000) (bc (unfrozen fz (Nat.mul len z) new.length) (oc (takeN (Nat.mul len z) vs) fun old => bc (allOne old)
        (some (.slice s.c (nat_lit 0) (Nat.add len n) none (nat_lit 0), (s.set i none).new (.cells (old ++ new) e fz (some z)))))))))))
noncomputable def accC {β : Type} (o : AObj) (k : Nat → List AV → SE → TypeId → Nat → Option β) : Option β := match o with
  | .acc a b c d e => k a b c d e
  | _ => none
noncomputable def addN (n : SE) (m : Nat) : Option SE := match n with
  | .var i => some (.lin (Int.ofNat m) [(i, 1)])
  | .lin a l => some (.lin (Int.add a (Int.ofNat m)) l)
  | .lit a => some (.lit (Int.add a (Int.ofNat m)))
  | _ => none
noncomputable def appendAcc (e : TypeId) (z n : Nat) (new : List AV) (i : Nat) (m : SE) (s : St) : R := oc (s.h.get i) fun o => accC o fun k vs m' e' z' =>
  bc (seEq m m') (bc (Nat.beq e e') (bc (Nat.beq z z') (bc (leO s.o m (.lit 1000000)) (oc (addN m n) fun m2 => some (.rsl s.c m2, (s.set i none).new (.acc k (vs ++ new) m2 e z))))))
noncomputable def appendTo (e : TypeId) (z n : Nat) (new : List AV) (x : AV) (s : St) : R := match x with
  | .nilslice => bi (Nat.beq n (nat_lit 0)) (some (.nilslice, s)) (some (.slice s.c (nat_lit 0) n none (nat_lit 0), s.new (.cells new e (nat_lit 0, nat_lit 0) (some z))))
  | .slice i off len (some c) _ => appendKnown e z n new i off len c s
  | .slice i off len none dr => appendOpen e z n new i off len dr s
  | .rsl i m => appendAcc e z n new i m s
  | _ => none
noncomputable def appendB (P : Program) (ts : List TypeId) (x y : AV) (s : St) : R :=
  match ts with
  | st :: yt :: _ => match P.underlying st with
    | some (.slice e) => oc (szOf P e) fun z => oc (bytesB P e) fun by_ => oc (P.underlying yt) fun d => bc (!isIntD d) (oc (zeroOf P e) fun zero => oc (lenOfA y) fun n => bc (Nat.beq zero.cells.length z)
        (bc (Nat.blt (nat_lit 0) z) (bc (Nat.ble n 1000000) (bc (Nat.ble by_ 4096) (oc2 (firstCellsA s z n y) fun new s1 => bc (allOne new) (appendTo e z n new x s1))))))
    | _ => none
  | _ => none
/-- Bytes, none beyond 255. -/
noncomputable def bytesStrict : List AV → Option (List UInt8)
  | [] => some []
  | .int .u8 n :: r => oc (natOf n) fun m => bc (Nat.blt m (nat_lit 256)) (oc (bytesStrict r) fun l => some (UInt8.ofNat m :: l))
  | _ :: _ => none
/-- Bytes, some of which hang on what came in, none beyond 255. -/
noncomputable def pcsStrict (O : Orc) : List AV → Option (List Pc)
  | [] => some []
  | .int .u8 n :: r => oc (natOf n) fun m => bc (Nat.blt m (nat_lit 256)) (oc (pcsStrict O r) fun l => some (catP [.lit [UInt8.ofNat m]] l))
  | .sint .u8 e :: r => bc (leO O (.lit 0) e) (bc (leO O e (.lit 255)) (oc (pcsStrict O r) fun l => some (.byt e :: l)))
  | _ :: _ => none
/-- What is appended, in pieces; to what. -/
noncomputable def newP (s : St) : AV → Option (List Pc × St)
  | .pstr ps => some (ps, s)
  | .str l => some ([.lit l], s)
  | .slice j off n _ _ => oc (loadN s j off n) fun l => oc (pcsStrict s.o l) fun b => some (b, s.see j)
  | _ => none
noncomputable def appendToP (e : TypeId) (q : List Pc) (x : AV) (s : St) : R := match x with
  | .bslice i p => oc (s.h.get i) fun o => match o with
    | .buf p' e' => bc (pcsEq p p') (bc (Nat.beq e e') (bc (Nat.ble (pcsMax p) (nat_lit 1000000)) (some (.bslice s.c (catP p q), (s.set i none).new (.buf (catP p q) e)))))
    | _ => none
  | .slice i off n none dr => bc (Nat.beq off (nat_lit 0)) (bc (Nat.beq dr (nat_lit 0)) (bc (Nat.ble n (nat_lit 1000000)) (oc (s.h.get i) fun o => match o with
    | .cells vs e' fz (some z) => bc (Nat.beq z (nat_lit 1)) (bc (Nat.beq e e') (bc (Nat.ble fz.2 fz.1) (oc (takeN n vs) fun l => oc (pcsStrict s.o l) fun b => bc (Nat.ble (pcsMax b) (nat_lit 1000000)) (some (.bslice s.c (catP b q), (s.set i none).new (.buf (catP b q) e))))))
    | _ => none)))
  | .nilslice => bc (pcsPos q) (some (.bslice s.c q, s.new (.buf q e)))
  | _ => none
noncomputable def appendP (P : Program) (ts : List TypeId) (x y : AV) (s : St) : R := match ts with
  | st :: yt :: _ => match P.underlying st with
    | some (.slice e) => oc (szOf P e) fun z => oc (bytesB P e) fun by_ => oc (P.underlying yt) fun d => bc (!isIntD d) (oc (zeroOf P e) fun zero => bc (Nat.beq zero.cells.length z)
        (bc (Nat.beq z (nat_lit 1)) (bc (Nat.ble by_ 4096) (oc2 (newP s y) fun q s1 => bc (Nat.ble (pcsMax q) (nat_lit 1000000)) (appendToP e q x s1)))))
    | _ => none
  | _ => none
noncomputable def inP : AV → AV → Bool
  | _, .pstr _ => true
  | .bslice _ _, _ => true
  | _, _ => false
noncomputable def appendA (P : Program) (ts : List TypeId) (x y : AV) (s : St) : R := bi (inP x y) (appendP P ts x y s) (appendB P ts x y s)
noncomputable def copyA (P : Program) (ts : List TypeId) (x y : AV) (s : St) : R :=
  match ts with
  | dt :: _ => match P.underlying dt with
    | some (.slice e) => oc (szOf P e) fun z => oc (lenOfA x) fun dl => oc (lenOfA y) fun sl => oc2 (firstCellsA s z (Nat.min sl dl) y) fun l s1 => match x with
      | .slice i off _ _ _ => oc (storeN s1 i off l) fun s2 => some (.int .i64 (Int.ofNat (Nat.min sl dl)), s2)
      | .nilslice => some (.int .i64 (Int.ofNat (Nat.min sl dl)), s1)
      | _ => none
    | _ => none
  | _ => none
/-- Is it decided, and no? -/
noncomputable def saysNo (x : Option Bool) : Bool := match x with
  | some false => true
  | _ => false
noncomputable def max1 (O : Orc) : AV → AV → Option AV
  | .int k a, .int _ b => some (.int k (if b > a then b else a))
  | .sint k a, .int k' b => if k = k' then (O.lt a (.lit b)).map fun q => bi q (.int k b) (.sint k a) else none
  | .int k a, .sint k' b => if k = k' then bi (saysNo (O.lt b (.lit a))) (some (.sint k b)) ((O.lt (.lit a) b).map fun q => bi q (.sint k b) (.int k a)) else none
  | .sint k a, .sint k' b => if k = k' then (O.lt a b).map fun q => bi q (.sint k b) (.sint k a) else none
  | _, _ => none
noncomputable def min1 (O : Orc) : AV → AV → Option AV
  | .int k a, .int _ b => some (.int k (if b < a then b else a))
  | .sint k a, .int k' b => if k = k' then (O.lt (.lit b) a).map fun q => bi q (.int k b) (.sint k a) else none
  | .int k a, .sint k' b => if k = k' then bi (saysNo (O.lt (.lit a) b)) (some (.sint k b)) ((O.lt b (.lit a)).map fun q => bi q (.sint k b) (.int k a)) else none
  | .sint k a, .sint k' b => if k = k' then (O.lt b a).map fun q => bi q (.sint k b) (.sint k a) else none
  | _, _ => none
noncomputable def maxA (O : Orc) : AV → List AV → Option AV
  | x, [] => some x
  | x, y :: r => oc (max1 O x y) fun z => maxA O z r
noncomputable def minA (O : Orc) : AV → List AV → Option AV
  | x, [] => some x
  | x, y :: r => oc (min1 O x y) fun z => minA O z r
noncomputable def clearA (P : Program) (ts : List TypeId) (x : AV) (s : St) : R :=
  match ts with
  | t :: _ => match P.underlying t, x with
    | some _, .nilmap => some (undefA, s)
    | some _, .nilslice => some (undefA, s)
    | some _, .map i => oc (s.h.get i) fun o => mapC o fun _ clock => some (undefA, s.set i (some (.map [] clock)))
    | some (.slice e), .slice i off n _ _ => bi (Nat.beq n (nat_lit 0)) (some (undefA, s)) (oc (zeroOf P e) fun z => bc (Nat.blt (nat_lit 0) z.cells.length) (oc (storeN s i off (repL z.cells n)) fun s' => some (undefA, s')))
    | _, _ => none
  | _ => none
noncomputable def lenA (P : Program) (ts : List TypeId) (x : AV) (s : St) : R :=
  match ts with
  | t :: _ => match P.underlying t, x with
    | some .string, .str l => some (.int .i64 (Int.ofNat l.length), s)
    | some .string, .pstr ps => some (lenV s.o ps, s)
    | some (.slice _), .bslice _ ps => some (lenV s.o ps, s)
    | some (.slice _), .nilslice => some (.int .i64 (Int.ofNat (nat_lit 0)), s)
    | some (.slice _), .eslice => some (.int .i64 (Int.ofNat (nat_lit 0)), s)
    | some (.slice _), .slice _ _ n _ _ => some (.int .i64 (Int.ofNat n), s)
    | some (.slice _), .aslice _ _ n => some (.int .i64 (Int.ofNat n), s)
    | some (.slice _), .oslice n => some (numV n, s)
    | some (.slice _), .rsl _ n => some (.sint .i64 n, s)
    | some (.map _ _), .nilmap => some (.int .i64 (Int.ofNat (nat_lit 0)), s)
    | some (.map _ _), .map i => oc (s.h.get i) fun o => mapU o (fun es _ => some (.int .i64 (Int.ofNat es.length), s.see i)) fun es _ _ => some (.int .i64 (Int.ofNat es.length), s.see i)
    | some (.array n _), _ => some (.int .i64 (Int.ofNat n), s)
    | _, _ => none
  | _ => none
noncomputable def capA (P : Program) (ts : List TypeId) (x : AV) (s : St) : R := match ts, x with
  | t :: _, .slice _ _ _ (some c) _ => match P.underlying t with
    | some (.slice _) => some (.int .i64 (Int.ofNat c), s)
    | _ => none
  | _, _ => none
/-- A row of bytes is read as a text, and is frozen from now on. -/
noncomputable def unsafeStringB (P : Program) (ts : List TypeId) (x k : AV) (s : St) : R := match ts with
  | [pt, _] => k.intC fun kk n => match kk with
    | .i64 => bi (eqA n (Int.ofNat (nat_lit 0)))
      (match x with
        | .nilptr => some (.str [], s)
        | .ptr _ _ => some (.str [], s)
        | _ => none)
      (oc (natOf n) fun m => x.ptrC fun i off => bc (Nat.beq off (nat_lit 0)) (oc (s.h.get i) fun o => cellsC o fun vs e _ _ => match P.underlying pt with
        | some (.pointer e') => bc (Nat.beq e e') (bc (Nat.beq (P.cellsOf e) (nat_lit 1)) (bc (Nat.ble m (nat_lit 1000000)) (oc (takeN m vs) fun l => oc (bytesStrict l) fun b => some (.str b, s.set i (some (.part vs))))))
        | _ => none))
    | _ => none
  | _ => none
noncomputable def bufC {β : Type} (o : AObj) (k : List Pc → TypeId → Option β) : Option β := match o with
  | .buf ps e => k ps e
  | _ => none
noncomputable def unsafeStringP (P : Program) (ts : List TypeId) (x : AV) (ps : List Pc) (s : St) : R := match ts with
  | [pt, _] => x.ptrC fun i off => bc (Nat.beq off (nat_lit 0)) (oc (s.h.get i) fun o => bufC o fun qs e => bc (pcsEq ps qs) (bc (pcsPos ps) (bc (Nat.ble (pcsMax ps) (nat_lit 1000000)) (match P.underlying pt with
    | some (.pointer e') => bc (Nat.beq e e') (bc (Nat.beq (P.cellsOf e) (nat_lit 1)) (some (.pstr ps, s.set i (some (.part [])))))
    | _ => none))))
  | _ => none
noncomputable def bufOf (s : St) (x : AV) : Option (List Pc) := match x with
  | .ptr i _ => match s.h.get i with
    | some (.buf qs _) => some qs
    | _ => none
  | _ => none
noncomputable def avEqN (a b : AV) : Bool := match a, b with
  | .int k m, .int q n => kindEq k q && eqA m n
  | .sint k a, .sint q b => kindEq k q && seEq a b
  | _, _ => false
noncomputable def unsafeStringA (P : Program) (ts : List TypeId) (x k : AV) (s : St) : R := match k with
  | .plen ps => unsafeStringP P ts x ps s
  | k => match bufOf s x with
    | some qs => bc (avEqN k (lenV s.o qs)) (unsafeStringP P ts x qs s)
    | none => unsafeStringB P ts x k s
noncomputable def sliceDataA (x : AV) (s : St) : R := match x with
  | .nilslice => some (.nilptr, s)
  | .slice i off _ (some c) _ => bc (Nat.blt (nat_lit 0) c) (some (.ptr i off, s))
  | .slice i off n none _ => bc (Nat.blt (nat_lit 0) n) (some (.ptr i off, s))
  | .bslice i ps => bc (pcsPos ps) (some (.ptr i (nat_lit 0), s))
  | _ => none
noncomputable def builtinA (P : Program) (b : Builtin) (ts : List TypeId) (args : List AV) (s : St) : R :=
  match b, args with
  | .len, [x] => lenA P ts x s
  | .cap, [x] => capA P ts x s
  | .append, [x, y] => appendA P ts x y s
  | .copy, [x, y] => copyA P ts x y s
  | .max, x :: r => oc (maxA s.o x r) fun v => some (v, s)
  | .min, x :: r => oc (minA s.o x r) fun v => some (v, s)
  | .clear, [x] => clearA P ts x s
  | .unsafeSliceData, [x] => sliceDataA x s
  | .unsafeString, [x, k] => unsafeStringA P ts x k s
  | .delete, [m, k] => match ts with
    | t :: _ => deleteA P t m k s
    | _ => none
  | _, _ => none

inductive AX where
  | normal
  | exit (id : Nat)
  | ret

/-- A frame: its temporaries; the marks of its ranges over functions. -/
structure Fr where
  a : T AV
  m : List Nat

/-- An evaluator of calls, of a range's rounds, and of code (with how many temporaries, in the round of which loop). -/
structure Rec where
  call : FuncId → List AV → St → R
  yld : Nat → List AV → St → R
  code : Nat → Option Nat → Code → Fr → St → Option (List (AX × Fr × St))

noncomputable def makeSliceA (P : Program) (t : TypeId) (l c : AV) (s : St) : R :=
  match P.underlying t with
  | some (.slice e) => l.intC fun _ l => c.intC fun _ c => oc (natOf l) fun l => oc (natOf c) fun c => oc (szOf P e) fun z => oc (bytesB P e) fun by_ => oc (zeroOf P e) fun zero =>
      bc (Nat.ble l c) (bc (Nat.ble c 1000000) (bc (Nat.ble by_ 4096) (bc (Nat.blt (nat_lit 0) z) (bc (Nat.beq zero.cells.length z) (bc (allOne zero.cells)
        (some (.slice s.c (nat_lit 0) l (some c) (nat_lit 0), s.new (.cells (repL zero.cells c) e (nat_lit 0, nat_lit 0) none))))))))
  | _ => none

/-- Each is like each. -/
noncomputable def allB (f : AV → AV → Bool) (l : List AV) : List AV → Bool :=
  List.rec (motive := fun _ => List AV → Bool) (fun m => match m with | [] => true | _ => false) (fun v _ ih m => match m with | u :: m => f v u && ih m | [] => false) l
/-- Alike, and no ids in them. -/
noncomputable def symV (n : Nat) : AV → AV → Bool :=
  Nat.rec (motive := fun _ => AV → AV → Bool) (fun _ _ => false) (fun _ ih x y => match x, y with
    | .bool a, .bool b => a == b
    | .int k a, .int q b => kindEq k q && eqA a b
    | .sint k a, .sint q b => kindEq k q && seEq a b
    | .str a, .str b => bytesEq a b
    | .nilptr, .nilptr => true
    | .nilslice, .nilslice => true
    | .nilmap, .nilmap => true
    | .func f a b, .func g d e => Nat.beq f g && (allB ih a d && allB ih b e)
    | .nilFunc, .nilFunc => true
    | .iface t a, .iface u b => Nat.beq t u && ih a b
    | .nilIface, .nilIface => true
    | .agg a, .agg b => allB ih a b
    | .tuple a, .tuple b => allB ih a b
    | .pstr a, .pstr b => pcsEq a b
    | .opq a, .opq b => Nat.beq a b
    | .psl n a, .psl m b => Nat.beq n m && allB ih a b
    | .optr k i o, .optr j u p => Nat.beq k j && (seEq i u && Nat.beq o p)
    | _, _ => false) n
noncomputable def symL (l m : List AV) : Bool := allB (symV (nat_lit 40)) l m
noncomputable def natsEq : List Nat → List Nat → Bool
  | [], [] => true
  | x :: l, y :: m => Nat.beq x y && natsEq l m
  | _, _ => false
/-- Operations are told above this. -/
noncomputable def opBase : Nat := nat_lit 1000000000
/-- From here on operations that lay new blocks. -/
noncomputable def effBase : Nat := nat_lit 1000000030
/-- What a call comes to, looked up. -/
noncomputable def findDef (f : Nat) (ts : List Nat) (args : List AV) (l : List Def) : Option Def :=
  List.rec (motive := fun _ => Option Def) none (fun d _ ih => bi (Nat.beq d.f f && (natsEq d.ts ts && symL d.args args)) (some d) ih) l
noncomputable def effA (k : Nat) (ts : List Nat) (args : List AV) (s : St) : R := oc (findDef (Nat.add effBase k) ts args s.o.defs) fun d => some (d.res, s)
noncomputable def odefA (k : Nat) (ts : List Nat) (args : List AV) (s : St) : R := oc (findDef (Nat.add opBase k) ts args s.o.defs) fun d => some (d.res, s)
/-- Rows of data behind each other: their elements' size, whether the first one is a row (or none), the first one's symbol, told cells, the last one's symbol: the whole one's symbol and its length. -/
noncomputable def catF : Nat := nat_lit 2000000000
noncomputable def findCat (z b k j : Nat) (vs : List AV) (l : List Def) : Option (Nat × SE) :=
  List.rec (motive := fun _ => Option (Nat × SE)) none (fun d _ ih => match d.ts, d.res with
    | [z', b', k', j', c], .sint _ e => bi (Nat.beq d.f catF && (Nat.beq z' z && (Nat.beq b' b && (Nat.beq k' k && (Nat.beq j' j && symL d.args vs))))) (some (c, e)) ih
    | _, _ => ih) l
noncomputable def appendCat (e : TypeId) (z j : Nat) (x : AV) (s : St) : R := match x with
  | .nilslice => oc2 (findCat z (nat_lit 0) (nat_lit 0) j [] s.o.defs) fun c m => bc (leO s.o m (.lit 1000000)) (match s.o.lt (.lit 0) m with
    | some true => some (.rsl s.c m, s.new (.acc c [] m e z))
    | some false => some (.nilslice, s)
    | none => none)
  | .rsl i n => oc (s.h.get i) fun o => accC o fun k vs n' e' z' => bc (seEq n n') (bc (Nat.beq e e') (bc (Nat.beq z z') (oc2 (findCat z (nat_lit 1) k j vs s.o.defs) fun c m =>
      bc (leO s.o m (.lit 1000000)) (some (.rsl s.c m, (s.set i none).new (.acc c [] m e z))))))
  | _ => none
noncomputable def appendQ (P : Program) (ts : List TypeId) (x y : AV) (s : St) : R := match ts, y with
  | st :: yt :: _, .opq j => match P.underlying st with
    | some (.slice e) => oc (szOf P e) fun z => oc (bytesB P e) fun by_ => oc (P.underlying yt) fun d => bc (!isIntD d) (oc (zeroOf P e) fun zero => bc (Nat.beq zero.cells.length z)
        (bc (Nat.blt (nat_lit 0) z) (bc (Nat.ble by_ 4096) (appendCat e z j x s))))
    | _ => none
  | _, _ => none
noncomputable def isTx : AV → Bool
  | .str _ => true
  | .pstr _ => true
  | _ => false
/-- A truth value that is data, as it is told. -/
noncomputable def resB (s : St) (b : AV) : AV := match b with
  | .opq k => match findDef (Nat.add opBase (nat_lit 20)) [] [.opq k] s.o.defs with
    | some d => d.res
    | none => .opq k
  | b => b
noncomputable def evMove (x : Operand) (_ : Rec) (a : T AV) (s : St) : R := oc (opd a x) fun v => some (v, s)
noncomputable def evPick (c x y : Operand) (_ : Rec) (a : T AV) (s : St) : R := oc (opd a c) fun b => (resB s b).boolC (oc (opd a x) fun v => some (v, s)) (oc (opd a y) fun v => some (v, s))
noncomputable def evAlloc (P : Program) (e : TypeId) (_ : Rec) (_ : T AV) (s : St) : R := oc (zeroOf P e) fun z => newA s e z.cells
noncomputable def evBox (e : TypeId) (x : Operand) (_ : Rec) (a : T AV) (s : St) : R := oc (opd a x) fun v => newA s e v.cells
noncomputable def evBuild (P : Program) (t : TypeId) (ps : List (Nat × Operand)) (_ : Rec) (a : T AV) (s : St) : R :=
  oc (zeroOf P t) fun z => oc (partsA a ps) fun parts => match P.underlying t with
    | some (.struct fs) => oc (placesOf P fs.toList) fun pl => oc (fillA (nth pl) z.cells parts) fun l => some (.agg l, s)
    | some (.array _ e) => oc (szOf P e) fun n => oc (fillA (fun i => some (i * n, n)) z.cells parts) fun l => some (.agg l, s)
    | _ => none
noncomputable def evBuildSlice (P : Program) (t : TypeId) (len : Nat) (ps : List (Nat × Operand)) (_ : Rec) (a : T AV) (s : St) : R :=
  oc (partsA a ps) fun parts => match P.underlying t with
    | some (.slice e) => oc (szOf P e) fun n => oc (zeroOf P e) fun z => bc (Nat.blt (nat_lit 0) n) (bc (Nat.beq z.cells.length n) (bc (Nat.ble (Nat.mul len n) 1000000)
        (oc (fillA (fun i => some (i * n, n)) (repL z.cells len) parts) fun l => bc (allOne l) (some (.slice s.c (nat_lit 0) len (some len) (nat_lit 0), s.new (.cells l e (nat_lit 0, nat_lit 0) none))))))
    | _ => none
noncomputable def evLoad (P : Program) (t : TypeId) (x : Operand) (_ : Rec) (a : T AV) (s : St) : R := oc (opd a x) fun v => v.ptr2C (fun i off => loadVarA P t i off s) (loadRowA P t s)
noncomputable def evStore (P : Program) (t : TypeId) (x v : Operand) (_ : Rec) (a : T AV) (s : St) : R := oc (opd a x) fun p => p.ptrC fun i off => oc (opd a v) fun v => storeVarA P t i off v s
noncomputable def evNilCheck (x : Operand) (_ : Rec) (a : T AV) (s : St) : R := match opd a x with
  | some (.ptr i off) => some (.ptr i off, s)
  | some (.aptr i off) => some (.aptr i off, s)
  | some (.func f p q) => some (.func f p q, s)
  | some (.yield l) => some (.yield l, s)
  | _ => none
/-- Two addresses in one block, compared. -/
noncomputable def ptrEqA (P : Program) (op : BinOp) (t : TypeId) (x y : AV) (s : St) : R := x.ptrC fun i off => y.ptrC fun j off2 => bc (Nat.beq i j) (oc (s.h.get i) fun _ => match P.underlying t with
  | some (.pointer e) => oc (szOf P e) fun z => bc (Nat.blt (nat_lit 0) z) (match op with
    | .eql => some (.bool (Nat.beq off off2), s.see i)
    | .neq => some (.bool (!Nat.beq off off2), s.see i)
    | _ => none)
  | _ => none)
noncomputable def orElse (x : Option AV) (s : St) (y : R) : R := Option.rec (motive := fun _ => R) y (fun v => some (v, s)) x
noncomputable def evBin (P : Program) (op : BinOp) (t : TypeId) (x y : Operand) (_ : Rec) (a : T AV) (s : St) : R := oc (opd a x) fun x => oc (opd a y) fun y => orElse (binA s.o P op t x y) s (ptrEqA P op t x y s)
noncomputable def evUn (op : UnOp) (x : Operand) (_ : Rec) (a : T AV) (s : St) : R := oc (opd a x) fun x => oc (unA s.o op x) fun v => some (v, s)
noncomputable def evConv (P : Program) (src dst : TypeId) (x : Operand) (_ : Rec) (a : T AV) (s : St) : R := oc (opd a x) fun x => convA P src dst x s
noncomputable def evMakeInterface (P : Program) (t : TypeId) (x : Operand) (_ : Rec) (a : T AV) (s : St) : R := match opd a x, P.underlying t with
  | some _, some (.interface _) => none
  | some x, some _ => some (.iface t x, s)
  | _, _ => none
noncomputable def evMakeFunc (fn : Fn) (first captured : List Operand) (_ : Rec) (a : T AV) (s : St) : R := match fn, opds a first, opds a captured with
  | .func f, some p, some q => some (.func f p q, s)
  | _, _, _ => none
noncomputable def evMakeMap (P : Program) (t : TypeId) (x : Option Operand) (_ : Rec) (a : T AV) (s : St) : R := match x with
  | none => some (.map s.c, s.new (.map [] 0))
  | some x => match P.underlying t, opd a x with
    | some (.map _ _), some (.int _ _) => some (.map s.c, s.new (.map [] 0))
    | _, _ => none
noncomputable def evMakeSlice (P : Program) (t : TypeId) (l c : Operand) (_ : Rec) (a : T AV) (s : St) : R := oc (opd a l) fun l => oc (opd a c) fun c => makeSliceA P t l c s
noncomputable def opdO (a : T AV) (o : Option Operand) : Option (Option AV) := match o with
  | none => some none
  | some x => oc (opd a x) fun v => some (some v)
noncomputable def evSlice (P : Program) (t : TypeId) (x : Operand) (lo hi mx : Option Operand) (_ : Rec) (a : T AV) (s : St) : R :=
  oc (opd a x) fun x => oc (opdO a lo) fun lo => oc (opdO a hi) fun hi => oc (opdO a mx) fun mx => oc (sliceOf P t x lo hi mx) fun v => some (v, s)
noncomputable def evFieldAddr (P : Program) (t : TypeId) (x : Operand) (f : Nat) (_ : Rec) (a : T AV) (s : St) : R := oc (opd a x) fun x => oc (fieldAtA P t x f) fun v => some (v, s)
noncomputable def evField (P : Program) (t : TypeId) (x : Operand) (f : Nat) (_ : Rec) (a : T AV) (s : St) : R := oc (opd a x) fun x => oc (fieldA P t x f) fun v => some (v, s)
noncomputable def evIndexAddr (P : Program) (t : TypeId) (x i : Operand) (_ : Rec) (a : T AV) (s : St) : R := oc (opd a x) fun x => oc (opd a i) fun i => oc (concA s.o (boundOf P t x) i) fun i => oc (indexAtA P t x i) fun v => some (v, s)
noncomputable def evIndex (P : Program) (t : TypeId) (x i : Operand) (_ : Rec) (a : T AV) (s : St) : R := oc (opd a x) fun x => oc (opd a i) fun i => oc (concA s.o (boundOf P t x) i) fun i => oc (indexA P t x i) fun v => some (v, s)
noncomputable def evLookup (P : Program) (t : TypeId) (x i : Operand) (ok : Bool) (_ : Rec) (a : T AV) (s : St) : R := oc (opd a x) fun x => oc (opd a i) fun i => lookupA P t x i ok s
noncomputable def evMapUpdate (P : Program) (t : TypeId) (m k v : Operand) (_ : Rec) (a : T AV) (s : St) : R := oc (opd a m) fun m => oc (opd a k) fun k => oc (opd a v) fun v => mapUpdateA P t m k v s
noncomputable def evRangeOp (P : Program) (t : TypeId) (x : Operand) (_ : Rec) (a : T AV) (s : St) : R := oc (opd a x) fun x => rangeA P t x s
noncomputable def evNext (x : Operand) (b : Bool) (_ : Rec) (a : T AV) (s : St) : R := oc (opd a x) fun x => nextA x b s
noncomputable def evEntry (x : Operand) (_ : Rec) (a : T AV) (s : St) : R := oc (opd a x) fun x => entryA x s
noncomputable def assertNot (P : Program) (t : TypeId) (ok : Bool) (s : St) : R := match ok, zeroOf P t with
  | true, some z => some (.tuple [z, .bool false], s)
  | _, _ => none
noncomputable def evTypeAssert (P : Program) (x : Operand) (t : TypeId) (ok : Bool) (_ : Rec) (a : T AV) (s : St) : R := match opd a x, P.underlying t with
  | some _, some (.interface _) => none
  | some (.iface u v), some _ => match Nat.beq u t with
    | true => some (if ok then .tuple [v, .bool true] else v, s)
    | false => assertNot P t ok s
  | some .nilIface, some _ => assertNot P t ok s
  | _, _ => none
noncomputable def evExtract (x : Operand) (i : Nat) (_ : Rec) (a : T AV) (s : St) : R := oc (opd a x) fun x => x.tupC fun l => oc (nth l i) fun v => some (v, s)
/-- A map's copy. -/
noncomputable def cloneA (args : List AV) (s : St) : R := match args with
  | [.iface t (.map i)] => oc (s.h.get i) fun o => mapU o (fun es clock => some (.iface t (.map s.c), (s.see i).new (.map es clock))) fun es clock q => some (.iface t (.map s.c), (s.see i).new (.umap es clock q))
  | _ => none
noncomputable def indexFrom (c : Nat) : Nat → List UInt8 → Int
  | _, [] => Int.negSucc (nat_lit 0)
  | i, b :: r => match Nat.beq b.toNat c with
    | true => Int.ofNat i
    | false => indexFrom c (Nat.succ i) r
noncomputable def indexByteA (args : List AV) (s : St) : R := match args with
  | [.str l, .int .u8 n] => oc (natOf n) fun c => bc (Nat.blt c (nat_lit 256)) (some (.int .i64 (indexFrom c (nat_lit 0) l), s))
  | _ => none
noncomputable def sameA (args : List AV) (s : St) : R := match args with
  | [x] => some (x, s)
  | _ => none
/-- Which function without a body is it? 0: none. -/
noncomputable def extK (P : Program) (f : FuncId) : Nat := match P.funcs[f]? with
  | some fn => match fn.body with
    | some _ => nat_lit 0
    | none => bi (Extern.findNext fn).isNone (bi (fn.name == "maps.clone") (nat_lit 2) (bi (fn.name == "internal/bytealg.IndexByteString") (nat_lit 3) (bi (fn.name == "internal/abi.NoEscape") (nat_lit 4) (nat_lit 1)))) (nat_lit 1)
  | none => nat_lit 0
noncomputable def callV (P : Program) (r : Rec) (args : List AV) (s : St) (f : AV) : R := match f with
  | .func f p q => bi (Nat.beq (extK P f) (nat_lit 0)) (r.call f (p ++ args ++ q) s) (bi (Nat.beq (extK P f) (nat_lit 2)) (cloneA (p ++ args ++ q) s) (bi (Nat.beq (extK P f) (nat_lit 3)) (indexByteA (p ++ args ++ q) s) (bc (Nat.beq (extK P f) (nat_lit 4)) (sameA (p ++ args ++ q) s))))
  | .yield l => r.yld l args s
  | _ => none
noncomputable def evCallOp (P : Program) (callee : Callee) (args : List Operand) (ts : List TypeId) (r : Rec) (a : T AV) (s : St) : R := oc (opds a args) fun args => match callee with
  | .value f => oc (opd a f) (callV P r args s)
  | .builtin b => builtinA P b ts args s
  | _ => none
noncomputable def noOp (_ : Rec) (_ : T AV) (_ : St) : R := none

structure Cl where
  run : Rec → T AV → St → R
noncomputable def evOpS (P : Program) (o : Oper) : Cl :=
  match o.op with
  | .move x => ⟨evMove x⟩
  | .assign x => ⟨evMove x⟩
  | .pick c x y => ⟨evPick c x y⟩
  | .alloc e => ⟨evAlloc P e⟩
  | .box e x => ⟨evBox e x⟩
  | .build t ps => ⟨evBuild P t ps.toList⟩
  | .buildSlice t len ps => ⟨evBuildSlice P t len ps.toList⟩
  | .load t x => ⟨evLoad P t x⟩
  | .store t x v => ⟨evStore P t x v⟩
  | .nilCheck x => ⟨evNilCheck x⟩
  | .binOp op t x y _ => ⟨evBin P op t x y⟩
  | .unOp op _ x => ⟨evUn op x⟩
  | .convert src dst x => ⟨evConv P src dst x⟩
  | .makeInterface t x => ⟨evMakeInterface P t x⟩
  | .makeFunc fn first captured => ⟨evMakeFunc fn first.toList captured.toList⟩
  | .makeMap t x => ⟨evMakeMap P t x⟩
  | .makeSlice t l c => ⟨evMakeSlice P t l c⟩
  | .slice t x lo hi mx => ⟨evSlice P t x lo hi mx⟩
  | .fieldAddr t x f => ⟨evFieldAddr P t x f⟩
  | .field t x f => ⟨evField P t x f⟩
  | .indexAddr t x i => ⟨evIndexAddr P t x i⟩
  | .index t x i => ⟨evIndex P t x i⟩
  | .lookup t x i ok => ⟨evLookup P t x i ok⟩
  | .mapUpdate t m k v => ⟨evMapUpdate P t m k v⟩
  | .insert t m k v => ⟨evMapUpdate P t m k v⟩
  | .range t x => ⟨evRangeOp P t x⟩
  | .next x b => ⟨evNext x b⟩
  | .entry x => ⟨evEntry x⟩
  | .typeAssert x _ t ok => ⟨evTypeAssert P x t ok⟩
  | .extract x i => ⟨evExtract x i⟩
  | .call c => ⟨evCallOp P c.callee c.args.toList c.argTypes.toList⟩
  | _ => ⟨noOp⟩

noncomputable def odefC (P : Program) (c : Call) (a : T AV) (s : St) : R := match c.callee, c.args.toList, c.argTypes.toList with
  | .builtin .len, [x], [t] => oc (opd a x) fun x => odefA (nat_lit 9) [t] [x] s
  | .builtin .append, [x, y], ts => oc (opd a x) fun x => oc (opd a y) fun y => appendQ P ts x y s
  | _, _, _ => none
noncomputable def odefOp (P : Program) (o : Op) (a : T AV) (s : St) : R := match o with
  | .load t x => oc (opd a x) fun x => odefA (nat_lit 1) [t] [x] s
  | .indexAddr t x i => oc (opd a x) fun x => oc (opd a i) fun i => odefA (nat_lit 2) [t] [x, i] s
  | .index t x i => oc (opd a x) fun x => oc (opd a i) fun i => odefA (nat_lit 3) [t] [x, i] s
  | .lookup t x i ok => oc (opd a x) fun x => oc (opd a i) fun i => odefA (bi ok (nat_lit 4) (nat_lit 5)) [t] [x, i] s
  | .slice t x (some lo) (some hi) none => oc (opd a x) fun x => oc (opd a lo) fun lo => oc (opd a hi) fun hi => odefA (nat_lit 6) [t] [x, lo, hi] s
  | .slice t x (some lo) none none => oc (opd a x) fun x => oc (opd a lo) fun lo => odefA (nat_lit 7) [t] [x, lo] s
  | .slice t x none (some hi) none => oc (opd a x) fun x => oc (opd a hi) fun hi => odefA (nat_lit 8) [t] [x, hi] s
  | .call c => odefC P c a s
  | .convert src dst x => oc (opd a x) fun x => effA (nat_lit 0) [src, dst] [x] s
  | .fieldAddr t x f => oc (opd a x) fun x => odefA (nat_lit 10) [t, f] [x] s
  | .unOp .not t x => oc (opd a x) fun x => odefA (nat_lit 21) [t] [x] s
  | .binOp .eql t x y _ => oc (opd a x) fun x => oc (opd a y) fun y => bc (isTx x || isTx y) (odefA (nat_lit 22) [t] [x, y] s)
  | .binOp .neq t x y _ => oc (opd a x) fun x => oc (opd a y) fun y => bc (isTx x || isTx y) (odefA (nat_lit 23) [t] [x, y] s)
  | _ => none
noncomputable def orR (x y : R) : R := Option.rec (motive := fun _ => R) y (fun v => some v) x
noncomputable def evOp0 (P : Program) (o : Oper) (r : Rec) (a : T AV) (s : St) : R := (evOpS P o).run r a s
noncomputable def evOp (P : Program) (o : Oper) (r : Rec) (a : T AV) (s : St) : R := orR (evOp0 P o r a s) (odefOp P o.op a s)

end Ev
end Go.Proofs.YtnjpdipombnigaaGreatDoor
namespace Go.Proofs.YtnjpdipombnigaaGreatDoor
namespace Ev
noncomputable abbrev theProg : Program := Tryz.prog
class IsProg (P : Program) : Prop where
  eq : P = theProg
instance : IsProg theProg := ⟨rfl⟩
end Ev
end Go.Proofs.YtnjpdipombnigaaGreatDoor
namespace Go.Proofs.YtnjpdipombnigaaGreatDoor
namespace Ev

noncomputable def guardC (want : Bool) (v : AV) : Bool := match v with
  | .bool b => b == want
  | _ => false
/-- A guard must be told. -/
noncomputable def litG (v : AV) : Bool := match v with
  | .opq _ => false
  | _ => true
/-- A step of a region: by its guard; with its target. -/
structure Sf where
  run : Rec → T AV → St → Option (T AV × St)
noncomputable def putS (nt : Nat) (d : Option Tmp) : Option (T AV → AV → T AV) :=
  match d with
  | none => some fun a _ => a
  | some d => bi (Nat.blt d nt) (some fun a v => a.put d (some v)) none
noncomputable def noSf : Sf := ⟨fun _ _ _ => none⟩
noncomputable def stepS (P : Program) (nt : Nat) (ops : List Oper) (o : Oper) : Sf :=
  match putS nt o.dst with
  | none => noSf
  | some put => match o.guard with
    | none => ⟨fun r a s => oc2 (evOp P o r a s) fun v s' => some (put a v, s')⟩
    | some (j, want) => match nth ops j with
      | none => ⟨fun _ a s => some (put a undefA, s)⟩
      | some oj => match oj.dst with
        | none => ⟨fun _ a s => some (put a undefA, s)⟩
        | some d => ⟨fun r a s => oc (a.get d) fun g => bc (litG g) (bi (guardC want g) (oc2 (evOp P o r a s) fun v s' => some (put a v, s')) (some (put a undefA, s)))⟩
noncomputable def evOne (P : Program) (r : Rec) (nt : Nat) (ops : List Oper) (a : T AV) (o : Oper) (s : St) : Option (T AV × St) := (stepS P nt ops o).run r a s

/-- A region that isn't drawn. -/
noncomputable def evOps (P : Program) (r : Rec) (nt : Nat) (ops l : List Oper) : T AV → St → Option (T AV × St) :=
  List.rec (motive := fun _ => T AV → St → Option (T AV × St)) (fun a s => some (a, s))
    (fun o _ ih a s => oc2 (evOne P r nt ops a o s) ih) l

/-- What is ahead of an operation, by edges that bind. -/
noncomputable def ancOf (acc : List Nat) : List Edge → Nat
  | [] => 0
  | e :: r => match Region.binds .any e, nth acc e.on with
    | true, some m => Nat.lor (Nat.lor m (bit e.on)) (ancOf acc r)
    | _, _ => ancOf acc r
noncomputable def ancs : List Oper → List Nat → List Nat
  | [], acc => acc
  | o :: r, acc => ancs r (acc ++ [ancOf acc o.after.toList])

/-- An operation's mark: its number, what it touched, what it wrote, the ids that it may make. -/
structure Log where
  i : Nat
  l : Nat
  w : Nat

noncomputable def logsApart (anc : List Nat) (x y : Log) : Bool :=
  match nth anc y.i with
  | some m => match Nat.testBit m x.i with
    | true => true
    | false => match Nat.land x.w y.l, Nat.land y.w x.l with
      | 0, 0 => true
      | _, _ => false
  | none => false
noncomputable def logsApart1 (anc : List Nat) (x : Log) : List Log → Bool
  | [] => true
  | y :: r => match logsApart anc x y with
    | true => logsApart1 anc x r
    | false => false
noncomputable def logsOk (anc : List Nat) : List Log → Bool
  | [] => true
  | x :: r => match logsApart1 anc x r with
    | true => logsOk anc r
    | false => false

/-- Temporaries: of operations that no edge orders. -/
noncomputable def tmpsApart1 (ops : Array Oper) (anc : List Nat) (i : Nat) (x : Oper) : List (Oper × Nat) → Bool
  | [] => true
  | (y, j) :: r => match (match nth anc j with | some m => Nat.testBit m i | none => false) || Oper.apart ops x y with
    | true => tmpsApart1 ops anc i x r
    | false => false
noncomputable def tmpsApart (ops : Array Oper) (anc : List Nat) : List (Oper × Nat) → Bool
  | [] => true
  | (x, i) :: r => match tmpsApart1 ops anc i x r with
    | true => tmpsApart ops anc r
    | false => false
/-- Edges that bind lead back. -/
noncomputable def edgesBack : List Oper → Nat → Bool
  | [], _ => true
  | o :: r, i => o.after.toList.all (fun e => !Region.binds .any e || Nat.blt e.on i) && edgesBack r (Nat.succ i)
noncomputable def staticOk (ops : Array Oper) : Bool := edgesBack ops.toList 0 && tmpsApart ops (ancs ops.toList []) ops.toList.zipIdx

noncomputable def logged (s : St) (s' : St) : Option St :=
  bc (Nat.ble s.c s'.c) (bc (Nat.beq (Nat.shiftRight s'.l s'.c) (nat_lit 0)) (some ⟨s'.c, s'.h, Nat.lor s.l s'.l, Nat.lor s.w s'.w, s'.o⟩))
noncomputable def logOn (i : Nat) (s' : St) (a2 : T AV) (x : St × List Log) : Option (T AV × St × List Log) :=
  bi (Nat.beq s'.l (nat_lit 0)) (some (a2, x)) (some (a2, x.1, ⟨i, s'.l, s'.w⟩ :: x.2))
/-- A region that is drawn, in the text's order, with its logs. -/
noncomputable def evDrawn (P : Program) (r : Rec) (nt : Nat) (ops l : List Oper) : Nat → T AV → St → Option (T AV × St × List Log) :=
  List.rec (motive := fun _ => Nat → T AV → St → Option (T AV × St × List Log)) (fun _ a s => some (a, s, []))
    (fun o _ ih i a s => oc2 (evOne P r nt ops a o ⟨s.c, s.h, nat_lit 0, nat_lit 0, s.o⟩) fun a' s' =>
      s'.force fun s' => oc (logged s s') fun s2 => s2.force fun s2 => oc2 (ih (Nat.succ i) a' s2) (logOn i s')) l

/-- A way that a text's run may have come to its end. -/
abbrev Alt := AX × Fr × St
/-- All the ways. -/
abbrev C := Option (List Alt)
noncomputable def one (e : AX) (fr : Fr) (s : St) : C := some [(e, fr, s)]
noncomputable def altC {β : Type} (a : Alt) (k : AX → Fr → St → β) : β := Prod.rec (motive := fun _ => β) (fun e y => Prod.rec (motive := fun _ => β) (fun fr s => k e fr s) y) a
/-- What is done behind each of them. -/
noncomputable def flatC (k : AX → Fr → St → C) (l : List Alt) : C :=
  List.rec (motive := fun _ => C) (some []) (fun a _ ih => oc (altC a k) fun x => oc ih fun y => some (x ++ y)) l
/-- One way alone, or many. -/
noncomputable def loneC {β : Type} (l : List Alt) (k : AX → Fr → St → β) (d : β) : β :=
  List.rec (motive := fun _ => β) d (fun a t _ => List.rec (motive := fun _ => β) (altC a k) (fun _ _ _ => d) t) l
noncomputable def cc (x : C) (k : AX → Fr → St → C) : C := oc x fun l => loneC l k (flatC k l)
noncomputable def AX.thn (e : AX) (fr : Fr) (s : St) (k : Fr → St → C) : C := match e with
  | .normal => s.force (k fr)
  | .exit id => one (.exit id) fr s
  | .ret => one .ret fr s
noncomputable def AX.blk (id : Nat) (e : AX) : AX := match e with
  | .exit j => bi (Nat.beq j id) .normal (.exit j)
  | .normal => .normal
  | .ret => .ret
noncomputable def loopC {β : Type} (o : AObj) (k : LoopState → Option Code → Nat → T AV → List Tmp → Code → Code → Nat → Option β) : Option β := match o with
  | .loop st pend nt a ps asg bo d => k st pend nt a ps asg bo d
  | _ => none
noncomputable def funC {β : Type} (v : AV) (k : FuncId → List AV → List AV → Option β) : Option β := match v with
  | .func f p q => k f p q
  | _ => none
noncomputable def notBusy : LoopState → Bool
  | .busy => false
  | _ => true
noncomputable def isReady : LoopState → Bool
  | .ready => true
  | _ => false
noncomputable def pendC (pend : Option Code) (fr : Fr) (s : St) : C := match pend with
  | none => one .normal fr s
  | some .ret => one .ret fr s
  | some (.exit id) => one (.exit id) fr s
  | _ => none
noncomputable def rangeGo (r : Rec) (fr : Fr) (f : FuncId) (p q : List AV) (l : Nat) (m : List Nat) (s2 : St) : C :=
  oc2 (r.call f (p ++ [.yield l] ++ q) s2) fun _ s3 => oc (s3.h.get l) fun o => loopC o fun st pend nt' a' ps' asg' bo' d' => bc (notBusy st) (pendC pend ⟨fr.a, m⟩ (s3.set l (some (.loop .exhausted pend nt' a' ps' asg' bo' d'))))
/-- A range over a function. -/
noncomputable def evRange (g : Operand) (ps : List Tmp) (assign body : Code) (r : Rec) (nt : Nat) (ro : Option Nat) (fr : Fr) (s : St) : C :=
  oc (opd fr.a g) fun gv => funC gv fun f p q => match ro with
    | none => rangeGo r fr f p q (Nat.succ s.c) (s.c :: fr.m) ((s.new (.defd true)).new (.loop .ready none nt fr.a ps assign body s.c))
    | some l0 => oc (s.h.get l0) fun o => loopC o fun _ _ _ _ _ _ _ d => rangeGo r fr f p q s.c fr.m ((s.see l0).new (.loop .ready none nt fr.a ps assign body d))
/-- A region that begins with a map's next entry. -/
noncomputable def nextOf (ops : List Oper) : Option (Operand × Tmp × List Oper) := match ops with
  | o :: l => match o.op, o.guard, o.dst with
    | .next x false, none, some d => some (x, d, l)
    | _, _, _ => none
  | [] => none
noncomputable def altsAt (a : T AV) (x : Operand) (s : St) : Option (List (AV × St)) := oc (opd a x) fun v => v.ptrC fun r off => bc (Nat.beq off (nat_lit 0)) (nextAlts r s)
noncomputable def altsGo (k : AV → St → Option (T AV × St)) (m : List Nat) (l : List (AV × St)) : C :=
  List.rec (motive := fun _ => C) (some []) (fun p _ ih => oc2 (k p.1 p.2) fun a s => oc ih fun y => some ((.normal, ⟨a, m⟩, s) :: y)) l
noncomputable def orC (x : Option (List (AV × St))) (k : List (AV × St) → C) (d : C) : C := Option.rec (motive := fun _ => C) d k x
structure Cf where
  run : Rec → Option Nat → Fr → St → C
noncomputable def regS (P : Program) (nt : Nat) (ops : Array Oper) (x : Option (Operand × Tmp × List Oper)) : Cf := match x with
  | none => ⟨fun r _ fr s => oc2 (evOps P r nt ops.toList ops.toList fr.a s) fun a s => one .normal ⟨a, fr.m⟩ s⟩
  | some (x, d, l) => bi (Nat.blt d nt)
    ⟨fun r _ fr s => orC (altsAt fr.a x s) (altsGo (fun v s => evOps P r nt ops.toList l (fr.a.put d (some v)) s) fr.m) (oc2 (evOps P r nt ops.toList ops.toList fr.a s) fun a s => one .normal ⟨a, fr.m⟩ s)⟩
    ⟨fun _ _ _ _ => none⟩
noncomputable def codeS (P : Program) (nt : Nat) (c : Code) : Cf :=
  match c with
  | .skip => ⟨fun _ _ fr s => one .normal fr s⟩
  | .label _ => ⟨fun _ _ fr s => one .normal fr s⟩
  | .region _ ops false => regS P nt ops (nextOf ops.toList)
  | .region _ ops true => bi (staticOk ops)
      ⟨fun r _ fr s => oc2 (evDrawn P r nt ops.toList ops.toList (nat_lit 0) fr.a s) fun a x => bc (logsOk (ancs ops.toList []) x.2) (one .normal ⟨a, fr.m⟩ x.1)⟩
      ⟨fun _ _ _ _ => none⟩
  | .seq x y => ⟨fun r ro fr s => cc (r.code nt ro x fr s) fun e fr s => e.thn fr s (r.code nt ro y)⟩
  | .cond x y z => ⟨fun r ro fr s => oc (opd fr.a x) fun b => (resB s b).boolC (r.code nt ro y fr s) (r.code nt ro z fr s)⟩
  | .block id x => ⟨fun r ro fr s => cc (r.code nt ro x fr s) fun e fr s => one (e.blk id) fr s⟩
  | .loop x => ⟨fun r ro fr s => cc (r.code nt ro x fr s) fun e fr s => e.thn fr s (r.code nt ro c)⟩
  | .scope x => ⟨fun r ro fr s => r.code nt ro x fr s⟩
  | .rangeFunc g ps assign body => ⟨fun r ro fr s => evRange g ps.toList assign body r nt ro fr s⟩
  | .exit id => ⟨fun _ _ fr s => one (.exit id) fr s⟩
  | .ret => ⟨fun _ _ fr s => one .ret fr s⟩
  | _ => ⟨fun _ _ _ _ => none⟩
noncomputable def evCode (P : Program) (r : Rec) (nt : Nat) (ro : Option Nat) (c : Code) (fr : Fr) (s : St) : C := (codeS P nt c).run r ro fr s

noncomputable def argsA : Nat → List AV → T AV → T AV
  | _, [], a => a
  | i, v :: l, a => argsA (Nat.succ i) l (a.put i (some v))
noncomputable def resultsA (P : Program) (a : T AV) : List ResultVar → St → Option (List AV × St)
  | [], s => some ([], s)
  | .tmp t :: r, s => match a.get t, resultsA P a r s with
    | some v, some (l, s') => some (v :: l, s')
    | _, _ => none
  | .cell t ty :: r, s => match a.get t with
    | some (.ptr i off) => match loadVarA P ty i off s with
      | some (v, s1) => match resultsA P a r s1 with
        | some (l, s') => some (v :: l, s')
        | none => none
      | none => none
    | _ => none
noncomputable def tupA : List AV → AV
  | [v] => v
  | l => .tuple l
/-- The marks of ranges over functions are taken. -/
noncomputable def takeA : List Nat → St → Option St
  | [], s => some s
  | d :: m, s => match s.h.get d with
    | some (.defd true) => takeA m (s.set d (some (.defd false)))
    | _ => none
noncomputable def finB (P : Program) (fn : Func) (fr : Fr) (s1 : St) : R :=
  oc (takeA fr.m s1) fun s2 => oc2 (resultsA P fr.a fn.results.toList s2) fun l s3 => some (tupA l, s3)
/-- Ids of one way, and those of another. -/
abbrev Prs := List (Nat × Nat)
noncomputable def lookP (a : Nat) : Prs → Option Nat
  | [] => none
  | p :: r => bi (Nat.beq p.1 a) (some p.2) (lookP a r)
noncomputable def lookQ (b : Nat) : Prs → Bool
  | [] => false
  | p :: r => bi (Nat.beq p.2 b) true (lookQ b r)
noncomputable def mId (c a b : Nat) (x : Prs × Prs) : Option (Prs × Prs) :=
  bi (Nat.blt a c) (bc (Nat.beq a b) (some x)) (bc (!Nat.blt b c) (match lookP a x.1 with
    | some b' => bc (Nat.beq b b') (some x)
    | none => bc (!lookQ b x.1) (some ((a, b) :: x.1, (a, b) :: x.2))))
/-- Which ids are alike? (A search; what it finds is looked at behind it.) -/
noncomputable def mV (c : Nat) : Nat → AV → AV → Prs × Prs → Option (Prs × Prs) := fun n =>
  Nat.rec (motive := fun _ => AV → AV → Prs × Prs → Option (Prs × Prs)) (fun _ _ _ => none) (fun _ ih x y p =>
    let go : List AV → List AV → Prs × Prs → Option (Prs × Prs) := fun l =>
      List.rec (motive := fun _ => List AV → Prs × Prs → Option (Prs × Prs)) (fun m p => match m with | [] => some p | _ => none)
        (fun v _ ih2 m p => match m with | u :: m => oc (ih v u p) (ih2 m) | [] => none) l
    match x, y with
    | .ptr i _, .ptr j _ => mId c i j p
    | .slice i _ _ _ _, .slice j _ _ _ _ => mId c i j p
    | .map i, .map j => mId c i j p
    | .func _ a b, .func _ d e => oc (go a d p) (go b e)
    | .iface _ a, .iface _ b => ih a b p
    | .agg a, .agg b => go a b p
    | .tuple a, .tuple b => go a b p
    | .fslice i _, .fslice j _ => mId c i j p
    | _, _ => some p) n
noncomputable def mL (c : Nat) (l : List AV) : List AV → Prs × Prs → Option (Prs × Prs) :=
  List.rec (motive := fun _ => List AV → Prs × Prs → Option (Prs × Prs)) (fun m p => match m with | [] => some p | _ => none)
    (fun v _ ih m p => match m with | u :: m => oc (mV c (nat_lit 40) v u p) (ih m) | [] => none) l
/-- Keys of plain kinds. -/
noncomputable def keyS (n : Nat) : AV → AV → Bool :=
  Nat.rec (motive := fun _ => AV → AV → Bool) (fun _ _ => false) (fun _ ih x y => match x, y with
    | .int k a, .int q b => kindEq k q && eqA a b
    | .sint k a, .sint q b => kindEq k q && seEq a b
    | .str a, .str b => bytesEq a b
    | .bool a, .bool b => a == b
    | .agg a, .agg b => allB ih a b
    | _, _ => false) n
/-- An entry of that key is taken out. -/
noncomputable def pullE (k : AV) : List Ent → Option (Ent × List Ent)
  | [] => none
  | e :: r => bi (keyS (nat_lit 3) k e.key) (some (e, r)) (oc2 (pullE k r) fun x y => some (x, e :: y))
/-- The entries, in the order of others. -/
noncomputable def sortE : List Ent → List Ent → Option (List Ent)
  | [], [] => some []
  | e :: l, m => oc2 (pullE e.key m) fun x r => oc (sortE l r) fun y => some (x :: y)
  | [], _ :: _ => none
noncomputable def mE (c : Nat) : List Ent → List Ent → Prs × Prs → Option (Prs × Prs)
  | [], [], p => some p
  | e :: l, f :: m, p => oc (mV c (nat_lit 40) e.val f.val p) (mE c l m)
  | _, _, _ => none
noncomputable def mO (c : Nat) (x y : AObj) (p : Prs × Prs) : Option (Prs × Prs) := match x, y with
  | .cells a _ _ _, .cells b _ _ _ => mL c a b p
  | .part a, .part b => mL c a b p
  | .flat _ _ _, .flat _ _ _ => some p
  | .map a _, .map b _ => oc (sortE a b) fun b => mE c a b p
  | .umap a _ _, .umap b _ _ => oc (sortE a b) fun b => mE c a b p
  | .map a _, .umap b _ _ => oc (sortE a b) fun b => mE c a b p
  | .umap a _ _, .map b _ => oc (sortE a b) fun b => mE c a b p
  | _, _ => none
noncomputable def mOld (c : Nat) (g h : T AObj) : List Nat → Prs × Prs → Option (Prs × Prs)
  | [], p => some p
  | i :: r, p => match g.get i, h.get i with
    | some x, some y => oc (mO c x y p) (mOld c g h r)
    | none, _ => mOld c g h r p
    | _, none => none
/-- Until nothing is open. -/
noncomputable def mAll (c : Nat) (g h : T AObj) (n : Nat) : Prs × Prs → Option Prs :=
  Nat.rec (motive := fun _ => Prs × Prs → Option Prs) (fun _ => none) (fun _ ih p => match p.2 with
    | [] => some p.1
    | (a, b) :: td => oc (g.get a) fun x => oc (h.get b) fun y => oc (mO c x y (p.1, td)) ih) n

/-- The look: under these pairs, are they alike? -/
noncomputable def idS (c : Nat) (ps : Prs) (a b : Nat) : Bool := bi (Nat.blt a c) (Nat.beq a b) (match lookP a ps with
  | some b' => Nat.beq b b'
  | none => false)
noncomputable def natO (a b : Option Nat) : Bool := match a, b with
  | none, none => true
  | some a, some b => Nat.beq a b
  | _, _ => false
noncomputable def likeV (c : Nat) (ps : Prs) (n : Nat) : AV → AV → Bool :=
  Nat.rec (motive := fun _ => AV → AV → Bool) (fun _ _ => false) (fun _ ih x y => match x, y with
    | .bool a, .bool b => a == b
    | .int k a, .int q b => kindEq k q && eqA a b
    | .sint k a, .sint q b => kindEq k q && seEq a b
    | .str a, .str b => bytesEq a b
    | .nilptr, .nilptr => true
    | .ptr i o, .ptr j u => idS c ps i j && Nat.beq o u
    | .nilslice, .nilslice => true
    | .slice i o l k d, .slice j u m q e => idS c ps i j && (Nat.beq o u && (Nat.beq l m && (natO k q && Nat.beq d e)))
    | .eslice, .eslice => true
    | .nilmap, .nilmap => true
    | .map i, .map j => idS c ps i j
    | .func f a b, .func g d e => Nat.beq f g && (allB ih a d && allB ih b e)
    | .nilFunc, .nilFunc => true
    | .iface t a, .iface u b => Nat.beq t u && ih a b
    | .nilIface, .nilIface => true
    | .agg a, .agg b => allB ih a b
    | .tuple a, .tuple b => allB ih a b
    | .pstr a, .pstr b => pcsEq a b
    | .fslice i a, .fslice j b => idS c ps i j && seEq a b
    | _, _ => false) n
noncomputable def likeL (c : Nat) (ps : Prs) (l m : List AV) : Bool := allB (likeV c ps (nat_lit 40)) l m
noncomputable def likeE (c : Nat) (ps : Prs) : List Ent → List Ent → Bool
  | [], [] => true
  | e :: l, f :: m => likeV c ps (nat_lit 40) e.key f.key && (likeV c ps (nat_lit 40) e.val f.val && likeE c ps l m)
  | _, _ => false
noncomputable def isE (l : List Nat) : Bool := match l with
  | [] => true
  | _ => false
noncomputable def bornsOk (c : Nat) : List Ent → List Nat → Bool
  | [], _ => true
  | e :: l, m => Nat.blt e.born c && (!memN e.born m && bornsOk c l (e.born :: m))
/-- Entries of a map, by new numbers. -/
noncomputable def numE : Nat → List Ent → List Ent
  | _, [] => []
  | n, e :: l => ⟨e.key, e.val, n⟩ :: numE (Nat.succ n) l
/-- An object as it is told of all the ways; t: the mark of its order. -/
noncomputable def allO (t : Nat) (o : AObj) : Option AObj := match o with
  | .cells a e f p => some (.cells a e f p)
  | .part a => some (.part a)
  | .flat n v e => some (.flat n v e)
  | .map a _ => some (.umap (numE (nat_lit 0) a) a.length t)
  | .umap a _ _ => some (.umap (numE (nat_lit 0) a) a.length t)
  | _ => none
noncomputable def optB (x : Option (List Ent)) (k : List Ent → Bool) : Bool := match x with
  | none => false
  | some l => k l
noncomputable def fzEq (a b : Nat × Nat) : Bool := Nat.beq a.1 b.1 && Nat.beq a.2 b.2
/-- Is that what it says of this way's object? -/
noncomputable def likeO (c : Nat) (ps : Prs) (x y : AObj) : Bool := match x, y with
  | .cells a e f p, .cells b e' f' p' => likeL c ps a b && (Nat.beq e e' && (fzEq f f' && natO p p'))
  | .part a, .part b => likeL c ps a b
  | .flat n v e, .flat n' v' e' => seEq n n' && (seEq v v' && Nat.beq e e')
  | .umap a n _, .map b k => Nat.beq n a.length && (bornsOk k b [] && optB (sortE a b) (likeE c ps a))
  | .umap a n _, .umap b _ _ => Nat.beq n a.length && optB (sortE a b) (likeE c ps a)
  | _, _ => false

/-- The ids of a mark. -/
noncomputable def bitsOf (n : Nat) : Nat → List Nat → List Nat :=
  Nat.rec (motive := fun _ => Nat → List Nat → List Nat) (fun _ l => l) (fun _ ih m l => bi (Nat.beq m (nat_lit 0)) l (force (Nat.log2 m) fun i => ih (Nat.xor m (bit i)) (i :: l))) n
noncomputable def orBits : List Nat → Nat
  | [] => nat_lit 0
  | i :: r => Nat.lor (bit i) (orBits r)
noncomputable def low (c m : Nat) : Nat := Nat.mod m (bit c)
noncomputable def orAll (f : St → Nat) : List (List AV × St) → Nat → Nat
  | [], m => m
  | p :: r, m => orAll f r (Nat.lor m (f p.2))
noncomputable def maxAll (f : St → Nat) : List (List AV × St) → Nat → Nat
  | [], m => m
  | p :: r, m => maxAll f r (bi (Nat.blt m (f p.2)) (f p.2) m)
/-- What is laid: an id, its object. -/
noncomputable def putsO (h : T AObj) : List Nat → Nat → Option (List (Nat × Option AObj))
  | [], _ => some []
  | i :: r, t => match h.get i with
    | none => oc (putsO h r (Nat.succ t)) fun l => some ((i, none) :: l)
    | some o => oc (allO t o) fun o => oc (putsO h r (Nat.succ t)) fun l => some ((i, some o) :: l)
noncomputable def putAll (h : T AObj) : List (Nat × Option AObj) → T AObj
  | [] => h
  | p :: l => (putAll h l).put p.1 p.2
noncomputable def prOk (c m : Nat) (ps : Prs) : List (Nat × Nat) → Bool
  | [] => true
  | p :: r => Nat.ble c p.1 && (Nat.blt p.1 m && (Nat.ble c p.2 && (Nat.blt p.2 m && prOk c m ps r)))
noncomputable def onceQ : Prs → Bool
  | [] => true
  | p :: r => !lookQ p.2 r && onceQ r
/-- The look at one way. -/
noncomputable def wayOk (c m : Nat) (ps : Prs) (roots : List AV) (puts : List (Nat × Option AObj)) (x : List AV × St) : Bool :=
  prOk c m ps ps && (onceQ ps && (likeL c ps roots x.1 &&
    List.rec (motive := fun _ => Bool) true (fun p _ ih => (match p.2 with
      | none => true
      | some o => match (bi (Nat.blt p.1 c) (some p.1) (lookP p.1 ps)) with
        | none => false
        | some j => match x.2.h.get j with
          | none => false
          | some y => likeO c ps o y) && ih) puts))
noncomputable def idPrs : List Nat → Prs
  | [] => []
  | a :: r => (a, a) :: idPrs r
noncomputable def optP (x : Option Prs) (k : Prs → Bool) : Bool := match x with
  | none => false
  | some ps => k ps
noncomputable def waysOk (c m : Nat) (roots : List AV) (old : List Nat) (puts : List (Nat × Option AObj)) (g : T AObj) : List (List AV × St) → Bool
  | [] => true
  | x :: r => optP (oc (mOld c g x.2.h old ([], [])) fun p => oc (mL c roots x.1 p) fun p => mAll c g x.2.h (nat_lit 10000) p) (fun ps => wayOk c m ps roots puts x) && waysOk c m roots old puts g r
noncomputable def fstP : Prs → List Nat
  | [] => []
  | p :: r => p.1 :: fstP r
noncomputable def marksIn (c m : Nat) : Nat := Nat.sub (bit m) (bit c)
/-- Many ways are told as one. -/
noncomputable def mrg (base : St) (ways : List (List AV × St)) : Option St := match ways with
  | x :: y :: _ => force (low base.c (orAll St.w ways (nat_lit 0))) fun w0 => force (maxAll St.c ways (nat_lit 0)) fun m =>
    let old := bitsOf m w0 []
    bc (Nat.beq (orBits old) w0) (oc (oc (mOld base.c x.2.h y.2.h old ([], [])) fun p => oc (mL base.c x.1 y.1 p) fun p => mAll base.c x.2.h y.2.h (nat_lit 10000) p) fun ps =>
      bc (prOk base.c m ps ps) (oc (putsO x.2.h (old ++ fstP ps) m) fun puts => force (Nat.add m puts.length) fun m' =>
        bc (Nat.ble (nat_lit 64) base.c) (bc (Nat.ble base.c m) (bc (waysOk base.c m x.1 old puts x.2.h ways)
          (some ⟨m', putAll base.h puts, Nat.lor (orAll St.l ways (nat_lit 0)) (marksIn base.c m'), Nat.lor (orAll St.w ways (nat_lit 0)) (marksIn base.c m'), base.o⟩)))))
  | _ => none

/-- Which temporaries does a code look at? -/
noncomputable def usesL : List Tmp → Nat → Nat
  | [], m => m
  | t :: r, m => usesL r (Nat.lor m (bit t))
noncomputable def usesO (ops : Array Oper) : List Oper → Nat → Nat
  | [], m => m
  | o :: r, m => usesO ops r (usesL (o.looksAt ops) m)
noncomputable def usesX : Operand → Nat → Nat
  | .tmp t, m => Nat.lor m (bit t)
  | _, m => m
noncomputable def uses : Code → Nat → Nat
  | .region _ ops _, m => usesO ops ops.toList m
  | .seq a b, m => uses b (uses a m)
  | .cond x a b, m => uses b (uses a (usesX x m))
  | .block _ a, m => uses a m
  | .loop a, m => uses a m
  | .scope a, m => uses a m
  | .rangeFunc x _ a b, m => uses b (uses a (usesX x m))
  | _, m => m
noncomputable def usesR : List ResultVar → Nat → Nat
  | [], m => m
  | .tmp t :: r, m => usesR r (Nat.lor m (bit t))
  | .cell t _ :: r, m => usesR r (Nat.lor m (bit t))
noncomputable def liveT (m : Nat) (a : T AV) (n : Nat) : List Tmp :=
  Nat.rec (motive := fun _ => List Tmp) [] (fun t ih => bi (Nat.testBit m t) (Option.rec (motive := fun _ => List Tmp) ih (fun _ => t :: ih) (a.get t)) ih) n
noncomputable def rootsOf (a : T AV) : List Tmp → Option (List AV)
  | [] => some []
  | t :: r => oc (a.get t) fun v => oc (rootsOf a r) fun l => some (v :: l)
noncomputable def putRoots : List Tmp → List AV → T AV → T AV
  | t :: r, v :: l, a => (putRoots r l a).put t (some v)
  | _, _, a => a
/-- All of them went on; none is in a range over a function. -/
noncomputable def goesOn : List Alt → Bool
  | [] => true
  | a :: r => altC a (fun e fr _ => (match e with | .normal => isE fr.m | _ => false)) && goesOn r
noncomputable def waysOf (lv : List Tmp) : List Alt → Option (List (List AV × St))
  | [] => some []
  | a :: r => altC a fun _ fr s => oc (rootsOf fr.a lv) fun v => oc (waysOf lv r) fun l => some ((v, s) :: l)
noncomputable def tryM (base : St) (nt m : Nat) (l : List Alt) : Option (Fr × St) := match l with
  | [] => none
  | a :: _ => bc (goesOn l) (altC a fun _ fr _ => let lv := liveT m fr.a nt; oc (waysOf lv l) fun ways => oc (rootsOf fr.a lv) fun v => oc (mrg base ways) fun T => some (⟨putRoots lv v .e, []⟩, T))
noncomputable def finL (P : Program) (fn : Func) : List Alt → Option (List (List AV × St))
  | [] => some []
  | a :: r => altC a fun e fr s => match e with
    | .exit _ => none
    | _ => oc2 (finB P fn fr s) fun v s => oc (finL P fn r) fun l => some (([v], s) :: l)
/-- The end of a call. -/
noncomputable def endB (P : Program) (fn : Func) (base : St) (l : List Alt) : R := loneC l
  (fun e fr s => match e with
    | .exit _ => none
    | .normal => finB P fn fr s
    | .ret => finB P fn fr s)
  (oc (finL P fn l) fun ways => match ways with
    | ([v], _) :: _ => oc (mrg base ways) fun T => some (v, T)
    | _ => none)
noncomputable def orM (x : Option (Fr × St)) (l : List Alt) : List Alt := Option.rec (motive := fun _ => List Alt) l (fun p => [(.normal, p.1, p.2)]) x
noncomputable def normL (base : St) (nt : Nat) (m : Nat) (l : List Alt) : List Alt := loneC l (fun _ _ _ => l) (orM (tryM base nt m l) l)
noncomputable def onN (e : AX) : Bool := match e with
  | .normal => true
  | _ => false
noncomputable def allN : List Alt → Bool
  | [] => true
  | a :: r => altC a (fun e _ _ => onN e) && allN r
noncomputable def noneN : List Alt → Bool
  | [] => true
  | a :: r => altC a (fun e _ _ => !onN e) && noneN r
/-- A body, from its top: where there are many ways, they are told as one as soon as that can be. -/
noncomputable def topS (P : Program) (r : Rec) (fn : Func) (base : St) (n : Nat) : Code → List Alt → R :=
  Nat.rec (motive := fun _ => Code → List Alt → R) (fun _ _ => none) (fun _ ih c l => match c with
    | .seq x y => oc (flatC (fun _ fr s => r.code fn.ntmps none x fr s) l) fun l => bi (allN l)
        (loneC l (fun e fr s => s.force fun s => ih y [(e, fr, s)]) (ih y (normL base fn.ntmps (uses y (usesR fn.results.toList (nat_lit 0))) l)))
        (bc (noneN l) (endB P fn base l))
    | c => oc (flatC (fun _ fr s => r.code fn.ntmps none c fr s) l) (endB P fn base)) n
noncomputable def bareS (s : St) : St := ⟨s.c, s.h, nat_lit 0, nat_lit 0, s.o⟩
noncomputable def evBody (P : Program) (r : Rec) (fn : Func) (c : Code) (args : List AV) (s : St) : R :=
  bc (Nat.ble args.length fn.ntmps) (oc2 (topS P r fn (bareS s) (nat_lit 100000) c [(.normal, ⟨argsA (nat_lit 0) args .e, []⟩, bareS s)]) fun v s' => some (v, ⟨s'.c, s'.h, Nat.lor s.l s'.l, Nat.lor s.w s'.w, s'.o⟩))
noncomputable def paramsA (nt : Nat) : List Tmp → List AV → T AV → Option (T AV)
  | [], [], a => some a
  | t :: ts, v :: vs, a => match Nat.blt t nt with
    | true => paramsA nt ts vs (a.put t (some v))
    | false => none
  | _, _, _ => none
noncomputable def roundC (x : C) (k : AX → Fr → St → R) : R := oc x fun l => loneC l k none
noncomputable def endR (l : Nat) (e : AX) (s3 : St) : R := oc (s3.h.get l) fun o => loopC o fun _ _ nt' a' ps' asg' bo' d' => match e with
  | .normal => some (.bool true, s3.set l (some (.loop .ready none nt' a' ps' asg' bo' d')))
  | .ret => some (.bool false, s3.set l (some (.loop .done (some .ret) nt' a' ps' asg' bo' d')))
  | .exit id => some (.bool false, s3.set l (some (.loop .done (some (.exit id)) nt' a' ps' asg' bo' d')))
/-- A round of a range over a function. -/
noncomputable def evYield (r : Rec) (l : Nat) (args : List AV) (s : St) : R :=
  oc (s.h.get l) fun o => loopC o fun _ _ nt a ps assign body _ => oc (paramsA nt ps args a) fun a0 => roundC (r.code nt (some l) assign ⟨a0, []⟩ (s.see l)) fun e fr1 s1 => match e with
    | .normal => oc (s1.h.get l) fun o => loopC o fun st pend nt' a' ps' asg' bo' d' => bc (isReady st) (roundC (r.code nt (some l) body fr1 (s1.set l (some (.loop .busy pend nt' a' ps' asg' bo' d')))) fun e _ s3 => endR l e s3)
    | _ => none
abbrev Ctr := FuncId → Option (List AV → St → R)
/-- A function, as it is called. -/
structure Cb where
  run : Rec → List AV → St → R
noncomputable def bodyS (P : Program) (f : FuncId) : Cb := match P.funcs[f]? with
  | some fn => match fn.body with
    | some c => ⟨fun r => evBody P r fn c⟩
    | none => ⟨fun _ _ _ => none⟩
  | none => ⟨fun _ _ _ => none⟩
/-- What is known of it, or what it does. -/
noncomputable def callS (P : Program) (ctr : Ctr) (f : FuncId) : Cb :=
  match ctr f with
  | some g => ⟨fun r args s => orR (g args s) ((bodyS P f).run r args s)⟩
  | none => bodyS P f
noncomputable def evCall (P : Program) (ctr : Ctr) (r : Rec) (f : FuncId) (args : List AV) (s : St) : R := (callS P ctr f).run r args s

noncomputable def ev (P : Program) (ctr : Ctr) (n : Nat) : Rec :=
  Nat.rec (motive := fun _ => Rec) ⟨fun _ _ _ => none, fun _ _ _ => none, fun _ _ _ _ _ => none⟩ (fun _ r => ⟨evCall P ctr r, evYield r, evCode P r⟩) n

end Ev
end Go.Proofs.YtnjpdipombnigaaGreatDoor
