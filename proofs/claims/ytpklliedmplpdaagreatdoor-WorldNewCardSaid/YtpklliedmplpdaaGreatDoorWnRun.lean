/-
  WorldNew: the law's code in pieces; its runs in the kernel.
-/
import Derived.Test.YtpklliedmplpdaaGreatDoorWe
import Derived.Test.YtpklliedmplpdaaGreatDoorRows
namespace Go.Proofs.YtpklliedmplpdaaGreatDoor
namespace Ev
open Go.RowKit Go.Sort

noncomputable def sl (c : Code) : Code := match c with
  | .seq a _ => a
  | _ => .skip
noncomputable def sr (c : Code) : Code := match c with
  | .seq _ b => b
  | _ => .skip
noncomputable def bodyOf (f : Func) : Code := match f.body with
  | some c => c
  | none => .skip
noncomputable def lawC : Code := bodyOf Tryz.f3
/-- c with a piece behind it, d sequences deep. -/
noncomputable def app : Nat → Code → Code → Code
  | d + 1, .seq a b, r => .seq a (app d b r)
  | _, c, r => .seq c r
noncomputable def blk1 (c : Code) : Code := match c with
  | .block _ b => b
  | _ => .skip
noncomputable def lp1 (c : Code) : Code := match c with
  | .loop b => b
  | _ => .skip
noncomputable def tailC : Code := sr (sr (sr (sr (sr (sr lawC)))))
noncomputable def preC : Code := .seq (sl lawC) (.seq (sl (sr lawC)) (.seq (sl (sr (sr lawC))) (.seq (sl (sr (sr (sr lawC)))) (.seq (sl (sr (sr (sr (sr lawC))))) (sl (sr (sr (sr (sr (sr lawC))))))))))
noncomputable def r8C : Code := sl (sl tailC)
noncomputable def blkC : Code := sr (sl tailC)
noncomputable def postC : Code := sr tailC
noncomputable def loopC1 : Code := lp1 (blk1 blkC)
theorem law_parts : lawC = app 5 preC (.seq (.seq r8C (.block 0 (.loop loopC1))) postC) := by kernel_rfl

noncomputable def wnTabs : List (Nat × List AV) := tabsOf Tryz.prog Rows.worldNewRow.laid
/-- w, h, back: sizes that may be, a pixel. -/
noncomputable def wnF : List Fact := [⟨true, .var 2, .lit 0, false⟩, ⟨true, .lit 255, .var 2, false⟩, ⟨true, .bin .quo .i64 (.var 0) (.lit 2), .var 0, true⟩, ⟨true, .bin .quo .i64 (.var 1) (.lit 2), .var 1, true⟩, ⟨true, .var 0, .lit 1, false⟩, ⟨true, .lit 128, .var 0, false⟩, ⟨true, .var 1, .lit 1, false⟩, ⟨true, .lit 128, .var 1, false⟩]
noncomputable def wnArgs : List AV := [.sint .i64 (.var 0), .sint .i64 (.var 1), .sint .u8 (.var 2)]
noncomputable def fr0 : Fr := ⟨argsA (nat_lit 0) wnArgs .e, []⟩
noncomputable def evW : Rec := ev Tryz.prog (ctrU 5 (knownTrue wnTabs) ctrW) 100000
/-- The same value, of those that are carried through the loop. -/
noncomputable def avEq : AV → AV → Bool
  | .int k a, .int q b => kindEq k q && eqA a b
  | .sint k a, .sint q b => kindEq k q && seEq a b
  | .ptr i o, .ptr j p => Nat.beq i j && Nat.beq o p
  | _, _ => false
noncomputable def hasA (a : T AV) (t : Nat) (v : AV) : Bool := match a.get t with
  | some x => avEq x v
  | none => false
noncomputable def mulE : SE := .bin .mul .i64 (.var 0) (.var 1)
noncomputable def remE : SE := .bin .rem .i64 (.var 4) (.var 0)
noncomputable def quoE : SE := .bin .quo .i64 (.var 4) (.var 0)
noncomputable def lpF (q : Bool) : List Fact := [⟨true, .var 4, mulE, q⟩, ⟨true, .var 4, .lit 0, false⟩, ⟨true, .lit 16384, .var 4, false⟩, ⟨true, remE, .lit 0, false⟩, ⟨true, remE, .var 0, true⟩, ⟨true, quoE, .lit 0, false⟩, ⟨true, quoE, .var 1, q⟩] ++ wnF
noncomputable def grC : List AV := [.sint .i64 (.var 0), .sint .i64 (.var 1), .fslice 65 mulE]
noncomputable def sL (q : Bool) : St := ⟨67, (T.e.put 64 (some (.tab grC))).put 65 (some (.flat mulE (.var 2) 22)), 0, 0, orcI (lpF q)⟩
noncomputable def lpL (k : SE) : List (Nat × AV) := [(0, .sint .i64 (.var 0)), (1, .sint .i64 (.var 1)), (2, .sint .u8 (.var 2)), (7, .ptr 66 0), (9, .ptr 64 0), (10, .sint .i64 (.var 0)), (11, .sint .i64 (.var 1)), (97, .sint .i64 mulE), (98, .sint .i64 k)]
noncomputable def putsA : List (Nat × AV) → T AV
  | [] => .e
  | p :: r => (putsA r).put p.1 (some p.2)
noncomputable def hasAll (a : T AV) : List (Nat × AV) → Bool
  | [] => true
  | p :: r => hasA a p.1 p.2 && hasAll a r
noncomputable def roundOk : Bool := match evW.code 201 none loopC1 ⟨putsA (lpL (.var 4)), []⟩ (sL true) with
  | some (.normal, fr, _) => hasAll fr.a (lpL (.bin .add .i64 (.var 4) (.lit 1))) && fr.m.isEmpty
  | _ => false
noncomputable def exitOk : Bool := match evW.code 201 none loopC1 ⟨putsA (lpL (.var 4)), []⟩ (sL false) with
  | some (.exit i, fr, _) => Nat.beq i (nat_lit 0) && (hasAll fr.a (lpL (.var 4)) && fr.m.isEmpty)
  | _ => false
theorem round_ok : roundOk = true := by kernel_rfl
theorem exit_ok : exitOk = true := by kernel_rfl
/-- The same value; the same object. -/
noncomputable def capEq : Option Nat → Option Nat → Bool
  | none, none => true
  | some a, some b => Nat.beq a b
  | _, _ => false
noncomputable def avS : AV → AV → Bool
  | .bool a, .bool b => a == b
  | .int k a, .int q b => kindEq k q && eqA a b
  | .sint k a, .sint q b => kindEq k q && seEq a b
  | .ptr i o, .ptr j p => Nat.beq i j && Nat.beq o p
  | .nilslice, .nilslice => true
  | .slice i o n c d, .slice i' o' n' c' d' => Nat.beq i i' && (Nat.beq o o' && (Nat.beq n n' && (capEq c c' && Nat.beq d d')))
  | .nilmap, .nilmap => true
  | .map i, .map j => Nat.beq i j
  | .fslice i n, .fslice j m => Nat.beq i j && seEq n m
  | _, _ => false
noncomputable def avsS : List AV → List AV → Bool
  | [], [] => true
  | x :: l, y :: m => avS x y && avsS l m
  | _, _ => false
noncomputable def avE (x y : AV) : Bool := match x, y with
  | .agg l, .agg m => avsS l m
  | x, y => avS x y
noncomputable def entsE : List Ent → List Ent → Bool
  | [], [] => true
  | x :: l, y :: m => avE x.key y.key && (avE x.val y.val && (Nat.beq x.born y.born && entsE l m))
  | _, _ => false
noncomputable def objE : AObj → AObj → Bool
  | .cells l e f o, .cells l' e' f' o' => avsS l l' && (Nat.beq e e' && (Nat.beq f.1 f'.1 && (Nat.beq f.2 f'.2 && capEq o o')))
  | .map es c, .map es' c' => entsE es es' && Nat.beq c c'
  | .flat n v e, .flat n' v' e' => seEq n n' && (seEq v v' && Nat.beq e e')
  | _, _ => false
noncomputable def objAt (o : Option AObj) (x : AObj) : Bool := match o with
  | some y => objE y x
  | none => false
noncomputable def hasObjs (s : St) : List (Nat × AObj) → Bool
  | [] => true
  | p :: r => objAt (s.h.get p.1) p.2 && hasObjs s r
/-- The blocks that the world and its screen are made of, at the loop (printed by mkwn2.py). -/
noncomputable def litO : List (Nat × AObj) := [
  (153, .cells [.nilmap, .nilmap, .slice 146 0 1 none 0, .map 89, .nilmap, .nilmap, .int .u32 (1), .int .i64 (1), .int .u32 (0), .nilslice, .int .i64 (0), .int .u32 (0), .bool false, .int .i64 (0), .bool false, .bool false, .int .i64 (0), .int .u32 (0), .bool false, .bool false, .bool false, .int .i64 (0), .int .i64 (0), .int .i64 (0), .int .i64 (0), .int .u32 (0), .int .i64 (0), .bool false, .nilslice, .int .i64 (0), .int .u32 (0), .bool false, .int .i64 (0), .bool false, .bool false, .int .i64 (0), .int .u32 (0), .bool false, .bool false, .bool false, .int .i64 (0), .int .i64 (0), .int .i64 (0), .int .i64 (0), .int .u32 (0), .int .i64 (0), .bool false, .nilslice, .sint .i64 (.bin .quo .i64 (.var 0) (.lit (2))), .sint .i64 (.bin .quo .i64 (.var 1) (.lit (2))), .int .i64 (0), .int .i64 (0), .int .i64 (0), .int .u32 (0), .int .u32 (1), .map 67, .map 81, .nilslice, .nilmap, .map 148, .nilmap, .nilmap, .nilslice, .nilmap, .map 149, .map 150, .map 151, .map 152, .sint .i64 (.var 0), .sint .i64 (.var 1), .int .i64 (0)] 76 (0, 0) none),
  (146, .cells [.int .u32 (1)] 36 (0, 0) (some 1)),
  (89, .map [⟨.int .u32 (1), .agg [.int .i64 (0), .int .i64 (0), .slice 120 0 1 (some 1) 0], 0⟩] 1),
  (120, .cells [.int .i64 (0), .int .i64 (0), .sint .i64 (.var 0), .sint .i64 (.var 1)] 223 (0, 0) (some 4)),
  (67, .map [⟨.int .u32 (1), .agg [.int .i64 (0), .int .i64 (0), .sint .i64 (.var 0), .sint .i64 (.var 1), .bool true, .int .i64 (1), .int .i64 (1), .bool false, .nilslice], 0⟩] 1),
  (81, .map [⟨.int .u32 (1), .agg [.sint .i64 (.var 0), .sint .i64 (.var 1), .fslice 75 (.bin .mul .i64 (.var 0) (.var 1)), .sint .u8 (.var 2), .bool true, .bool true], 0⟩] 1),
  (75, .flat (.bin .mul .i64 (.var 0) (.var 1)) (.var 2) 22),
  (148, .map [] 0),
  (149, .map [] 0),
  (150, .map [] 0),
  (151, .map [] 0),
  (152, .map [] 0),
  (4495, .cells [.sint .i64 (.var 0), .sint .i64 (.var 1), .fslice 4493 (.bin .mul .i64 (.var 0) (.var 1))] 86 (0, 0) none),
  (4493, .flat (.bin .mul .i64 (.var 0) (.var 1)) (.var 2) 22)]
noncomputable def litF : List (Nat × AV) := [
  (0, .sint .i64 (.var 0)),
  (1, .sint .i64 (.var 1)),
  (2, .sint .u8 (.var 2)),
  (7, .ptr 153 0),
  (9, .ptr 4495 0),
  (10, .sint .i64 (.var 0)),
  (11, .sint .i64 (.var 1)),
  (97, .sint .i64 (.bin .mul .i64 (.var 0) (.var 1))),
  (98, .int .i64 (0))]
noncomputable def putsO (h : T AObj) : List (Nat × AObj) → T AObj
  | [] => h
  | p :: r => (putsO h r).put p.1 (some p.2)
noncomputable def sP : St := ⟨4497, putsO (initH wnTabs) litO, 0, 0, orcI wnF⟩
noncomputable def pick1 (ts : List Nat) : List (Nat × AV) → List (Nat × AV)
  | [] => []
  | p :: r => bi (memN p.1 ts) (p :: pick1 ts r) (pick1 ts r)
noncomputable def frP : Fr := ⟨putsA (pick1 [0, 1, 7, 10, 11] litF), []⟩
/-- Two pieces, each to its end; then a test. -/
noncomputable def chk2 (x : C) (f : Fr → St → C) (k : Fr → St → Bool) : Bool := match x with
  | some (.normal, fr, s) => (match f fr s with
    | some (.normal, fr, s) => k fr s
    | _ => false)
  | _ => false
theorem chk2_ok {x : C} {f : Fr → St → C} {k : Fr → St → Bool} (h : chk2 x f k = true) : ∃ fr1 s1 fr2 s2, x = some (.normal, fr1, s1) ∧ f fr1 s1 = some (.normal, fr2, s2) ∧ k fr2 s2 = true := by
  unfold chk2 at h
  split at h
  case h_2 => cases h
  rename_i fr1 s1
  split at h
  case h_2 => cases h
  rename_i fr2 s2 h2
  exact ⟨fr1, s1, fr2, s2, rfl, h2, h⟩
noncomputable def chkR (x : C) (k : Fr → St → Bool) : Bool := match x with
  | some (.ret, fr, s) => k fr s
  | _ => false
theorem chkR_ok {x : C} {k : Fr → St → Bool} (h : chkR x k = true) : ∃ fr s, x = some (.ret, fr, s) ∧ k fr s = true := by
  unfold chkR at h
  split at h
  case h_2 => cases h
  rename_i fr s
  exact ⟨fr, s, rfl, h⟩
noncomputable def preK (fr : Fr) (s : St) : Bool := hasAll fr.a litF && (fr.m.isEmpty && (Nat.beq s.c 4497 && (tabsIn s wnTabs && hasObjs s litO)))
noncomputable def isTrueR (x : R) : Bool := match x with
  | some (.bool true, _) => true
  | _ => false
noncomputable def postK (fr : Fr) (s : St) : Bool := isTrueR (finB Tryz.prog Tryz.f3 fr s)
end Ev
end Go.Proofs.YtpklliedmplpdaaGreatDoor
