/-
  The evaluator: operands; operations that touch no block.
-/
import Derived.Test.YtbjllaknnpbkkaaGreatDoorSz4
import Derived.Laws.StructEq
import Derived.Laws.Concat
import Derived.Laws.Strings
import Derived.Laws.Entries
namespace Go.Proofs.YtbjllaknnpbkkaaGreatDoor
namespace Ev
open Go.RowKit

section
variable {P : Program} {E : Env}

theorem szOf_run {t : TypeId} {n : Nat} (h : szOf P t = some n) (w : World) : (sizeOf t).run P w = .ok n w := by
  unfold szOf at h
  cases hi : P.info? t with
  | none => rw [hi] at h; cases h
  | some i => rw [hi] at h; cases h; simp [sizeOf, typeInfo, hi]
theorem und_run {t : TypeId} {d : TypeDesc} (h : P.underlying t = some d) (w : World) : (underlying t).run P w = .ok d w := by
  simp [underlying, h]
theorem isAggB_run {t : TypeId} {b : Bool} (h : isAggB P t = some b) (w : World) : (isAgg t).run P w = .ok b w := by
  cases hu : P.underlying t with
  | none => simp [isAggB, hu] at h
  | some d => cases d <;> simp [isAggB, hu] at h <;> subst h <;> simp [isAgg, und_run hu]

theorem ofVal1_ok {v : Value} {a : AV} (h : ofVal1 v = some a) : Rel E a v := by
  unfold ofVal1 at h
  split at h <;> first | (cases h; constructor; done) | (cases h; done)
theorem ofVals_ok : ∀ {l : List Value} {m : List AV}, ofVals l = some m → RelL E m l
  | [], m, h => by cases h; exact .nil
  | v :: r, m, h => by
    simp only [ofVals] at h
    split at h
    · rename_i a l h1 h2
      cases h
      exact .cons (ofVal1_ok h1) (ofVals_ok h2)
    · cases h
theorem ofVal_ok {v : Value} {a : AV} (h : ofVal v = some a) : Rel E a v := by
  unfold ofVal at h
  split at h
  · rename_i cs
    cases hx : ofVals cs.toList with
    | none => rw [hx] at h; cases h
    | some l => rw [hx] at h; cases h; exact .agg (ofVals_ok hx)
  · rename_i cs
    cases hx : ofVals cs.toList with
    | none => rw [hx] at h; cases h
    | some l => rw [hx] at h; cases h; exact .tuple (ofVals_ok hx)
  · exact ofVal1_ok h

variable {nt : Nat} {a : T AV} {ac : Act}

theorem opd_ok (hg : ∀ g, g < 64 → (E g).at g) (ht : TRel E nt a ac.tmps) {x : Operand} {v : AV} (h : opd a x = some v) : Rel E v (ac.eval x) := by
  cases x with
  | tmp t =>
    obtain ⟨y, hy, hr⟩ := ht.2 t v h
    have : ac.eval (.tmp t) = y := by simp [Act.eval, hy]
    rw [this]; exact hr
  | const c => exact ofVal_ok (show ofVal c = some v from h)
  | global g =>
    by_cases hb : Nat.blt g 64 = true
    · have h' : (opS (.global g)).get a = some v := h
      simp only [opS, hb, bi_true] at h'
      cases h'
      exact .ptr (hg g (by simpa using hb))
    · have h' : (opS (.global g)).get a = some v := h
      simp only [opS, Bool.not_eq_true] at h' hb
      rw [hb] at h'
      cases h'
  | func f => cases h; exact .func .nil .nil
theorem opds_ok (hg : ∀ g, g < 64 → (E g).at g) (ht : TRel E nt a ac.tmps) : ∀ {l : List Operand} {m : List AV}, opds a l = some m → RelL E m (l.map ac.eval)
  | [], m, h => by cases h; exact .nil
  | x :: r, m, h => by
    obtain ⟨v, h1, h2⟩ := oc_some (show oc (opd a x) (fun v => oc (opds a r) fun l => some (v :: l)) = some m from h)
    obtain ⟨l, h3, h4⟩ := oc_some h2
    cases h4
    exact .cons (opd_ok hg ht h1) (opds_ok hg ht h3)
/-- Parts of a literal. -/
inductive RelP (E : Env) : List (Nat × AV) → List (Nat × Value) → Prop
  | nil : RelP E [] []
  | cons {i : Nat} {x : AV} {y : Value} {l : List (Nat × AV)} {m : List (Nat × Value)} (h : Rel E x y) (t : RelP E l m) : RelP E ((i, x) :: l) ((i, y) :: m)
theorem partsA_ok (hg : ∀ g, g < 64 → (E g).at g) (ht : TRel E nt a ac.tmps) : ∀ {l : List (Nat × Operand)} {m : List (Nat × AV)}, partsA a l = some m → RelP E m (l.map fun p => (p.1, ac.eval p.2))
  | [], m, h => by cases h; exact .nil
  | (i, x) :: r, m, h => by
    obtain ⟨v, h1, h2⟩ := oc_some (show oc (opd a x) (fun v => oc (partsA a r) fun l => some ((i, v) :: l)) = some m from h)
    obtain ⟨l, h3, h4⟩ := oc_some h2
    cases h4
    exact .cons (opd_ok hg ht h1) (partsA_ok hg ht h3)
end

theorem wrap_i64 (n : Int) (h1 : -9223372036854775808 ≤ n) (h2 : n < 9223372036854775808) : IntKind.i64.wrap n = n := by
  have e1 : (2 : Int) ^ IntKind.i64.bits = 18446744073709551616 := by decide
  have e2 : (2 : Int) ^ (IntKind.i64.bits - 1) = 9223372036854775808 := by decide
  have e3 : IntKind.i64.signed = true := rfl
  simp only [IntKind.wrap, e1, e2, e3, Bool.true_and, decide_eq_true_eq]
  split <;> omega
theorem wrap_u8 (n : Int) (h1 : 0 ≤ n) (h2 : n < 256) : IntKind.u8.wrap n = n := by
  have e1 : (2 : Int) ^ IntKind.u8.bits = 256 := by decide
  have e3 : IntKind.u8.signed = false := rfl
  simp only [IntKind.wrap, e1, e3, Bool.false_and, Bool.false_eq_true, if_false]
  omega
theorem wrap_u32 (n : Int) (h1 : 0 ≤ n) (h2 : n < 4294967296) : IntKind.u32.wrap n = n := by
  have e1 : (2 : Int) ^ IntKind.u32.bits = 4294967296 := by decide
  have e3 : IntKind.u32.signed = false := rfl
  simp only [IntKind.wrap, e1, e3, Bool.false_and, Bool.false_eq_true, if_false]
  omega
theorem wrap_u64 (n : Int) (h1 : 0 ≤ n) (h2 : n < 18446744073709551616) : IntKind.u64.wrap n = n := by
  have e1 : (2 : Int) ^ IntKind.u64.bits = 18446744073709551616 := by decide
  have e3 : IntKind.u64.signed = false := rfl
  simp only [IntKind.wrap, e1, e3, Bool.false_and, Bool.false_eq_true, if_false]
  omega
theorem bif_blt {m n : Nat} {x y z : Int} (h1 : m < n → x = z) (h2 : y = z) : (bif Nat.blt m n then x else y) = z := by
  cases h : Nat.blt m n with
  | true => exact h1 (by simpa using h)
  | false => exact h2
theorem wrapA_eq (k : IntKind) (n : Int) : wrapA k n = k.wrap n := by
  cases n with
  | ofNat m =>
    cases k <;> simp only [wrapA]
    · exact bif_blt (fun h => (wrap_i64 (m : Int) (by omega) (by omega)).symm) rfl
    · exact bif_blt (fun h => (wrap_u8 (m : Int) (by omega) (by omega)).symm) rfl
    · exact bif_blt (fun h => (wrap_u32 (m : Int) (by omega) (by omega)).symm) rfl
    · exact bif_blt (fun h => (wrap_u64 (m : Int) (by omega) (by omega)).symm) rfl
  | negSucc m =>
    cases k <;> simp only [wrapA]
    exact bif_blt (fun h => (wrap_i64 _ (by omega) (by omega)).symm) rfl
theorem ltA_eq (x y : Int) : ltA x y = decide (x < y) := by
  rw [Bool.eq_iff_iff, decide_eq_true_iff]
  cases x with
  | ofNat a =>
    cases y with
    | ofNat b => rw [show ltA (.ofNat a) (.ofNat b) = Nat.blt a b from rfl, Nat.blt_eq]; simp
    | negSucc b => rw [show ltA (.ofNat a) (.negSucc b) = false from rfl]; simp; omega
  | negSucc a =>
    cases y with
    | ofNat b => rw [show ltA (.negSucc a) (.ofNat b) = true from rfl]; simp; omega
    | negSucc b => rw [show ltA (.negSucc a) (.negSucc b) = Nat.blt b a from rfl, Nat.blt_eq]; omega
theorem eqA_eq (x y : Int) : eqA x y = decide (x = y) := by
  rw [Bool.eq_iff_iff, decide_eq_true_iff]
  cases x with
  | ofNat a =>
    cases y with
    | ofNat b => rw [show eqA (.ofNat a) (.ofNat b) = Nat.beq a b from rfl, Nat.beq_eq]; simp; omega
    | negSucc b => rw [show eqA (.ofNat a) (.negSucc b) = false from rfl]; simp
  | negSucc a =>
    cases y with
    | ofNat b => rw [show eqA (.negSucc a) (.ofNat b) = false from rfl]; simp
    | negSucc b => rw [show eqA (.negSucc a) (.negSucc b) = Nat.beq a b from rfl, Nat.beq_eq]; simp

section
variable {P : Program} {E : Env}

theorem bytesEq_eq : ∀ (x y : List UInt8), bytesEq x y = (x == y)
  | [], [] => rfl
  | [], _ :: _ => rfl
  | _ :: _, [] => rfl
  | a :: x, b :: y => by
    have ih := bytesEq_eq x y
    simp only [bytesEq]
    split
    · rename_i h
      rw [ih]
      have : a = b := UInt8.toNat_inj.1 (by simpa using h)
      subst this
      simp [List.cons_beq_cons]
    · rename_i h
      have : a ≠ b := fun e => by subst e; simp at h
      have hb : (a == b) = false := by simpa using this
      simp [List.cons_beq_cons, hb]
theorem bytesLt_eq : ∀ (x y : List UInt8), bytesLt x y = Op.bytesLess x y
  | [], [] => rfl
  | [], _ :: _ => rfl
  | _ :: _, [] => rfl
  | a :: x, b :: y => by
    have ih := bytesLt_eq x y
    simp only [bytesLt, Op.bytesLess]
    split
    · rename_i h
      have : a < b := by simpa [UInt8.lt_iff_toNat_lt] using h
      simp [this]
    · rename_i h
      have hlt : ¬ a < b := fun hc => by
        have h1 : Nat.blt a.toNat b.toNat = true := by simpa using UInt8.lt_iff_toNat_lt.1 hc
        rw [h] at h1; cases h1
      split
      · rename_i h2
        have : a = b := UInt8.toNat_inj.1 (by simpa using h2)
        subst this
        simp [ih]
      · rename_i h2
        have : a ≠ b := fun e => by subst e; simp at h2
        have hb : (a == b) = false := by simpa using this
        simp [hlt, hb]

theorem intOp_ok {op : BinOp} {k : IntKind} {x y : Int} {v : AV} (t : TypeId) (h1 : op ≠ .shl) (h2 : op ≠ .shr) (h : intOp op k x y = some v) (w : World) :
    ∃ v', (binOp op t (.int k x) (.int k y)).run P w = .ok v' w ∧ Rel E v v' := by
  cases op <;> simp only [intOp, wrapA_eq, eqA_eq, ltA_eq] at h <;> first | exact absurd rfl h1 | exact absurd rfl h2 | skip
  case quo =>
    split at h
    · cases h
    · rename_i hy; cases h; exact ⟨_, by simp [binOp, Op.intDiv, hy], .int _ _⟩
  case rem =>
    split at h
    · cases h
    · rename_i hy; cases h; exact ⟨_, by simp [binOp, Op.intDiv, hy], .int _ _⟩
  all_goals cases h
  all_goals first
    | exact ⟨_, by simp [binOp, Op.intArith]; rfl, .int _ _⟩
    | exact ⟨_, by simp [binOp, Op.intBits]; rfl, .int _ _⟩
    | (refine ⟨.int k (k.wrap ((BitVec.ofInt k.bits x &&& ~~~BitVec.ofInt k.bits y).toNat)), ?_, .int _ _⟩; simp [binOp, Op.intBits]; done)
    | (refine ⟨_, ?_, .bool _⟩; simp [binOp, Op.intCmp]; done)
    | (refine ⟨_, ?_, .bool _⟩; simp [binOp, Op.intCmp]; rw [Bool.eq_iff_iff]; simp; done)
theorem shiftOp_ok {op : BinOp} {k k' : IntKind} {x y : Int} {v : AV} (t : TypeId) (h1 : op = .shl ∨ op = .shr) (h : shiftOp op k x y = some v) (w : World) :
    ∃ v', (binOp op t (.int k x) (.int k' y)).run P w = .ok v' w ∧ Rel E v v' := by
  unfold shiftOp at h
  split at h
  · cases h
  · rename_i hy
    rcases h1 with rfl | rfl <;> (cases h; exact ⟨_, by simp [binOp, Op.shift, hy], .int _ _⟩)
theorem strOp_ok {op : BinOp} {x y : List UInt8} {v : AV} (t : TypeId) (h : strOp op x y = some v) (w : World) :
    ∃ v', (binOp op t (.string ⟨x.toArray⟩) (.string ⟨y.toArray⟩)).run P w = .ok v' w ∧ Rel E v v' := by
  cases op <;> simp only [strOp, bytesEq_eq, bytesLt_eq] at h
  case add =>
    split at h
    · cases h
    · rename_i hl
      cases h
      refine ⟨.string ⟨(x ++ y).toArray⟩, ?_, .str _⟩
      have hrun := run_string_add_sum (P := P) w ⟨x.toArray⟩ ⟨y.toArray⟩ (by
        rw [show (ByteArray.mk x.toArray).size = x.length from by simp [ByteArray.size], show (ByteArray.mk y.toArray).size = y.length from by simp [ByteArray.size]]
        omega)
      rw [ByteArray.mk_append_mk] at hrun
      simpa [binOp] using hrun
  all_goals first | (cases h; done) | skip
  all_goals cases h
  all_goals (refine ⟨_, ?_, .bool _⟩; simp [binOp, Op.stringOp])
end
end Ev
end Go.Proofs.YtbjllaknnpbkkaaGreatDoor
