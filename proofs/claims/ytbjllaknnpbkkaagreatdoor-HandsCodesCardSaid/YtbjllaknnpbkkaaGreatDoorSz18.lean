/-
  The evaluator: one step of a region; regions that aren't drawn.
-/
import Derived.Test.YtbjllaknnpbkkaaGreatDoorSz17
namespace Go.Proofs.YtbjllaknnpbkkaaGreatDoor
namespace Ev
open Go.RowKit

noncomputable def putT (d : Option Tmp) (a : T AV) (u : AV) : T AV := match d with
  | none => a
  | some d => a.put d (some u)
/-- What a step looks at. -/
def LRel (E : Env) (ops : Array Oper) (o : Oper) (a : T AV) (ac : Act) : Prop :=
  ORel E o.op a ac ∧ ∀ j want oj d g, o.guard = some (j, want) → ops[j]? = some oj → oj.dst = some d → a.get d = some g → ∃ x, ac.tmps[d]? = some x ∧ Rel E g x
/-- What a step's evaluation promises. -/
def OneOk (P : Program) (ops : Array Oper) (nt : Nat) (o : Oper) (a : T AV) (s : St) (a' : T AV) (s' : St) : Prop :=
  Step s s' ∧ (∀ d, o.dst = some d → d < nt) ∧ ∃ u, a' = putT o.dst a u ∧ ∀ {G : Nat → Prop} {B : Nat} {E : Env} {w : World} {ac : Act} {ro : Option Nat} {i : Nat}, ops[i]? = some o → (∀ j, In s'.l j → G j) → Sat G B E s w → LRel E ops o a ac →
    ∀ {K : Act → World → Prop} {Q : Exit → Act → World → Prop}, (∀ E' u' w', Rel E' u u' → Sat G B E' s' w' → Ext B s'.w E E' w w' → K (ac.put o.dst u') w') → wpOpIn (fen ro) 0 P ops Q i K ac w

section
variable {P : Program} {r : Rec}

theorem putS_some {nt : Nat} {d : Option Tmp} {put : T AV → AV → T AV} (h : putS nt d = some put) : (∀ a u, put a u = putT d a u) ∧ ∀ t, d = some t → t < nt := by
  cases d with
  | none => cases h; exact ⟨fun _ _ => rfl, fun t ht => by cases ht⟩
  | some d =>
    simp only [putS] at h
    cases hb : Nat.blt d nt with
    | false => rw [hb] at h; cases h
    | true => rw [hb] at h; cases h; exact ⟨fun _ _ => rfl, fun t ht => by cases ht; simpa using hb⟩
theorem wpOpIn_wanted {ops : Array Oper} {o : Oper} {i : Nat} (hi : ops[i]? = some o) {ac : Act} {w : World} {ro : Option Nat} {K : Act → World → Prop} {Q : Exit → Act → World → Prop} (hw : Region.wanted o (yielded ops ac.tmps) = true) (h : o.wpIn (fen ro) 0 P ac w K Q) : wpOpIn (fen ro) 0 P ops Q i K ac w := by
  simp only [wpOpIn, hi, hw, if_true]; exact h
theorem wpOpIn_not {ops : Array Oper} {o : Oper} {i : Nat} (hi : ops[i]? = some o) {ac : Act} {w : World} {ro : Option Nat} {K : Act → World → Prop} {Q : Exit → Act → World → Prop} (hw : Region.wanted o (yielded ops ac.tmps) = false) (h : K (ac.put o.dst undef) w) : wpOpIn (fen ro) 0 P ops Q i K ac w := by
  simp only [wpOpIn, hi, hw, Bool.false_eq_true, if_false]; exact ⟨fun f _ => fen_fn ro f, h⟩
theorem evOne_ok (hcall : CallOk P r.call) (hyld : YieldOk P r.yld) {ops : Array Oper} {nt : Nat} {o : Oper} {a a' : T AV} {s s' : St} (h : evOne P r nt ops.toList a o s = some (a', s')) : OneOk P ops nt o a s a' s' := by
  unfold evOne at h
  unfold stepS at h
  split at h
  case h_1 => cases h
  rename_i put hput
  obtain ⟨hp1, hp2⟩ := putS_some hput
  have no : (∀ {ac : Act} {E : Env}, LRel E ops o a ac → Region.wanted o (yielded ops ac.tmps) = false) → (some (put a undefA, s) : Option (T AV × St)) = some (a', s') → OneOk P ops nt o a s a' s' := by
    intro hw he
    cases he
    refine ⟨Step.refl _, hp2, undefA, hp1 _ _, fun {G B E w ac ro i} hi hG hs hl {K Q} hK => ?_⟩
    exact wpOpIn_not hi (hw hl) (hK E undef w (.tuple .nil) hs (Ext.refl _ _ _ _))
  have yes : (∀ {ac : Act} {E : Env}, LRel E ops o a ac → Region.wanted o (yielded ops ac.tmps) = true) → oc2 (evOp P o r a s) (fun v s' => some (put a v, s')) = some (a', s') → OneOk P ops nt o a s a' s' := by
    intro hw he
    obtain ⟨u, s1, hu, h1⟩ := oc2_some he
    cases h1
    obtain ⟨q1, q2⟩ := evOp_ok hcall hyld hu
    refine ⟨q1, hp2, u, hp1 _ _, fun {G B E w ac ro i} hi hG hs hl {K Q} hK => ?_⟩
    exact wpOpIn_wanted hi (hw hl) (q2 hG hs hl.1 hK)
  split at h
  · rename_i hg
    exact yes (fun _ => by simp [Region.wanted, hg]) h
  · rename_i j want hg
    split at h
    · rename_i hj
      rw [nth_get, Array.getElem?_toList] at hj
      exact no (fun _ => by simp [Region.wanted, hg, yielded, hj]) h
    · rename_i oj hj
      rw [nth_get, Array.getElem?_toList] at hj
      split at h
      · rename_i hd
        exact no (fun _ => by simp [Region.wanted, hg, yielded, hj, hd]) h
      · rename_i d hd
        obtain ⟨g, hgd, h1⟩ := oc_some h
        have hw : ∀ {ac : Act} {E : Env}, LRel E ops o a ac → Region.wanted o (yielded ops ac.tmps) = guardC want g := by
          intro ac E hl
          obtain ⟨x, hx, hrel⟩ := hl.2 j want oj d g hg hj hd hgd
          simp only [Region.wanted, hg, yielded, hj, Option.bind_some, hd, hx]
          cases hrel <;> simp [guardC]
        cases hgc : guardC want g with
        | true => rw [hgc, bi_true] at h1; exact yes (fun hl => by rw [hw hl, hgc]) h1
        | false => rw [hgc, bi_false] at h1; exact no (fun hl => by rw [hw hl, hgc]) h1
theorem TRel.put {E : Env} {nt : Nat} {a : T AV} {ac : Act} (h : TRel E nt a ac.tmps) {d : Option Tmp} (hd : ∀ t, d = some t → t < nt) {u : AV} {u' : Value} (hu : Rel E u u') : TRel E nt (putT d a u) (ac.put d u').tmps := by
  cases d with
  | none => exact h
  | some d =>
    refine ⟨by simpa [Act.put] using h.1, fun t v ht => ?_⟩
    have hdn := hd d rfl
    rcases T.put_some ht with ⟨rfl, hx⟩ | ⟨hne, hx⟩
    · cases hx
      exact ⟨u', by simp [Act.put, h.1, hdn], hu⟩
    · obtain ⟨x, hx1, hx2⟩ := h.2 t v hx
      exact ⟨x, by simp [Act.put, Array.getElem?_setIfInBounds_ne (Ne.symm hne), hx1], hx2⟩
theorem TRel.look {G : Nat → Prop} {B : Nat} {E : Env} {s : St} {w : World} (hs : Sat G B E s w) {nt : Nat} {a : T AV} {ac : Act} (ht : TRel E nt a ac.tmps) (ops : Array Oper) (o : Oper) : LRel E ops o a ac :=
  ⟨TRel.ops hs ht _, fun _ _ _ d g _ _ _ hg => ht.2 d g hg⟩
theorem act_put_defers (ac : Act) (d : Option Tmp) (u : Value) : (ac.put d u).defers = ac.defers := by cases d <;> rfl
theorem evOps_ok (hcall : CallOk P r.call) (hyld : YieldOk P r.yld) {ops : Array Oper} {nt : Nat} : ∀ (l : List Oper) (k : Nat) {a a' : T AV} {s s' : St}, ops.toList.drop k = l → evOps P r nt ops.toList l a s = some (a', s') →
    Step s s' ∧ ∀ {G : Nat → Prop} {B : Nat} {E : Env} {w : World} {ac : Act} {ro : Option Nat}, (∀ j, In s'.l j → G j) → Sat G B E s w → TRel E nt a ac.tmps → ∀ {Q : Exit → Act → World → Prop},
      (∀ E' ac' w', TRel E' nt a' ac'.tmps → ac'.defers = ac.defers → Sat G B E' s' w' → Ext B s'.w E E' w w' → Q .normal ac' w') → wpOpsIn (fen ro) 0 P ops Q (List.range' k l.length) ac w := by
  intro l
  induction l with
  | nil =>
    intro k a a' s s' _ h
    cases h
    exact ⟨Step.refl _, fun {G B E w ac ro} hG hs ht {Q} hQ => hQ E ac w ht rfl hs (Ext.refl _ _ _ _)⟩
  | cons o l ih =>
    intro k a a' s s' hk h
    obtain ⟨a1, s1, h1, h2⟩ := oc2_some (show oc2 (evOne P r nt ops.toList a o s) (fun a s => evOps P r nt ops.toList l a s) = some (a', s') from h)
    obtain ⟨q1, q2, u, rfl, q3⟩ := evOne_ok hcall hyld h1
    have hk' : ops.toList.drop (k + 1) = l := by rw [← List.drop_drop, hk]; rfl
    have hi : ops[k]? = some o := by
      rw [← Array.getElem?_toList]
      have := congrArg (fun l => l[0]?) hk
      simpa using this
    obtain ⟨p1, p2⟩ := ih (k + 1) hk' h2
    refine ⟨q1.trans p1, fun {G B E w ac ro} hG hs ht {Q} hQ => ?_⟩
    show wpOpsIn (fen ro) 0 P ops Q (k :: List.range' (k + 1) l.length) ac w
    rw [wpOpsIn_cons]
    refine q3 hi (fun j hj => hG j (p1.l j hj)) hs (TRel.look hs ht ops o) fun E1 u' w1 hu hs1 hx1 => ?_
    refine p2 hG hs1 ((ht.mono hx1.le).put q2 hu) fun E2 ac2 w2 ht2 hd2 hs2 hx2 => ?_
    exact hQ E2 ac2 w2 ht2 (hd2.trans (act_put_defers _ _ _)) hs2 (hx1.trans hx2 p1.w)
end
end Ev
end Go.Proofs.YtbjllaknnpbkkaaGreatDoor
