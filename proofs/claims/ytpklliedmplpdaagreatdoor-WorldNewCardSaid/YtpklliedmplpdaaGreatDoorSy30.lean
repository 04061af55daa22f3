/-
  The symbolic evaluator: contracts by hand.
-/
import Derived.Test.YtpklliedmplpdaaGreatDoorSy29
namespace Go.Proofs.YtpklliedmplpdaaGreatDoor
namespace Ev
open Go.RowKit

section
variable {P : Program} {G : Nat → Prop} {B : Nat} {E : Env} {s s' : St} {w w' : World} {v : AV}
/-- A block that a call has laid, under a new id. -/
theorem Sat.adopt (h : Sat G B E s w) {b C : Nat} {o : AObj} {ob : Obj} (hg : G s.c) (hw : Below w.heap.size w w') (hb : w.heap.size ≤ b) (hob : w'.heap[b]? = some ob) (hok : OkObj (E.set s.c (.live b C)) s.c o ob) :
    Sat G B (E.set s.c (.live b C)) (s.new o) w' ∧ Ext B (s.new o).w E (E.set s.c (.live b C)) w w' := by
  have hu := h.fresh s.c (Nat.le_refl _) hg
  have hle : E.le (E.set s.c (.live b C)) := E.set_le _ _ (by rw [hu]; trivial)
  have hbl : b < w'.heap.size := (Array.getElem?_eq_some_iff.1 hob).1
  refine ⟨⟨?_, ?_, Nat.le_trans h.base hw.size, fun g hg => Slot.at_le (hle g) (h.glob g hg), ?_, ?_, h.orc⟩, hle, ?_, ?_, hw.mono h.base⟩
  · intro i j b' X Y hi hj
    by_cases h1 : i = s.c <;> by_cases h2 : j = s.c
    · rw [h1, h2]
    · subst h1
      rw [Env.set_same] at hi
      rw [Env.set_ne _ _ h2] at hj
      cases hi
      have := h.lt _ _ _ hj
      omega
    · subst h2
      rw [Env.set_same] at hj
      rw [Env.set_ne _ _ h1] at hi
      cases hj
      have := h.lt _ _ _ hi
      omega
    · rw [Env.set_ne _ _ h1] at hi
      rw [Env.set_ne _ _ h2] at hj
      exact h.inj i j b' X Y hi hj
  · intro i b' X hi
    by_cases h1 : i = s.c
    · subst h1
      rw [Env.set_same] at hi
      cases hi
      exact hbl
    · rw [Env.set_ne _ _ h1] at hi
      exact Nat.lt_of_lt_of_le (h.lt i b' X hi) hw.size
  · intro i hi hgi
    have hi' : s.c + 1 ≤ i := hi
    rw [Env.set_ne _ _ (by omega)]
    exact h.fresh i (by omega) hgi
  · intro j oj hgj hj
    rcases T.put_some hj with ⟨rfl, hx⟩ | ⟨hne, hx⟩
    · cases hx
      exact ⟨b, C, ob, Env.set_same _ _ _, hob, hok, .inr (Nat.le_trans h.base hb)⟩
    · obtain ⟨b', X, ob', he, hh, hok', hx'⟩ := h.fact j oj hgj hx
      have hne : j ≠ s.c := hne
      exact ⟨b', X, ob', by rw [Env.set_ne _ _ hne]; exact he, (hw.block b' (h.lt j b' X he)).trans hh, hok'.mono hle (fun b X hbx => by rw [Env.set_ne _ _ hne]; exact hbx), hx'⟩
  · intro j hj
    exact Env.set_ne _ _ (fun e => hj ((in_lor _ _ _).2 (.inr ((in_bit _ _).2 e.symm))))
  · intro j b' X _ he
    exact hw.block b' (h.lt j b' X he)
theorem enters {f : FuncId} {fn : Func} {c : Code} (hf : P.funcs[f]? = some fn) (hname : (fn.name == "runtime.NumGoroutine") = false) (hb : fn.body = some c) (args : Array Value) (w : World) : (callFunc f args).run P w = .ok (.enter f args) w := by
  have h1 : fn.name ≠ "runtime.NumGoroutine" := by simpa using hname
  simp [callFunc, run_program, hf, h1, hb]
/-- A number, as an expression. -/
noncomputable def seC {β : Type} (x : AV) (k : IntKind → SE → Option β) : Option β := match x with
  | .int q n => k q (.lit n)
  | .sint q e => k q e
  | _ => none
theorem seC_some {β : Type} {x : AV} {k : IntKind → SE → Option β} {r : β} (h : seC x k = some r) : ∃ q e, k q e = some r ∧ ∀ {E : Env} {x' : Value}, Rel E x x' → x' = .int q (e.val E.ρ) := by
  cases x <;> first | (cases h; done) | skip
  · exact ⟨_, _, h, fun hr => by cases hr; rfl⟩
  · exact ⟨_, _, h, fun hr => by cases hr; rfl⟩
/-- Known not to be below; known to be below. -/
noncomputable def notLt (O : Orc) (a b : SE) : Bool := whenF (O.lt a b)
  where whenF (x : Option Bool) : Bool := match x with
  | some false => true
  | _ => false
theorem notLt_ok {O : Orc} {ρ : Nat → Int} (ho : OrcOk O ρ) {a b : SE} (h : notLt O a b = true) : b.val ρ ≤ a.val ρ := by
  unfold notLt notLt.whenF at h
  split at h
  · rename_i heq
    have := ho.lt _ _ _ heq
    have := of_decide_eq_false this.symm
    omega
  · cases h
end
end Ev
end Go.Proofs.YtpklliedmplpdaaGreatDoor
