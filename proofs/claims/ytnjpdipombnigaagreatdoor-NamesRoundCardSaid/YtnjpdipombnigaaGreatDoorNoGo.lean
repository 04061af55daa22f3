/-
  A program none of whose bodies bears a go statement: no call of it starts a goroutine. (Plain; the card's fact on 'goes' without the closure.)
-/
import Derived.Test.YtnjpdipombnigaaGreatDoorRows
import Derived.SevenTiedAt
namespace Go.Proofs.YtnjpdipombnigaaGreatDoor
theorem Goes.any_none {P : Program} (h : P.funcs.all (fun f => !f.goes) = true) (g : FuncId) : (P.funcs[g]?).any Func.goes = false := by
  cases hg : P.funcs[g]? with
  | none => rfl
  | some f =>
    rw [Array.all_eq_true'] at h
    have := h f (Array.mem_of_getElem? hg)
    simpa using this
theorem Goes.none {P : Program} (h : P.funcs.all (fun f => !f.goes) = true) (f : FuncId) : P.goes f = false := by
  have h2 : P.funcs.any Func.goes = false := by
    rw [Array.any_eq_false']
    rw [Array.all_eq_true'] at h
    intro x hx
    have := h x hx
    simpa using this
  unfold Program.goes
  rw [h2, Bool.and_false, Bool.or_false]
  rw [List.any_eq_false]
  intro g _
  rw [Goes.any_none h]
  simp
theorem Goes.by_none {P : Program} (h : P.funcs.all (fun f => !f.goes) = true) (c : OpenClaim) : false = c.goesBy P := by
  have h1 : ∀ s, P.goesFrom s = false := by
    intro s
    unfold Program.goesFrom
    cases P.funcNamed s with
    | none => rfl
    | some f => exact Goes.none h f
  have h2 : P.inits.toList.any P.goes = false := by
    rw [List.any_eq_false]
    intro g _
    rw [Goes.none h]
    simp
  unfold OpenClaim.goesBy Program.goesAt
  rw [h1, h2]
  cases c.start <;> rfl
theorem goes_none : Tryz.prog.funcs.all (fun f => !f.goes) = true := by kernel_rfl
theorem goes_row (c : OpenClaim) : false = c.goesBy Tryz.prog := Goes.by_none goes_none c
end Go.Proofs.YtnjpdipombnigaaGreatDoor
