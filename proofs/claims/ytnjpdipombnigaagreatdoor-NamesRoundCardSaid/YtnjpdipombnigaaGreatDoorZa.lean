/-
  The symbolic evaluator: contracts by hand.
  The symbolic evaluator: one leaf of a tree of cases, as a law of the call; one more contract.
  The symbolic evaluator: a call that is given a row of whole numbers, wherever it lies.
-/
import Derived.Test.YtnjpdipombnigaaGreatDoorYl
namespace Go.Proofs.YtnjpdipombnigaaGreatDoor
namespace Ev
open Go.RowKit

section
variable {P : Program} {G : Nat → Prop} {B : Nat} {E : Env} {s s' : St} {w w' : World} {v : AV}
/-- A block that a call has laid, under a new id. -/
theorem Sat.adopt (h : Sat G B E s w) {b C : Nat} {o : AObj} {ob : Obj} (hg : G s.c) (hw : Below w.heap.size w w') (hb : w.heap.size ≤ b) (hob : w'.heap[b]? = some ob) (hok : OkObj (E.set s.c (.live b C)) s.c o ob) :
    Sat G B (E.set s.c (.live b C)) (s.new o) w' ∧ Ext B (s.new o).w E (E.set s.c (.live b C)) w w' := by
  have hu := h.fresh s.c (Nat.le_refl _) hg
  have hle : E.le (E.set s.c (.live b C)) := E.set_le _ _ (by rw [hu]; trivial)
  have hbl : b < w'.heap.size := (Array.getElem?_eq_some_iff.1 hob).1
  refine ⟨⟨?_, ?_, Nat.le_trans h.base hw.size, fun g hg => Slot.at_le (hle g) (h.glob g hg), ?_, ?_, h.orc, fun k hk => ?_, h.defs⟩, hle, ?_, ?_, hw.mono h.base, fun k hk _ => hw.block k hk, fun j b' X hj => ?_, fun _ h => .inl h⟩
  · intro i j b' X Y hbb hi hj
    by_cases h1 : i = s.c <;> by_cases h2 : j = s.c
    · rw [h1, h2]
    · subst h1
      rw [Env.set_same] at hi
      rw [Env.set_ne _ _ h2] at hj
      cases hi
      have := h.lt _ _ _ hj
      omega
    · subst h2
      rw [Env.set_same] at hj
      rw [Env.set_ne _ _ h1] at hi
      cases hj
      have := h.lt _ _ _ hi
      omega
    · rw [Env.set_ne _ _ h1] at hi
      rw [Env.set_ne _ _ h2] at hj
      exact h.inj i j b' X Y hbb hi hj
  · intro i b' X hi
    by_cases h1 : i = s.c
    · subst h1
      rw [Env.set_same] at hi
      cases hi
      exact hbl
    · rw [Env.set_ne _ _ h1] at hi
      exact Nat.lt_of_lt_of_le (h.lt i b' X hi) hw.size
  · intro i hi hgi
    have hi' : s.c + 1 ≤ i := hi
    rw [Env.set_ne _ _ (by omega)]
    exact h.fresh i (by omega) hgi
  · intro j oj hgj hj
    rcases T.put_some hj with ⟨rfl, hx⟩ | ⟨hne, hx⟩
    · cases hx
      exact ⟨b, C, ob, Env.set_same _ _ _, hob, hok, .inr (Nat.le_trans h.base hb)⟩
    · obtain ⟨b', X, ob', he, hh, hok', hx'⟩ := h.fact j oj hgj hx
      have hne : j ≠ s.c := hne
      exact ⟨b', X, ob', by rw [Env.set_ne _ _ hne]; exact he, (hw.block b' (h.lt j b' X he)).trans hh, hok'.mono hle (fun b X hbx => by rw [Env.set_ne _ _ hne]; exact hbx), hx'⟩
  · obtain ⟨h1, h2, h3⟩ := h.prot k hk
    refine ⟨Nat.lt_of_lt_of_le h1 hw.size, (hw.block k h1).trans h2, fun j X hj => ?_⟩
    by_cases hjc : j = s.c
    · subst hjc
      rw [Env.set_same] at hj
      cases hj
      omega
    · rw [Env.set_ne _ _ hjc] at hj
      exact h3 j X hj
  · intro j hj
    exact Env.set_ne _ _ (fun e => hj ((in_lor _ _ _).2 (.inr ((in_bit _ _).2 e.symm))))
  · intro j b' X _ he
    exact hw.block b' (h.lt j b' X he)
  · by_cases hjc : j = s.c
    · subst hjc
      rw [Env.set_same] at hj
      cases hj
      exact .inr (.inl hb)
    · rw [Env.set_ne _ _ hjc] at hj
      exact .inl ⟨j, X, hj⟩
theorem enters {f : FuncId} {fn : Func} {c : Code} (hf : P.funcs[f]? = some fn) (hname : (fn.name == "runtime.NumGoroutine") = false) (hb : fn.body = some c) (args : Array Value) (w : World) : (callFunc f args).run P w = .ok (.enter f args) w := by
  have h1 : fn.name ≠ "runtime.NumGoroutine" := by simpa using hname
  simp [callFunc, run_program, hf, h1, hb]
/-- A number, as an expression. -/
noncomputable def seC {β : Type} (x : AV) (k : IntKind → SE → Option β) : Option β := match x with
  | .int q n => k q (.lit n)
  | .sint q e => k q e
  | _ => none
theorem seC_some {β : Type} {x : AV} {k : IntKind → SE → Option β} {r : β} (h : seC x k = some r) : ∃ q e, k q e = some r ∧ ∀ {E : Env} {x' : Value}, Rel E x x' → x' = .int q (e.val E.ρ) := by
  cases x <;> first | (cases h; done) | skip
  · exact ⟨_, _, h, fun hr => by cases hr; rfl⟩
  · exact ⟨_, _, h, fun hr => by cases hr; rfl⟩
/-- Known not to be below; known to be below. -/
noncomputable def notLt (O : Orc) (a b : SE) : Bool := whenF (O.lt a b)
  where whenF (x : Option Bool) : Bool := match x with
  | some false => true
  | _ => false
theorem notLt_ok {O : Orc} {ρ : Nat → Int} (ho : OrcOk O ρ) {a b : SE} (h : notLt O a b = true) : b.val ρ ≤ a.val ρ := by
  unfold notLt notLt.whenF at h
  split at h
  · rename_i heq
    have := ho.lt _ _ _ heq
    have := of_decide_eq_false this.symm
    omega
  · cases h
end
end Ev
end Go.Proofs.YtnjpdipombnigaaGreatDoor
namespace Go.Proofs.YtnjpdipombnigaaGreatDoor
namespace Ev
open Go.RowKit

/-- A run that answers true, wherever its facts hold. -/
theorem leaf_ok {P : Program} [IsProg P] {ctr : Ctr} {n : Nat} (hr : RecOk P n (ev P ctr n)) {f : FuncId} {args : List AV} {args' : Array Value} {tabs : List (Nat × List AV)} {fs : List Fact} {ρ : Nat → Int} {w : World}
    (hrun : okT ((ev P ctr n).call f args (startT tabs (orcI fs))) = true) (ht : TabsIn w tabs) (hf : ∀ f ∈ fs, f.holds ρ) (ha : RelL (env0 ρ tabs) args args'.toList) : Calls P f args' w fun e w' => e = .returned (.bool true) ∧ Below w.heap.size w w' := by
  obtain ⟨s', hs'⟩ := okT_some hrun
  have hc := (hr.call hs').2 (fun _ _ => trivial) (satT ht (orcI_ok hf)) ha
  refine (callsIn_wide.1 hc.2).mono ?_
  rintro e w' ⟨E', v', rfl, hv, _, hx⟩
  cases hv
  exact ⟨rfl, hx.below⟩
/-- One more contract. -/
noncomputable def ctrU (f : FuncId) (g : List AV → St → R) (c : Ctr) : Ctr := fun f' => bi (Nat.beq f' f) (some g) (c f')
theorem ctrU_ok {P : Program} [IsProg P] {f : FuncId} {g : List AV → St → R} {c : Ctr} (hc : CtrOk P c) (h : ∀ {args : List AV} {s : St} {v : AV} {s' : St}, g args s = some (v, s') → Step s s' ∧ ∀ {G : Nat → Prop} {B : Nat} {E : Env} {w : World} {args' : Array Value}, (∀ j, In s'.l j → G j) → Sat G B E s w → RelL E args args'.toList → CallRes P f args' w (RetOk G B s' v E w)) : CtrOk P (ctrU f g c) := by
  intro f' g' hf args s v s' hg
  have hf' : bi (Nat.beq f' f) (some g) (c f') = some g' := hf
  cases hb : Nat.beq f' f with
  | false => rw [hb] at hf'; exact hc f' g' hf' hg
  | true =>
    rw [hb] at hf'
    cases hf'
    have : f' = f := by simpa using hb
    subst this
    exact h hg
theorem names_of {P : Program} [IsProg P] (h : (P.funcs.toList.all fun fn => fn.name != "runtime.NumGoroutine") = true) (f : FuncId) (fn : Func) (hf : P.funcs[f]? = some fn) : fn.name ≠ "runtime.NumGoroutine" := by
  have := List.all_eq_true.1 h fn (by
    rw [← Array.getElem?_toList] at hf
    exact List.mem_of_getElem? hf)
  simpa using this
/-- Facts, by arithmetic. -/
theorem Fact.hold_t {ρ : Nat → Int} {a b : SE} (h : a.val ρ < b.val ρ) : (⟨true, a, b, true⟩ : Fact).holds ρ := dec_t h
theorem Fact.hold_f {ρ : Nat → Int} {a b : SE} (h : ¬ a.val ρ < b.val ρ) : (⟨true, a, b, false⟩ : Fact).holds ρ := dec_f h
end Ev
end Go.Proofs.YtnjpdipombnigaaGreatDoor
namespace Go.Proofs.YtnjpdipombnigaaGreatDoor
namespace Ev
open Go.RowKit

/-- The tables, and one row that came in. -/
noncomputable def startR (tabs : List (Nat × List AV)) (vs : List AV) (O : Orc) : St := ⟨65, (initH tabs).put (nat_lit 64) (some (.row vs)), 0, 0, O⟩
def envR (ρ : Nat → Int) (tabs : List (Nat × List AV)) (b C : Nat) : Env := (env0 ρ tabs).set 64 (.live b C)
/-- The row lies in the world. -/
def RowIn (w : World) (b C : Nat) (xs : List Value) : Prop := b < w.heap.size ∧ ∃ c e f rest, w.heap[b]? = some (.cells c e f) ∧ c.toList.drop C = xs ++ rest
theorem satR {w : World} {tabs : List (Nat × List AV)} (ok : TabsIn w tabs) {O : Orc} {ρ : Nat → Int} (ho : OrcOk O ρ) {b C : Nat} {vs : List AV} {xs : List Value} (hrow : RowIn w b C xs) (hr : RelL (envR ρ tabs b C) vs xs) (hd : ∀ d ∈ O.defs, DefOk O.tabs ρ (fun _ => default) d := by intro d h; exact absurd h List.not_mem_nil) :
    Sat (fun _ => True) w.heap.size (envR ρ tabs b C) (startR tabs vs O) w := by
  obtain ⟨hb, c, e, f, rest, hh, hx⟩ := hrow
  have h64 : ∀ {i b' C'}, envR ρ tabs b C i = .live b' C' → (i = 64 ∧ b' = b ∧ C' = C) ∨ (i ≠ 64 ∧ env0 ρ tabs i = .live b' C') := by
    intro i b' C' h
    by_cases hi : i = 64
    · subst hi
      rw [envR, Env.set_same] at h
      cases h
      exact .inl ⟨rfl, rfl, rfl⟩
    · rw [envR, Env.set_ne _ _ hi] at h
      exact .inr ⟨hi, h⟩
  have hlt : ∀ i b' C', envR ρ tabs b C i = .live b' C' → b' < w.heap.size := by
    intro i b' C' hi
    rcases h64 hi with ⟨_, rfl, _⟩ | ⟨_, hi⟩
    · exact hb
    · obtain ⟨rfl, _, vs, hm⟩ := env0_live hi
      obtain ⟨_, c, e, f, hh, _⟩ := ok _ _ hm
      exact (Array.getElem?_eq_some_iff.1 hh).1
  refine ⟨?_, hlt, Nat.le_refl _, ?_, ?_, ?_, ho, fun b hb => hb.elim, hd⟩
  · intro i j b' X Y hb' hi _
    exact absurd (hlt _ _ _ hi) (Nat.not_lt.2 hb')
  · intro g hg
    rw [envR, Env.set_ne _ _ (by omega)]
    simp only [env0]
    rw [if_pos hg]
    split
    · rfl
    · trivial
  · intro i hi _
    have hi' : 65 ≤ i := hi
    rw [envR, Env.set_ne _ _ (by omega)]
    simp only [env0]
    rw [if_neg (by omega)]
  · intro i o _ hg
    rcases T.put_some (show ((initH tabs).put (nat_lit 64) (some (.row vs))).get i = some o from hg) with ⟨rfl, h1⟩ | ⟨hne, h1⟩
    · cases h1
      exact ⟨b, C, _, Env.set_same _ _ _, hh, ⟨c, e, f, b, C, xs, rest, rfl, Env.set_same _ _ _, hx, hr⟩, .inl rfl⟩
    · have hne : i ≠ 64 := hne
      obtain ⟨vs', hm, rfl⟩ := initH_get h1
      obtain ⟨hl, c', e', f', hh', hr'⟩ := ok _ _ hm
      refine ⟨i, 0, _, ?_, hh', ⟨c', e', f', rfl, hr' _⟩, .inl rfl⟩
      rw [envR, Env.set_ne _ _ hne]
      simp only [env0]
      rw [if_pos hl, if_pos]
      exact List.any_eq_true.2 ⟨(i, vs'), hm, by simp⟩
/-- A run over a row that answers true, wherever its facts hold. -/
theorem leafR_ok {P : Program} [IsProg P] {ctr : Ctr} {n : Nat} (hr : RecOk P n (ev P ctr n)) {f : FuncId} {args : List AV} {args' : Array Value} {tabs : List (Nat × List AV)} {fs : List Fact} {ρ : Nat → Int} {w : World} {b C : Nat} {vs : List AV} {xs : List Value}
    (hrun : okT ((ev P ctr n).call f args (startR tabs vs (orcI fs))) = true) (ht : TabsIn w tabs) (hf : ∀ f ∈ fs, f.holds ρ) (hrow : RowIn w b C xs) (hvs : RelL (envR ρ tabs b C) vs xs) (ha : RelL (envR ρ tabs b C) args args'.toList) : Calls P f args' w fun e w' => e = .returned (.bool true) ∧ Below w.heap.size w w' := by
  obtain ⟨s', hs'⟩ := okT_some hrun
  have hc := (hr.call hs').2 (fun _ _ => trivial) (satR ht (orcI_ok hf) hrow hvs) ha
  refine (callsIn_wide.1 hc.2).mono ?_
  rintro e w' ⟨E', v', rfl, hv, _, hx⟩
  cases hv
  exact ⟨rfl, hx.below⟩
/-- Numbers of a row are variables from k on. -/
noncomputable def varsFrom (q : IntKind) (k : Nat) : Nat → List AV
  | 0 => []
  | n + 1 => .sint q (.var k) :: varsFrom q (Nat.succ k) n
theorem varsFrom_rel {E : Env} {q : IntKind} : ∀ {xs : List Int} {k : Nat}, (∀ i x, xs[i]? = some x → E.ρ (k + i) = x) → RelL E (varsFrom q k xs.length) (xs.map (Value.int q))
  | [], _, _ => .nil
  | x :: r, k, h => by
    have h0 := h 0 x rfl
    refine .cons ?_ (varsFrom_rel fun i y hy => ?_)
    · rw [← h0]
      exact .sint q (.var k)
    · have := h (i + 1) y hy
      rw [← this]
      congr 1
      show Nat.succ k + i = k + (i + 1)
      omega
end Ev
end Go.Proofs.YtnjpdipombnigaaGreatDoor
