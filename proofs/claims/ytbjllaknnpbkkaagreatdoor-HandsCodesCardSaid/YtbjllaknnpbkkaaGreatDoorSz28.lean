/-
  The symbolic evaluator: a closed call that is known to answer true, as a contract.
-/
import Derived.Test.YtbjllaknnpbkkaaGreatDoorSz27
namespace Go.Proofs.YtbjllaknnpbkkaaGreatDoor
namespace Ev
open Go.RowKit

noncomputable def plainEq : AV → AV → Bool
  | .bool a, .bool b => a == b
  | .int k a, .int q b => kindEq k q && eqA a b
  | .str a, .str b => bytesEq a b
  | _, _ => false
noncomputable def plainsEq : List AV → List AV → Bool
  | [], [] => true
  | x :: l, y :: m => plainEq x y && plainsEq l m
  | _, _ => false
noncomputable def tabEq (o : Option AObj) (l : List AV) : Bool := match o with
  | some (.tab m) => plainsEq m l
  | _ => false
noncomputable def tabsIn (s : St) : List (Nat × List AV) → Bool
  | [] => true
  | p :: r => tabEq (s.h.get p.1) p.2 && (Nat.blt p.1 (nat_lit 64) && tabsIn s r)
noncomputable def seeAll (s : St) : List (Nat × List AV) → St
  | [] => s
  | p :: r => seeAll (s.see p.1) r
/-- A closed call that answers true wherever the tables are these. -/
noncomputable def knownTrue (tabs : List (Nat × List AV)) (args : List AV) (s : St) : R := match args with
  | [] => bc (tabsIn s tabs) (some (.bool true, seeAll s tabs))
  | _ => none
noncomputable def startT (tabs : List (Nat × List AV)) (O : Orc) : St := ⟨64, initH tabs, 0, 0, O⟩

theorem plainEq_ok {E E' : Env} {x y : AV} {v : Value} (h : plainEq x y = true) (hr : Rel E x v) : Rel E' y v := by
  cases x <;> cases y <;> first | (cases h; done) | skip
  · cases hr
    rename_i a b
    have e : a = b := by simpa [plainEq] using h
    subst e
    exact .bool _
  · cases hr
    simp only [plainEq, Bool.and_eq_true] at h
    have h1 := kindEq_ok h.1
    have h2 := h.2
    rw [eqA_eq] at h2
    have h3 := of_decide_eq_true h2
    subst h1
    subst h3
    exact .int _ _
  · cases hr
    have h' := h
    simp only [plainEq, bytesEq_eq] at h'
    rename_i a b
    have e : a = b := by simpa using h'
    subst e
    exact .str _
theorem plainsEq_ok {E E' : Env} : ∀ {l m : List AV} {ys : List Value}, plainsEq l m = true → RelL E l ys → RelL E' m ys
  | [], [], _, _, .nil => .nil
  | _ :: _, _ :: _, _, h, .cons hx ht => by
    simp only [plainsEq, Bool.and_eq_true] at h
    exact .cons (plainEq_ok h.1 hx) (plainsEq_ok h.2 ht)
  | [], _ :: _, _, h, _ => by cases h
  | _ :: _, [], _, h, _ => by cases h

/-- The tables are laid in the world. -/
def TabsIn (w : World) (tabs : List (Nat × List AV)) : Prop := ∀ g l, (g, l) ∈ tabs → g < 64 ∧ ∃ c e f, w.heap[g]? = some (.cells c e f) ∧ ∀ E : Env, RelL E l c.toList
theorem satT {w : World} {tabs : List (Nat × List AV)} (ok : TabsIn w tabs) {O : Orc} {ρ : Nat → Int} (ho : OrcOk O ρ) : Sat (fun _ => True) w.heap.size (env0 ρ tabs) (startT tabs O) w := by
  refine ⟨?_, ?_, Nat.le_refl _, ?_, ?_, ?_, ho⟩
  · intro i j b C D _ hi hj
    have h1 := (env0_live hi).1
    have h2 := (env0_live hj).1
    omega
  · intro i b C hi
    obtain ⟨rfl, _, vs, hm⟩ := env0_live hi
    obtain ⟨_, c, e, f, hh, _⟩ := ok _ _ hm
    exact (Array.getElem?_eq_some_iff.1 hh).1
  · intro g hg
    simp only [env0]
    rw [if_pos hg]
    split
    · rfl
    · trivial
  · intro i hi _
    have hi' : 64 ≤ i := hi
    simp only [env0]
    rw [if_neg (by omega)]
  · intro i o _ hg
    obtain ⟨vs, hm, rfl⟩ := initH_get hg
    obtain ⟨hlt, c, e, f, hh, hr⟩ := ok _ _ hm
    refine ⟨i, 0, _, ?_, hh, ⟨c, e, f, rfl, hr _⟩, .inl rfl⟩
    simp only [env0]
    rw [if_pos hlt, if_pos]
    exact List.any_eq_true.2 ⟨(i, vs), hm, by simp⟩
theorem seeAll_step : ∀ (tabs : List (Nat × List AV)) (s : St), Step s (seeAll s tabs) ∧ (seeAll s tabs).h = s.h ∧ (seeAll s tabs).c = s.c ∧ (seeAll s tabs).w = s.w ∧ ∀ g l, (g, l) ∈ tabs → In (seeAll s tabs).l g
  | [], s => ⟨Step.refl _, rfl, rfl, rfl, fun _ _ h => by cases h⟩
  | p :: r, s => by
    obtain ⟨h1, h2, h3, h4, h5⟩ := seeAll_step r (s.see p.1)
    refine ⟨(Step.see _ _).trans h1, h2, h3, h4, fun g l hm => ?_⟩
    rcases List.mem_cons.1 hm with rfl | hm
    · exact h1.l _ (in_see _ _)
    · exact h5 g l hm
theorem tabsIn_ok {G : Nat → Prop} {B : Nat} {E : Env} {s : St} {w : World} (hs : Sat G B E s w) : ∀ {tabs : List (Nat × List AV)}, tabsIn s tabs = true → (∀ g l, (g, l) ∈ tabs → G g) → TabsIn w tabs
  | [], _, _ => fun _ _ h => by cases h
  | p :: r, h, hg => by
    simp only [tabsIn, Bool.and_eq_true] at h
    obtain ⟨h1, h2, h3⟩ := h
    have ih := tabsIn_ok hs h3 (fun g l hm => hg g l (by simp [hm]))
    intro g l hm
    rcases List.mem_cons.1 hm with rfl | hm
    · have hlt : g < 64 := by simpa using h2
      refine ⟨hlt, ?_⟩
      unfold tabEq at h1
      split at h1
      · rename_i m ho
        obtain ⟨b, C, ob, he, hh, hok, _⟩ := hs.fact g _ (hg g l (by simp)) ho
        obtain ⟨c, e, f, rfl, hr⟩ := hok
        have := hs.at_live he (hs.glob g hlt)
        subst this
        exact ⟨c, e, f, hh, fun E' => plainsEq_ok h1 hr⟩
      · cases h1
    · exact ih g l hm
theorem Sat.later {G : Nat → Prop} {B : Nat} {E : Env} {s : St} {w w' : World} (hs : Sat G B E s w) (hb : Below w.heap.size w w') : Sat G B E s w' ∧ ∀ W, Ext B W E E w w' := by
  refine ⟨⟨hs.inj, fun i b C h => Nat.lt_of_lt_of_le (hs.lt i b C h) hb.size, Nat.le_trans hs.base hb.size, hs.glob, hs.fresh, ?_, hs.orc⟩, fun W => ⟨Env.le_refl _, fun _ _ => rfl, fun j b C _ he => hb.block b (hs.lt j b C he), hb.mono hs.base⟩⟩
  intro i o hg ho
  obtain ⟨b, C, ob, he, hh, hok⟩ := hs.fact i o hg ho
  exact ⟨b, C, ob, he, (hb.block b (hs.lt i b C he)).trans hh, hok⟩
theorem known_ok {P : Program} {tabs : List (Nat × List AV)} {ctr : Ctr} (hctr : CtrOk P ctr) (hmix : P.follows .mixedOrders = true) (hnames : (P.funcs.toList.all fun fn => fn.name != "runtime.NumGoroutine") = true) {n : Nat} {f : FuncId}
    (hrun : okT ((ev P ctr n).call f [] (startT tabs noOrc)) = true) : ∀ {args : List AV} {s : St} {v : AV} {s' : St}, knownTrue tabs args s = some (v, s') → Step s s' ∧ ∀ {G : Nat → Prop} {B : Nat} {E : Env} {w : World} {args' : Array Value}, (∀ j, In s'.l j → G j) → Sat G B E s w → RelL E args args'.toList →
      CallRes P f args' w (RetOk G B s' v E w) := by
  intro args s v s' h
  unfold knownTrue at h
  split at h
  case h_2 => cases h
  obtain ⟨ht, h1⟩ := bc_some h
  cases h1
  obtain ⟨q1, q2, q3, q4, q5⟩ := seeAll_step tabs s
  refine ⟨q1, fun {G B E w args'} hG hs ha => ?_⟩
  have htabs := tabsIn_ok hs ht (fun g l hm => hG g (q5 g l hm))
  obtain ⟨s1, hs1⟩ := okT_some hrun
  have hn : ∀ (f : FuncId) (fn : Func), P.funcs[f]? = some fn → fn.name ≠ "runtime.NumGoroutine" := by
    intro f fn hf
    have := List.all_eq_true.1 hnames fn (by
      rw [← Array.getElem?_toList] at hf
      exact List.mem_of_getElem? hf)
    simpa using this
  have ha' : args' = #[] := by
    obtain ⟨l⟩ := args'
    cases ha
    rfl
  subst ha'
  obtain ⟨hent, hcalls⟩ := ((ev_ok hmix hctr hn n).call hs1).2 (fun _ _ => trivial) (satT htabs (noOrc_ok fun _ => 0)) (args' := #[]) .nil
  refine ⟨hent, hcalls.mono fun e w' he => ?_⟩
  obtain ⟨E', v', rfl, hv, _, hx⟩ := he
  cases hv
  obtain ⟨k1, k2⟩ := hs.later hx.below
  refine ⟨E, _, rfl, .bool true, ⟨k1.inj, k1.lt, k1.base, k1.glob, ?_, ?_, ?_⟩, k2 _⟩
  · rw [q3]; exact k1.fresh
  · rw [q2]; exact k1.fact
  · rw [q1.o]; exact k1.orc
/-- One function of known answer. -/
noncomputable def ctr1 (f : FuncId) (g : List AV → St → R) : Ctr := fun f' => bi (Nat.beq f' f) (some g) none
theorem ctr1_ok {P : Program} {f : FuncId} {g : List AV → St → R} (h : ∀ {args : List AV} {s : St} {v : AV} {s' : St}, g args s = some (v, s') → Step s s' ∧ ∀ {G : Nat → Prop} {B : Nat} {E : Env} {w : World} {args' : Array Value}, (∀ j, In s'.l j → G j) → Sat G B E s w → RelL E args args'.toList → CallRes P f args' w (RetOk G B s' v E w)) : CtrOk P (ctr1 f g) := by
  intro f' g' hf args s v s' hg
  have hf' : bi (Nat.beq f' f) (some g) none = some g' := hf
  cases hb : Nat.beq f' f with
  | false => rw [hb] at hf'; cases hf'
  | true =>
    rw [hb] at hf'
    cases hf'
    have : f' = f := by simpa using hb
    subst this
    exact h hg
theorem noCtr_ok {P : Program} : CtrOk P (fun _ => none) := fun _ _ h => by cases h
theorem TabsIn_of_laid {P : Program} {laid : List (String × DataW Unit)} {w : World} (h : laidMet P laid w) : TabsIn w (tabsOf P laid) := by
  obtain ⟨ps, hl, _⟩ := h
  intro g l hm
  obtain ⟨h1, c, e, f, hh, _⟩ := tabsOf_ok ⟨fun _ => .dead, fun _ => 0, fun _ => .same⟩ hl g l hm
  refine ⟨h1, c, e, f, hh, fun E => ?_⟩
  obtain ⟨_, c', e', f', hh', hr'⟩ := tabsOf_ok E hl g l hm
  rw [hh] at hh'
  cases hh'
  exact hr'
end Ev
end Go.Proofs.YtbjllaknnpbkkaaGreatDoor
