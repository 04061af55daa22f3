/-
  The symbolic evaluator: a closed call whose outcome is written down, as a contract for other runs.
  The symbolic evaluator: a state told as another one, under other ids and other variables.
-/
import Derived.Test.YtmghbbicjkmigaaGreatDoorZa
namespace Go.Proofs.YtmghbbicjkmigaaGreatDoor
namespace Ev
open Go.RowKit

noncomputable def entsX (c : Nat) : List Ent → List Ent → Bool
  | [], [] => true
  | x :: l, y :: m => likeV c [] (nat_lit 40) x.key y.key && (likeV c [] (nat_lit 40) x.val y.val && (Nat.beq x.born y.born && entsX c l m))
  | _, _ => false
/-- The same object, as it is written down. -/
noncomputable def sameO (c : Nat) (x y : AObj) : Bool := match x, y with
  | .cells a e f p, .cells b e' f' p' => likeO c [] (.cells a e f p) (.cells b e' f' p')
  | .part a, .part b => likeO c [] (.part a) (.part b)
  | .map a n, .map b k => Nat.beq n k && entsX c a b
  | _, _ => false
noncomputable def sameAt (c : Nat) (x : AObj) (o : Option AObj) : Bool := match o with
  | some y => sameO c x y
  | none => false
noncomputable def litsIn (c0 c1 : Nat) (h : T AObj) : List (Nat × AObj) → Bool
  | [] => true
  | p :: r => Nat.ble c0 p.1 && (Nat.blt p.1 c1 && (sameAt c1 p.2 (h.get p.1) && litsIn c0 c1 h r))
noncomputable def putsL (h : T AObj) : List (Nat × AObj) → T AObj
  | [] => h
  | p :: r => (putsL h r).put p.1 (some p.2)
/-- The look at the run. -/
noncomputable def litChk (x : R) (c0 c1 : Nat) (v : AV) (lits : List (Nat × AObj)) : Bool := match x with
  | some (u, s1) => Nat.beq s1.c c1 && (Nat.ble c0 c1 && (Nat.ble (nat_lit 64) c0 && (Nat.beq (low c0 s1.w) (nat_lit 0) && (likeV c1 [] (nat_lit 40) v u && litsIn c0 c1 s1.h lits))))
  | none => false
noncomputable def litSt (s : St) (c1 : Nat) (lits : List (Nat × AObj)) : St := ⟨c1, putsL s.h lits, Nat.lor s.l (marksIn s.c c1), Nat.lor s.w (marksIn s.c c1), s.o⟩
/-- The contract: from a state that begins to count at c0. -/
noncomputable def knownLit (tabs : List (Nat × List AV)) (c0 c1 : Nat) (v : AV) (lits : List (Nat × AObj)) (args : List AV) (s : St) : R := match args with
  | [] => bc (Nat.beq s.c c0) (bc (tabsIn s tabs) (some (v, litSt (seeAll s tabs) c1 lits)))
  | _ => none

theorem idS_nil {c i j : Nat} (h : idS c [] i j = true) : i = j := by
  have h' : bi (Nat.blt i c) (Nat.beq i j) false = true := h
  cases hb : Nat.blt i c with
  | false => rw [hb, bi_false] at h'; cases h'
  | true => rw [hb, bi_true] at h'; exact Nat.eq_of_beq_eq_true h'
theorem entsX_ok {E : Env} {c : Nat} : ∀ {a b : List Ent} {zs : List MapEntry}, entsX c a b = true → RelE E b zs → RelE E a zs
  | [], [], _, _, .nil => .nil
  | _ :: _, _ :: _, _, h, .cons h1 h2 h3 t => by
    simp only [entsX, Bool.and_eq_true] at h
    have hid : ∀ i j, idS c [] i j = true → E i = E j := fun i j h => by rw [idS_nil h]
    exact .cons (likeV_ok hid rfl 40 _ _ _ h.1 h1) (likeV_ok hid rfl 40 _ _ _ h.2.1 h2) ((Nat.eq_of_beq_eq_true h.2.2.1).trans h3) (entsX_ok h.2.2.2 t)
  | [], _ :: _, _, h, _ => by cases h
  | _ :: _, [], _, h, _ => by cases h
theorem sameO_ok {E : Env} {c i : Nat} {x y : AObj} {ob : Obj} (h : sameO c x y = true) (hok : OkObj E i y ob) : OkObj E i x ob := by
  have hid : ∀ i j, idS c [] i j = true → E i = E j := fun i j h => by rw [idS_nil h]
  unfold sameO at h
  split at h
  · exact likeObj_ok hid rfl rfl h (fun _ _ _ e => by cases e) hok
  · exact likeObj_ok hid rfl rfl h (fun _ _ _ e => by cases e) hok
  · rw [Bool.and_eq_true] at h
    obtain ⟨a, rfl, hr⟩ := hok
    exact ⟨a, by rw [Nat.eq_of_beq_eq_true h.1], entsX_ok h.2 hr⟩
  · cases h
theorem sameO_fixed {c : Nat} {x y : AObj} (h : sameO c x y = true) : y.fixed = false := by
  unfold sameO at h
  split at h <;> first | rfl | (cases h)
theorem putsL_some {h : T AObj} {i : Nat} {o : AObj} : ∀ {l : List (Nat × AObj)}, (putsL h l).get i = some o → (i, o) ∈ l ∨ ((∀ p ∈ l, p.1 ≠ i) ∧ h.get i = some o)
  | [], he => .inr ⟨fun p hp => (by cases hp), he⟩
  | p :: l, he => by
    rcases T.put_some (show ((putsL h l).put p.1 (some p.2)).get i = some o from he) with ⟨e, hx⟩ | ⟨hne, hx⟩
    · cases hx
      subst e
      exact .inl (List.mem_cons_self ..)
    · rcases putsL_some hx with h1 | ⟨h1, h2⟩
      · exact .inl (List.mem_cons_of_mem _ h1)
      · refine .inr ⟨fun q hq => ?_, h2⟩
        rcases List.mem_cons.1 hq with rfl | hq
        · exact fun e => hne e.symm
        · exact h1 q hq
theorem putsL_ne {h : T AObj} {i : Nat} : ∀ {l : List (Nat × AObj)}, (∀ p ∈ l, p.1 ≠ i) → (putsL h l).get i = h.get i
  | [], _ => rfl
  | p :: l, hl => by
    show ((putsL h l).put p.1 (some p.2)).get i = h.get i
    rw [T.put_ne _ _ _ _ (fun e => hl p (List.mem_cons_self ..) e.symm)]
    exact putsL_ne fun q hq => hl q (List.mem_cons_of_mem _ hq)
theorem litsIn_ok {c0 c1 : Nat} {h : T AObj} : ∀ {l : List (Nat × AObj)}, litsIn c0 c1 h l = true → ∀ p ∈ l, c0 ≤ p.1 ∧ p.1 < c1 ∧ ∃ y, h.get p.1 = some y ∧ sameO c1 p.2 y = true
  | [], _, p, hp => by cases hp
  | q :: r, hl, p, hp => by
    simp only [litsIn, Bool.and_eq_true] at hl
    rcases List.mem_cons.1 hp with rfl | hp
    · refine ⟨by simpa using hl.1, by simpa using hl.2.1, ?_⟩
      have h3 := hl.2.2.1
      unfold sameAt at h3
      split at h3
      · rename_i y hy
        exact ⟨y, hy, h3⟩
      · cases h3
    · exact litsIn_ok hl.2.2.2 p hp
theorem tabsIn_live {G : Nat → Prop} {B : Nat} {E : Env} {s : St} {w : World} (hs : Sat G B E s w) : ∀ {tabs : List (Nat × List AV)}, tabsIn s tabs = true → (∀ g l, (g, l) ∈ tabs → G g) → ∀ g l, (g, l) ∈ tabs → ∃ C, E g = .live g C
  | [], _, _ => fun _ _ h => by cases h
  | p :: r, h, hg => by
    simp only [tabsIn, Bool.and_eq_true] at h
    obtain ⟨h1, h2, h3⟩ := h
    have ih := tabsIn_live hs h3 (fun g l hm => hg g l (by simp [hm]))
    intro g l hm
    rcases List.mem_cons.1 hm with rfl | hm
    · have hlt : g < 64 := by simpa using h2
      unfold tabEq at h1
      split at h1
      · rename_i m ho
        obtain ⟨b, C, ob, he, hh, hok, _⟩ := hs.fact g _ (hg g l (by simp)) ho
        have := hs.at_live he (hs.glob g hlt)
        subst this
        exact ⟨C, he⟩
      · cases h1
    · exact ih g l hm
/-- The tables as E has them, nothing else. -/
def envT (E : Env) : Env := ⟨fun i => if i < 64 then E i else .unborn, E.ρ, E.st⟩
theorem satE {G : Nat → Prop} {B : Nat} {E : Env} {s : St} {w : World} (hs : Sat G B E s w) {tabs : List (Nat × List AV)} (ht : tabsIn s tabs = true) (hg : ∀ g l, (g, l) ∈ tabs → G g) {c0 : Nat} (h64 : 64 ≤ c0) :
    Sat (fun _ => True) w.heap.size (envT E) ⟨c0, initH tabs, nat_lit 0, nat_lit 0, noOrc⟩ w := by
  have ok := tabsIn_ok hs ht hg
  have hlt : ∀ i b C, envT E i = .live b C → b < w.heap.size := by
    intro i b C hi
    simp only [envT] at hi
    split at hi
    · exact hs.lt i b C hi
    · cases hi
  refine ⟨?_, hlt, Nat.le_refl _, ?_, ?_, ?_, noOrc_ok _⟩
  · intro i j b C D hb hi _
    exact absurd (hlt i b C hi) (Nat.not_lt.2 hb)
  · intro g h64
    simp only [envT]
    rw [if_pos h64]
    exact hs.glob g h64
  · intro i hi _
    have hi' : c0 ≤ i := hi
    simp only [envT]
    rw [if_neg (by omega)]
  · intro i o _ ho
    obtain ⟨vs, hm, rfl⟩ := initH_get ho
    obtain ⟨hl, c, e, f, hh, hr⟩ := ok _ _ hm
    obtain ⟨C, hC⟩ := tabsIn_live hs ht hg i vs hm
    refine ⟨i, C, _, ?_, hh, ⟨c, e, f, rfl, hr _⟩, .inl rfl⟩
    simp only [envT]
    rw [if_pos hl]
    exact hC
/-- What the ids stand for behind the call. -/
def litE (E E1 : Env) (c0 c1 : Nat) (ids : List Nat) : Env := ⟨fun i => if c0 ≤ i ∧ i < c1 then (if i ∈ ids then E1 i else .dead) else E i, E.ρ, fun t => if c0 ≤ t ∧ t < c1 then E1.st t else E.st t⟩
theorem knownLit_ok {P : Program} {tabs : List (Nat × List AV)} {ctr : Ctr} (hctr : CtrOk P ctr) (hmix : P.follows .mixedOrders = true) (hnames : (P.funcs.toList.all fun fn => fn.name != "runtime.NumGoroutine") = true) {n : Nat} {f : FuncId} {c0 c1 : Nat} {v0 : AV} {lits : List (Nat × AObj)}
    (hrun : litChk ((ev P ctr n).call f [] ⟨c0, initH tabs, nat_lit 0, nat_lit 0, noOrc⟩) c0 c1 v0 lits = true) : ∀ {args : List AV} {s : St} {v : AV} {s' : St}, knownLit tabs c0 c1 v0 lits args s = some (v, s') → Step s s' ∧ ∀ {G : Nat → Prop} {B : Nat} {E : Env} {w : World} {args' : Array Value}, (∀ j, In s'.l j → G j) → Sat G B E s w → RelL E args args'.toList →
      CallRes P f args' w (RetOk G B s' v E w) := by
  intro args s v s' h
  unfold litChk at hrun
  split at hrun
  case h_2 => cases hrun
  rename_i u s1 hs1
  simp only [Bool.and_eq_true] at hrun
  obtain ⟨k1, k2, k3, k4, k5, k6⟩ := hrun
  have k1 : s1.c = c1 := Nat.eq_of_beq_eq_true k1
  have k2 : c0 ≤ c1 := by simpa using k2
  have k3 : 64 ≤ c0 := by simpa using k3
  have k4 : low c0 s1.w = 0 := Nat.eq_of_beq_eq_true k4
  have hl := litsIn_ok k6
  unfold knownLit at h
  split at h
  case h_2 => cases h
  obtain ⟨hc, h⟩ := bc_some h
  obtain ⟨ht, h⟩ := bc_some h
  cases h
  have hc : s.c = c0 := Nat.eq_of_beq_eq_true hc
  obtain ⟨q1, q2, q3, q4, q5⟩ := seeAll_step tabs s
  have hsc : (seeAll s tabs).c = c0 := q3.trans hc
  have hmk : ∀ j, c0 ≤ j → j < c1 → In (marksIn (seeAll s tabs).c c1) j := fun j h1 h2 => by rw [hsc]; exact marksIn_in h1 h2
  have hstep : Step s (litSt (seeAll s tabs) c1 lits) := by
    refine ⟨fun j hj => (in_lor _ _ _).2 (.inl (q1.l j hj)), fun j hj => (in_lor _ _ _).2 (.inl (q1.w j hj)), fun hwl j hj => ?_, fun j hj => ?_, q1.o⟩
    · rcases (in_lor _ _ _).1 hj with h | h
      · exact (in_lor _ _ _).2 (.inl (q1.wl hwl j h))
      · exact (in_lor _ _ _).2 (.inr h)
    · show (putsL (seeAll s tabs).h lits).get j = s.h.get j
      rw [putsL_ne, q2]
      intro p hp e
      obtain ⟨h1, h2, _⟩ := hl p hp
      exact hj ((in_lor _ _ _).2 (.inr (hmk j (by omega) (by omega))))
  refine ⟨hstep, fun {G B E w args'} hG hs ha => ?_⟩
  have hGt : ∀ g l, (g, l) ∈ tabs → G g := fun g l hm => hG g ((in_lor _ _ _).2 (.inl (q5 g l hm)))
  have hGr : ∀ j, c0 ≤ j → j < c1 → G j := fun j h1 h2 => hG j ((in_lor _ _ _).2 (.inr (hmk j h1 h2)))
  have hT := satE hs ht hGt k3
  have ha' : args' = #[] := by
    obtain ⟨l⟩ := args'
    cases ha
    rfl
  subst ha'
  obtain ⟨hent, hcalls⟩ := ((ev_ok hmix hctr (names_of hnames) n).call hs1).2 (fun _ _ => trivial) hT (args' := #[]) .nil
  refine ⟨hent, hcalls.mono fun e w' he => ?_⟩
  obtain ⟨E1, v', rfl, hv, hs', hx⟩ := he
  have hold : ∀ i, i < c0 → E1 i = envT E i := by
    intro i hi
    refine hx.keep i fun hin => ?_
    have : In (low c0 s1.w) i := low_in.2 ⟨hi, hin⟩
    rw [k4] at this
    exact not_in_zero _ this
  have hun : ∀ i, c1 ≤ i → E1 i = .unborn := fun i hi => hs'.fresh i (by rw [k1]; exact hi) trivial
  have hEf : ∀ i, c0 ≤ i → G i → E i = .unborn := fun i hi hg => hs.fresh i (by rw [hc]; exact hi) hg
  let ids := lits.map (·.1)
  have hin : ∀ i, c0 ≤ i → i < c1 → litE E E1 c0 c1 ids i = if i ∈ ids then E1 i else .dead := fun i h1 h2 => by simp only [litE]; rw [if_pos ⟨h1, h2⟩]
  have hout : ∀ i, ¬ (c0 ≤ i ∧ i < c1) → litE E E1 c0 c1 ids i = E i := fun i h1 => by simp only [litE]; rw [if_neg h1]
  have hρ1 : E1.ρ = E.ρ := hx.le.ρ
  have le1 : E1.le (litE E E1 c0 c1 ids) := by
    refine ⟨fun i => ?_, hρ1.symm, fun t htd => ?_⟩
    · by_cases hr : c0 ≤ i ∧ i < c1
      · rw [hin i hr.1 hr.2]
        split
        · exact Slot.le_refl _
        · cases E1 i <;> trivial
      · rw [hout i hr]
        by_cases h1 : i < c0
        · rw [hold i h1]
          simp only [envT]
          split
          · exact Slot.le_refl _
          · trivial
        · rw [hun i (by omega)]; trivial
    · show (if c0 ≤ t ∧ t < c1 then E1.st t else E.st t) = _
      split
      · rfl
      · rename_i hr
        by_cases h1 : t < c0
        · rw [hold t h1] at htd
          exact (hx.le.st t htd).symm
        · rw [hun t (by omega)] at htd; cases htd
  have le2 : E.le (litE E E1 c0 c1 ids) := by
    refine ⟨fun i => ?_, rfl, fun t htd => ?_⟩
    · by_cases hr : c0 ≤ i ∧ i < c1
      · rw [hEf i hr.1 (hGr i hr.1 hr.2)]; trivial
      · rw [hout i hr]; exact Slot.le_refl _
    · show (if c0 ≤ t ∧ t < c1 then E1.st t else E.st t) = _
      rw [if_neg]
      intro hr
      rw [hEf t hr.1 (hGr t hr.1 hr.2)] at htd; cases htd
  have hobj : ∀ i, i ∈ ids → c0 ≤ i ∧ i < c1 ∧ ∃ y b C ob, s1.h.get i = some y ∧ E1 i = .live b C ∧ w'.heap[b]? = some ob ∧ OkObj E1 i y ob ∧ w.heap.size ≤ b := by
    intro i hi
    obtain ⟨p, hp, rfl⟩ := List.mem_map.1 hi
    obtain ⟨h1, h2, y, h3, h4⟩ := hl p hp
    obtain ⟨b, C, ob, h5, h6, h7, h8⟩ := hs'.fact p.1 y trivial h3
    refine ⟨h1, h2, y, b, C, ob, h3, h5, h6, h7, ?_⟩
    rcases h8 with h8 | h8
    · rw [sameO_fixed h4] at h8; cases h8
    · exact h8
  have hlive : ∀ i b C, litE E E1 c0 c1 ids i = .live b C → (i ∈ ids ∧ E1 i = .live b C ∧ w.heap.size ≤ b) ∨ (¬ (c0 ≤ i ∧ i < c1) ∧ E i = .live b C ∧ b < w.heap.size) := by
    intro i b C h
    by_cases hr : c0 ≤ i ∧ i < c1
    · rw [hin i hr.1 hr.2] at h
      split at h
      · rename_i hm
        obtain ⟨_, _, y, b', C', ob, _, h5, _, _, h8⟩ := hobj i hm
        rw [h5] at h
        cases h
        exact .inl ⟨hm, h5, h8⟩
      · cases h
    · rw [hout i hr] at h
      exact .inr ⟨hr, h, hs.lt i b C h⟩
  refine ⟨litE E E1 c0 c1 ids, v', rfl, ?_, ⟨?_, ?_, Nat.le_trans hs.base hx.below.size, fun g hg => Slot.at_le (le2 g) (hs.glob g hg), ?_, ?_, ?_⟩, ⟨le2, ?_, ?_, hx.below.mono hs.base⟩⟩
  · exact (likeV_ok (E' := E1) (F := E1) (fun i j h => by rw [idS_nil h]) rfl 40 _ _ _ k5 hv).mono le1
  · intro i j b X Y hb hi hj
    rcases hlive i b X hi with ⟨_, h1, h2⟩ | ⟨_, h1, h2⟩ <;> rcases hlive j b Y hj with ⟨_, h3, h4⟩ | ⟨_, h3, h4⟩
    · exact hs'.inj i j b X Y h2 h1 h3
    · omega
    · omega
    · exact hs.inj i j b X Y hb h1 h3
  · intro i b C hi
    rcases hlive i b C hi with ⟨_, h1, _⟩ | ⟨_, _, h2⟩
    · exact hs'.lt i b C h1
    · exact Nat.lt_of_lt_of_le h2 hx.below.size
  · intro i hi hg
    have hi' : c1 ≤ i := hi
    rw [hout i (by omega)]
    exact hEf i (by omega) hg
  · intro i o hg ho
    rcases putsL_some (show (putsL (seeAll s tabs).h lits).get i = some o from ho) with hm | ⟨_, h1⟩
    · have hi : i ∈ ids := List.mem_map.2 ⟨_, hm, rfl⟩
      obtain ⟨h1, h2, y, b, C, ob, h3, h5, h6, h7, h8⟩ := hobj i hi
      obtain ⟨_, _, y', h3', h4⟩ := hl _ hm
      rw [h3] at h3'
      cases h3'
      have hEi : litE E E1 c0 c1 ids i = .live b C := by rw [hin i h1 h2, if_pos hi]; exact h5
      exact ⟨b, C, ob, hEi, h6, (sameO_ok h4 h7).mono le1 (fun b' C' he => by rw [h5] at he; cases he; exact hEi), .inr (Nat.le_trans hs.base h8)⟩
    · rw [q2] at h1
      obtain ⟨b, C, ob, h5, h6, h7, h8⟩ := hs.fact i o hg h1
      have hr : ¬ (c0 ≤ i ∧ i < c1) := fun hr => by rw [hEf i hr.1 hg] at h5; cases h5
      refine ⟨b, C, ob, by rw [hout i hr]; exact h5, (hx.below.block b (hs.lt i b C h5)).trans h6, h7.mono le2 (fun b' C' he => by rw [hout i hr]; exact he), h8⟩
  · show OrcOk (seeAll s tabs).o E.ρ
    rw [q1.o]; exact hs.orc
  · intro j hj
    refine hout j fun hr => hj ((in_lor _ _ _).2 (.inr (hmk j hr.1 hr.2)))
  · intro j b C hj he
    exact hx.below.block b (hs.lt j b C he)
end Ev
end Go.Proofs.YtmghbbicjkmigaaGreatDoor
namespace Go.Proofs.YtmghbbicjkmigaaGreatDoor
namespace Ev
open Go.RowKit

/-- How a template's names are read: its variables (below 1000), its ids (from 64 on), its one text. -/
structure Inst where
  vs : List (Nat × SE)
  ps : Prs
  str : Option (Nat × Nat × Nat × List Pc)
noncomputable def lookE (k : Nat) : List (Nat × SE) → SE
  | [] => .var k
  | p :: r => bi (Nat.beq p.1 k) p.2 (lookE k r)
/-- Variables that stay what they are. -/
noncomputable def ownVars (vs : List (Nat × SE)) : List (Nat × Int) → Bool
  | [] => true
  | p :: r => Nat.blt p.1 (nat_lit 1000) && (seEq (lookE p.1 vs) (.var p.1) && ownVars vs r)
/-- An expression of the template, as one of the state. -/
noncomputable def subE (vs : List (Nat × SE)) : SE → Option SE
  | .var k => bc (Nat.blt k (nat_lit 1000)) (some (lookE k vs))
  | .lit n => some (.lit n)
  | .wrap k a => oc (subE vs a) fun a => some (.wrap k a)
  | .bin op k a b => oc (subE vs a) fun a => oc (subE vs b) fun b => some (.bin op k a b)
  | .fn k a b => oc (subE vs a) fun a => oc (subE vs b) fun b => some (.fn k a b)
  | .lin n l => bc (ownVars vs l) (some (.lin n l))
noncomputable def sameE (vs : List (Nat × SE)) (x y : SE) : Bool := match subE vs x with
  | some x => seEq x y
  | none => false
noncomputable def subP (vs : List (Nat × SE)) : List Pc → Option (List Pc)
  | [] => some []
  | .lit l :: r => oc (subP vs r) fun r => some (.lit l :: r)
  | .dec e :: r => oc (subE vs e) fun e => oc (subP vs r) fun r => some (.dec e :: r)
  | .byt e :: r => oc (subE vs e) fun e => oc (subP vs r) fun r => some (.byt e :: r)
  | .opq _ _ _ :: _ => none
noncomputable def sameP (vs : List (Nat × SE)) (x y : List Pc) : Bool := match subP vs x with
  | some x => pcsEq x y
  | none => false
noncomputable def idI (I : Inst) (i j : Nat) : Bool := bi (Nat.blt i (nat_lit 64)) (Nat.beq i j) (match lookP i I.ps with
  | some k => Nat.beq k j
  | none => false)
noncomputable def isStr (I : Inst) (x y : List Pc) : Bool := match x, I.str with
  | [.opq b (.var v) m], some (b', v', m', ps) => Nat.beq b b' && (Nat.beq v v' && (Nat.beq m m' && pcsEq ps y))
  | _, _ => false
noncomputable def instV (I : Inst) (n : Nat) : AV → AV → Bool :=
  Nat.rec (motive := fun _ => AV → AV → Bool) (fun _ _ => false) (fun _ ih x y => match x, y with
    | .bool a, .bool b => a == b
    | .int k a, .int q b => kindEq k q && eqA a b
    | .sint k a, .sint q b => kindEq k q && sameE I.vs a b
    | .sint k a, .int q b => kindEq k q && sameE I.vs a (.lit b)
    | .str a, .str b => bytesEq a b
    | .nilptr, .nilptr => true
    | .ptr i o, .ptr j u => idI I i j && Nat.beq o u
    | .nilslice, .nilslice => true
    | .slice i o l k d, .slice j u m q e => idI I i j && (Nat.beq o u && (Nat.beq l m && (natO k q && Nat.beq d e)))
    | .eslice, .eslice => true
    | .nilmap, .nilmap => true
    | .map i, .map j => idI I i j
    | .func f a b, .func g d e => Nat.beq f g && (allB ih a d && allB ih b e)
    | .nilFunc, .nilFunc => true
    | .iface t a, .iface u b => Nat.beq t u && ih a b
    | .nilIface, .nilIface => true
    | .agg a, .agg b => allB ih a b
    | .tuple a, .tuple b => allB ih a b
    | .pstr a, .pstr b => bi (isStr I a b) true (sameP I.vs a b)
    | .pstr a, .str b => isStr I a [.lit b]
    | .fslice i a, .fslice j b => idI I i j && sameE I.vs a b
    | .aslice i o n, .aslice j u m => idI I i j && (Nat.beq o u && Nat.beq n m)
    | .oslice a, .oslice b => sameE I.vs a b
    | _, _ => false) n
noncomputable def instL (I : Inst) (l m : List AV) : Bool := allB (instV I (nat_lit 40)) l m
noncomputable def instE (I : Inst) : List Ent → List Ent → Bool
  | [], [] => true
  | x :: l, y :: m => instV I (nat_lit 40) x.key y.key && (instV I (nat_lit 40) x.val y.val && (Nat.beq x.born y.born && instE I l m))
  | _, _ => false
noncomputable def instO (I : Inst) (x y : AObj) : Bool := match x, y with
  | .cells a e f p, .cells b e' f' p' => instL I a b && (Nat.beq e e' && (fzEq f f' && natO p p'))
  | .part a, .part b => instL I a b
  | .row a, .row b => instL I a b
  | .map a n, .map b k => Nat.beq n k && instE I a b
  | .umap a n t, .umap b k u => Nat.beq n k && (idI I t u && instE I a b)
  | .flat n v e, .flat n' v' e' => sameE I.vs n n' && (sameE I.vs v v' && Nat.beq e e')
  | _, _ => false
noncomputable def instAt (I : Inst) (x : AObj) (o : Option AObj) : Bool := match o with
  | some y => instO I x y
  | none => false
/-- Each object of the template. -/
noncomputable def instObjs (I : Inst) (h : T AObj) : List (Nat × AObj) → Bool
  | [] => true
  | p :: r => (match lookP p.1 I.ps with
    | some j => instAt I p.2 (h.get j)
    | none => false) && instObjs I h r
/-- What a fact says of the state is decided there. -/
noncomputable def instF (O : Orc) (vs : List (Nat × SE)) (f : Fact) : Bool := match subE vs f.a, subE vs f.b with
  | some a, some b => (match (match f.lt with | true => O.lt a b | false => O.eq a b) with
    | some q => q == f.q
    | none => false)
  | _, _ => false
noncomputable def instFs (O : Orc) (vs : List (Nat × SE)) : List Fact → Bool
  | [] => true
  | f :: r => instF O vs f && instFs O vs r
noncomputable def prsOk (c : Nat) : Prs → Bool
  | [] => true
  | p :: r => Nat.ble (nat_lit 64) p.1 && (Nat.blt p.1 c && (Nat.ble (nat_lit 64) p.2 && prsOk c r))
noncomputable def strOk (O : Orc) (I : Inst) : Bool := match I.str with
  | none => true
  | some (b, v, m, ps) => Nat.ble (nat_lit 1000) b && (Nat.blt v (nat_lit 1000) && (Nat.ble (pcsMax ps) (nat_lit 1000000) && (match pcsLen O ps with
    | some e => seEq (lookE v I.vs) e && leO O e (.lit (Int.ofNat m))
    | none => false)))
/-- The template's state. -/
noncomputable def tmplSt (tabs : List (Nat × List AV)) (c : Nat) (objs : List (Nat × AObj)) (fs : List Fact) : St := ⟨c, putsL (initH tabs) objs, nat_lit 0, nat_lit 0, orcI fs⟩
noncomputable def instChk (I : Inst) (tabs : List (Nat × List AV)) (c : Nat) (objs : List (Nat × AObj)) (fs : List Fact) (s : St) : Bool :=
  tabsIn s tabs && (prsOk c I.ps && (onceQ I.ps && (strOk s.o I && (instObjs I s.h objs && instFs s.o I.vs fs))))

section
variable {I : Inst} {E : Env}
/-- The template's variables. -/
noncomputable def instρ (I : Inst) (ρ : Nat → Int) : Nat → Int := fun k => if k < 1000 then (lookE k I.vs).val ρ else match I.str with
  | none => 0
  | some (b, _, _, ps) => match (psVal ρ ps)[k - b]? with
    | some x => (x.toNat : Int)
    | none => 0
noncomputable def instEnv (I : Inst) (E : Env) : Env := ⟨fun i => if i < 64 then E i else match lookP i I.ps with | some j => E j | none => .unborn, instρ I E.ρ, fun t => if t < 64 then E.st t else match lookP t I.ps with | some u => E.st u | none => Stamps.same⟩
theorem ownVars_ok {vs : List (Nat × SE)} {ρ ρ' : Nat → Int} (hv : ∀ k, k < 1000 → ρ' k = (lookE k vs).val ρ) : ∀ {l : List (Nat × Int)}, ownVars vs l = true → linV ρ' l = linV ρ l
  | [], _ => rfl
  | p :: r, h => by
    simp only [ownVars, Bool.and_eq_true] at h
    obtain ⟨h1, h2, h3⟩ := h
    show p.2 * ρ' p.1 + linV ρ' r = p.2 * ρ p.1 + linV ρ r
    rw [ownVars_ok hv h3, hv p.1 (by simpa using h1), seEq_ok h2]
    rfl
theorem subE_ok {vs : List (Nat × SE)} {ρ ρ' : Nat → Int} (hv : ∀ k, k < 1000 → ρ' k = (lookE k vs).val ρ) : ∀ {e e' : SE}, subE vs e = some e' → e.val ρ' = e'.val ρ
  | .var k, e', h => by
    obtain ⟨h1, h2⟩ := bc_some (show bc (Nat.blt k (nat_lit 1000)) (some (lookE k vs)) = some e' from h)
    cases h2
    exact hv k (by simpa using h1)
  | .lit n, e', h => by cases h; rfl
  | .wrap k a, e', h => by
    obtain ⟨a', h1, h2⟩ := oc_some (show oc (subE vs a) (fun a => some (.wrap k a)) = some e' from h)
    cases h2
    simp only [SE.val, subE_ok hv h1]
  | .bin op k a b, e', h => by
    obtain ⟨a', h1, h2⟩ := oc_some (show oc (subE vs a) (fun a => oc (subE vs b) fun b => some (.bin op k a b)) = some e' from h)
    obtain ⟨b', h3, h4⟩ := oc_some h2
    cases h4
    simp only [SE.val, subE_ok hv h1, subE_ok hv h3]
  | .fn k a b, e', h => by
    obtain ⟨a', h1, h2⟩ := oc_some (show oc (subE vs a) (fun a => oc (subE vs b) fun b => some (.fn k a b)) = some e' from h)
    obtain ⟨b', h3, h4⟩ := oc_some h2
    cases h4
    simp only [SE.val, subE_ok hv h1, subE_ok hv h3]
  | .lin n l, e', h => by
    obtain ⟨h1, h2⟩ := bc_some (show bc (ownVars vs l) (some (.lin n l)) = some e' from h)
    cases h2
    show n + linV ρ' l = n + linV ρ l
    rw [ownVars_ok hv h1]
theorem sameE_ok {vs : List (Nat × SE)} {ρ ρ' : Nat → Int} (hv : ∀ k, k < 1000 → ρ' k = (lookE k vs).val ρ) {x y : SE} (h : sameE vs x y = true) : x.val ρ' = y.val ρ := by
  unfold sameE at h
  split at h
  · rename_i x' hx
    rw [subE_ok hv hx, seEq_ok h]
  · cases h
theorem subP_ok {vs : List (Nat × SE)} {ρ ρ' : Nat → Int} (hv : ∀ k, k < 1000 → ρ' k = (lookE k vs).val ρ) : ∀ {l m : List Pc}, subP vs l = some m → psVal ρ' l = psVal ρ m
  | [], m, h => by cases h; rfl
  | .lit x :: r, m, h => by
    obtain ⟨r', h1, h2⟩ := oc_some (show oc (subP vs r) (fun r => some (.lit x :: r)) = some m from h)
    cases h2
    simp only [psVal, Pc.val, subP_ok hv h1]
  | .dec e :: r, m, h => by
    obtain ⟨e', h1, h2⟩ := oc_some (show oc (subE vs e) (fun e => oc (subP vs r) fun r => some (.dec e :: r)) = some m from h)
    obtain ⟨r', h3, h4⟩ := oc_some h2
    cases h4
    simp only [psVal, Pc.val, subE_ok hv h1, subP_ok hv h3]
  | .byt e :: r, m, h => by
    obtain ⟨e', h1, h2⟩ := oc_some (show oc (subE vs e) (fun e => oc (subP vs r) fun r => some (.byt e :: r)) = some m from h)
    obtain ⟨r', h3, h4⟩ := oc_some h2
    cases h4
    simp only [psVal, Pc.val, subE_ok hv h1, subP_ok hv h3]
  | .opq _ _ _ :: _, m, h => by cases h
theorem sameP_ok {vs : List (Nat × SE)} {ρ ρ' : Nat → Int} (hv : ∀ k, k < 1000 → ρ' k = (lookE k vs).val ρ) {x y : List Pc} (h : sameP vs x y = true) : psVal ρ' x = psVal ρ y := by
  unfold sameP at h
  split at h
  · rename_i x' hx
    rw [subP_ok hv hx, pcsEq_ok ρ h]
  · cases h
theorem instρ_small (I : Inst) (ρ : Nat → Int) : ∀ k, k < 1000 → instρ I ρ k = (lookE k I.vs).val ρ := fun k h => by simp only [instρ]; rw [if_pos h]
theorem idI_ok {i j : Nat} (h : idI I i j = true) : instEnv I E i = E j ∧ (instEnv I E).st i = E.st j := by
  have h' : bi (Nat.blt i (nat_lit 64)) (Nat.beq i j) (match lookP i I.ps with
    | some k => Nat.beq k j
    | none => false) = true := h
  cases hb : Nat.blt i (nat_lit 64) with
  | true =>
    rw [hb, bi_true] at h'
    obtain rfl := Nat.eq_of_beq_eq_true h'
    have hi : i < 64 := by simpa using hb
    exact ⟨by simp only [instEnv]; rw [if_pos hi], by simp only [instEnv]; rw [if_pos hi]⟩
  | false =>
    rw [hb, bi_false] at h'
    have hi : ¬ i < 64 := fun hlt => by rw [show Nat.blt i (nat_lit 64) = true from Eq.mpr Nat.blt_eq hlt] at hb; cases hb
    split at h'
    · rename_i k hk
      obtain rfl := Nat.eq_of_beq_eq_true h'
      exact ⟨by simp only [instEnv]; rw [if_neg hi, hk], by simp only [instEnv]; rw [if_neg hi, hk]⟩
    · cases h'
theorem strOk_ok {O : Orc} (ho : OrcOk O E.ρ) (h : strOk O I = true) : ∀ b v m ps, I.str = some (b, v, m, ps) → psVal (instρ I E.ρ) [.opq b (.var v) m] = psVal E.ρ ps := by
  intro b v m ps hI
  unfold strOk at h
  rw [hI] at h
  simp only [Bool.and_eq_true] at h
  obtain ⟨h1, h2, h3, h4⟩ := h
  have h1 : 1000 ≤ b := by simpa using h1
  have h2 : v < 1000 := by simpa using h2
  have h3 : pcsMax ps ≤ 1000000 := by simpa using h3
  split at h4
  case h_2 => cases h4
  rename_i e he
  rw [Bool.and_eq_true] at h4
  have hlen := pcsLen_ok ho he h3
  have hle : e.val E.ρ ≤ (m : Int) := leO_ok ho h4.2
  have hvv : instρ I E.ρ v = e.val E.ρ := by rw [instρ_small I E.ρ v h2, seEq_ok h4.1]
  rw [psVal_lone]
  have hmin : min ((SE.var v).val (instρ I E.ρ)).toNat m = (psVal E.ρ ps).length := by
    show min (instρ I E.ρ v).toNat m = _
    rw [hvv]; omega
  simp only [Pc.val]
  rw [hmin]
  apply List.ext_getElem?
  intro j
  rw [List.getElem?_map]
  by_cases hj : j < (psVal E.ρ ps).length
  · rw [List.getElem?_range hj]
    simp only [Option.map_some]
    rw [List.getElem?_eq_getElem hj]
    congr 1
    have hk : ¬ b + j < 1000 := by omega
    have : instρ I E.ρ (b + j) = (((psVal E.ρ ps)[j]).toNat : Int) := by
      simp only [instρ]
      rw [if_neg hk, hI]
      simp only [Nat.add_sub_cancel_left]
      rw [List.getElem?_eq_getElem hj]
    rw [this]
    simp
  · rw [List.getElem?_eq_none (by simp; omega), List.getElem?_eq_none (by omega)]
    rfl
theorem isStr_ok {O : Orc} (ho : OrcOk O E.ρ) (hs : strOk O I = true) {x y : List Pc} (h : isStr I x y = true) : psVal (instρ I E.ρ) x = psVal E.ρ y := by
  unfold isStr at h
  split at h
  · rename_i b v m b' v' m' ps hI
    simp only [Bool.and_eq_true] at h
    obtain ⟨h1, h2, h3, h4⟩ := h
    obtain rfl := Nat.eq_of_beq_eq_true h1
    obtain rfl := Nat.eq_of_beq_eq_true h2
    obtain rfl := Nat.eq_of_beq_eq_true h3
    rw [strOk_ok ho hs b v m ps hI, pcsEq_ok E.ρ h4]
  · cases h
theorem instV_ok {O : Orc} (ho : OrcOk O E.ρ) (hs : strOk O I = true) : ∀ (n : Nat) (x y : AV) (v : Value), instV I n x y = true → Rel E y v → Rel (instEnv I E) x v := by
  have hρ : (instEnv I E).ρ = instρ I E.ρ := rfl
  have hv := instρ_small I E.ρ
  intro n
  induction n with
  | zero => intro x y v h; exact absurd (show false = true from h) (by decide)
  | succ n ih =>
    intro x y v h hr
    cases x <;> cases y <;> first | (exact absurd (show false = true from h) (by decide)) | skip
    case bool.bool a b =>
      have h' : (a == b) = true := h
      rw [beq_iff_eq] at h'
      subst h'
      cases hr; exact .bool _
    case int.int k a q b =>
      have h' : (kindEq k q && eqA a b) = true := h
      rw [Bool.and_eq_true] at h'
      obtain rfl := kindEq_ok h'.1
      have : a = b := by rw [eqA_eq] at h'; exact of_decide_eq_true h'.2
      subst this
      cases hr; exact .int _ _
    case sint.sint k a q b =>
      have h' : (kindEq k q && sameE I.vs a b) = true := h
      rw [Bool.and_eq_true] at h'
      obtain rfl := kindEq_ok h'.1
      cases hr
      rw [← sameE_ok hv h'.2, ← hρ]; exact .sint _ _
    case sint.int k a q b =>
      have h' : (kindEq k q && sameE I.vs a (.lit b)) = true := h
      rw [Bool.and_eq_true] at h'
      obtain rfl := kindEq_ok h'.1
      cases hr
      have e : a.val (instρ I E.ρ) = b := sameE_ok hv h'.2
      rw [← e, ← hρ]; exact .sint _ _
    case str.str a b =>
      have h' : bytesEq a b = true := h
      rw [bytesEq_eq, beq_iff_eq] at h'
      subst h'
      cases hr; exact .str _
    case nilptr.nilptr => cases hr; exact .nilptr
    case ptr.ptr i o j u =>
      have h' : (idI I i j && Nat.beq o u) = true := h
      rw [Bool.and_eq_true] at h'
      obtain rfl := Nat.eq_of_beq_eq_true h'.2
      cases hr; rename_i hb; exact .ptr (by rw [(idI_ok h'.1).1]; exact hb)
    case nilslice.nilslice => cases hr; exact .nilslice
    case slice.slice i o l k d j u m q e =>
      have h' : (idI I i j && (Nat.beq o u && (Nat.beq l m && (natO k q && Nat.beq d e)))) = true := h
      simp only [Bool.and_eq_true] at h'
      obtain ⟨h1, h2, h3, h4, h5⟩ := h'
      obtain rfl := Nat.eq_of_beq_eq_true h2
      obtain rfl := Nat.eq_of_beq_eq_true h3
      obtain rfl := natO_ok h4
      obtain rfl := Nat.eq_of_beq_eq_true h5
      cases hr; rename_i hb hc
      exact .slice (by rw [(idI_ok h1).1]; exact hb) (by rw [(idI_ok h1).1]; exact hc)
    case eslice.eslice => cases hr; exact .eslice
    case nilmap.nilmap => cases hr; exact .nilmap
    case map.map i j =>
      have h' : idI I i j = true := h
      cases hr; rename_i hb; exact .map (by rw [(idI_ok h').1]; exact hb)
    case func.func f a b g d e =>
      have h' : (Nat.beq f g && (allB (instV I n) a d && allB (instV I n) b e)) = true := h
      simp only [Bool.and_eq_true] at h'
      obtain rfl := Nat.eq_of_beq_eq_true h'.1
      cases hr; rename_i hp hq
      exact .func (allB_ok ih h'.2.1 hp) (allB_ok ih h'.2.2 hq)
    case nilFunc.nilFunc => cases hr; exact .nilFunc
    case iface.iface t a u b =>
      have h' : (Nat.beq t u && instV I n a b) = true := h
      rw [Bool.and_eq_true] at h'
      obtain rfl := Nat.eq_of_beq_eq_true h'.1
      cases hr; rename_i hv'; exact .iface (ih _ _ _ h'.2 hv')
    case nilIface.nilIface => cases hr; exact .nilIface
    case agg.agg a b => cases hr; rename_i hl; exact .agg (allB_ok ih (show allB (instV I n) a b = true from h) hl)
    case tuple.tuple a b => cases hr; rename_i hl; exact .tuple (allB_ok ih (show allB (instV I n) a b = true from h) hl)
    case pstr.pstr a b =>
      have h' : bi (isStr I a b) true (sameP I.vs a b) = true := h
      have e : psVal (instρ I E.ρ) a = psVal E.ρ b := by
        cases hq : isStr I a b with
        | true => exact isStr_ok ho hs hq
        | false => rw [hq, bi_false] at h'; exact sameP_ok hv h'
      cases hr
      rw [← e, ← hρ]; exact .pstr _
    case pstr.str a b =>
      have h' : isStr I a [.lit b] = true := h
      have e := isStr_ok ho hs h'
      rw [psVal_one] at e
      cases hr
      rw [← e, ← hρ]; exact .pstr _
    case fslice.fslice i a j b =>
      have h' : (idI I i j && sameE I.vs a b) = true := h
      rw [Bool.and_eq_true] at h'
      cases hr; rename_i hb
      rw [← sameE_ok hv h'.2, ← hρ]; exact .fslice (by rw [(idI_ok h'.1).1]; exact hb)
    case aslice.aslice i o l j u m =>
      have h' : (idI I i j && (Nat.beq o u && Nat.beq l m)) = true := h
      simp only [Bool.and_eq_true] at h'
      obtain ⟨h1, h2, h3⟩ := h'
      obtain rfl := Nat.eq_of_beq_eq_true h2
      obtain rfl := Nat.eq_of_beq_eq_true h3
      cases hr; rename_i hb hc
      exact .aslice (by rw [(idI_ok h1).1]; exact hb) hc
    case oslice.oslice a b =>
      have h' : sameE I.vs a b = true := h
      cases hr; rename_i hk
      exact .oslice (by rw [hρ, sameE_ok hv h']; exact hk)
theorem instL_ok {O : Orc} (ho : OrcOk O E.ρ) (hs : strOk O I = true) {l m : List AV} {vs : List Value} (h : instL I l m = true) (hr : RelL E m vs) : RelL (instEnv I E) l vs := allB_ok (instV_ok ho hs 40) h hr
theorem instE_ok {O : Orc} (ho : OrcOk O E.ρ) (hs : strOk O I = true) : ∀ {a b : List Ent} {zs : List MapEntry}, instE I a b = true → RelE E b zs → RelE (instEnv I E) a zs
  | [], [], _, _, .nil => .nil
  | _ :: _, _ :: _, _, h, .cons h1 h2 h3 t => by
    simp only [instE, Bool.and_eq_true] at h
    exact .cons (instV_ok ho hs 40 _ _ _ h.1 h1) (instV_ok ho hs 40 _ _ _ h.2.1 h2) ((Nat.eq_of_beq_eq_true h.2.2.1).trans h3) (instE_ok ho hs h.2.2.2 t)
  | [], _ :: _, _, h, _ => by cases h
  | _ :: _, [], _, h, _ => by cases h
theorem instE_borns : ∀ {a b : List Ent}, instE I a b = true → a.map Ent.born = b.map Ent.born
  | [], [], _ => rfl
  | x :: l, y :: m, h => by
    simp only [instE, Bool.and_eq_true] at h
    rw [List.map_cons, List.map_cons, Nat.eq_of_beq_eq_true h.2.2.1, instE_borns h.2.2.2]
  | [], _ :: _, h => by cases h
  | _ :: _, [], h => by cases h
theorem instE_S {O : Orc} (ho : OrcOk O E.ρ) (hs : strOk O I = true) {S : Stamps} : ∀ {a b : List Ent} {zs : List MapEntry}, instE I a b = true → RelS E S b zs → RelS (instEnv I E) S a zs
  | [], [], _, _, .nil => .nil
  | _ :: _, _ :: _, _, h, .cons h1 h2 h3 t => by
    simp only [instE, Bool.and_eq_true] at h
    exact .cons (instV_ok ho hs 40 _ _ _ h.1 h1) (instV_ok ho hs 40 _ _ _ h.2.1 h2) (by rw [Nat.eq_of_beq_eq_true h.2.2.1]; exact h3) (instE_S ho hs h.2.2.2 t)
  | [], _ :: _, _, h, _ => by cases h
  | _ :: _, [], _, h, _ => by cases h
theorem fzEq_ok {f f' : Nat × Nat} (h : fzEq f f' = true) : f = f' := by
  obtain ⟨f1, f2⟩ := f
  obtain ⟨g1, g2⟩ := f'
  have h' : (Nat.beq f1 g1 && Nat.beq f2 g2) = true := h
  rw [Bool.and_eq_true] at h'
  rw [Nat.eq_of_beq_eq_true h'.1, Nat.eq_of_beq_eq_true h'.2]
theorem instO_ok {O : Orc} (ho : OrcOk O E.ρ) (hs : strOk O I = true) {x y : AObj} {i j : Nat} {ob : Obj} (h : instO I x y = true) (hij : instEnv I E i = E j) (hok : OkObj E j y ob) : OkObj (instEnv I E) i x ob := by
  have hρ : (instEnv I E).ρ = instρ I E.ρ := rfl
  have hv := instρ_small I E.ρ
  cases x <;> cases y <;> first | (exact absurd (show false = true from h) (by decide)) | skip
  case cells.cells a e f p b e' f' p' =>
    have h' : (instL I a b && (Nat.beq e e' && (fzEq f f' && natO p p'))) = true := h
    simp only [Bool.and_eq_true] at h'
    obtain ⟨h1, h2, h3, h4⟩ := h'
    have he0 : e' = e := (Nat.eq_of_beq_eq_true h2).symm
    obtain rfl := natO_ok h4
    obtain rfl := fzEq_ok h3
    cases p with
    | none =>
      obtain ⟨c', f', rfl, hr, hfz⟩ := hok
      exact ⟨c', f', by rw [he0], instL_ok ho hs h1 hr, hfz⟩
    | some z =>
      obtain ⟨c', f', xs, rest, b', C, rfl, hx, hr, he, hsz, hfz⟩ := hok
      exact ⟨c', f', xs, rest, b', C, by rw [he0], hx, instL_ok ho hs h1 hr, by rw [hij]; exact he, hsz, hfz⟩
  case part.part a b =>
    have h' : instL I a b = true := h
    obtain ⟨c', e, f, xs, rest, rfl, hx, hr⟩ := hok
    exact ⟨c', e, f, xs, rest, rfl, hx, instL_ok ho hs h' hr⟩
  case row.row a b =>
    have h' : instL I a b = true := h
    obtain ⟨c', e, f, b', C, xs, rest, rfl, he, hx, hr⟩ := hok
    exact ⟨c', e, f, b', C, xs, rest, rfl, by rw [hij]; exact he, hx, instL_ok ho hs h' hr⟩
  case map.map a n b k =>
    have h' : (Nat.beq n k && instE I a b) = true := h
    rw [Bool.and_eq_true] at h'
    obtain ⟨arr, rfl, hr⟩ := hok
    exact ⟨arr, by rw [Nat.eq_of_beq_eq_true h'.1], instE_ok ho hs h'.2 hr⟩
  case umap.umap a n t b k u =>
    have h' : (Nat.beq n k && (idI I t u && instE I a b)) = true := h
    simp only [Bool.and_eq_true] at h'
    obtain ⟨h1, h2, h3⟩ := h'
    obtain rfl := Nat.eq_of_beq_eq_true h1
    obtain ⟨g1, g2⟩ := idI_ok (E := E) h2
    obtain ⟨arr, rfl, hm⟩ := hok
    have hb := instE_borns h3
    obtain ⟨l, hp, hr⟩ := hm.rel
    refine ⟨arr, by rw [g2], ⟨by rw [g1]; exact hm.tag, by rw [g2]; exact hm.le, fun e he => ?_, by rw [hb]; exact hm.once, l, hp, by rw [g2]; exact instE_S ho hs h3 hr⟩⟩
    have : e.born ∈ b.map Ent.born := by rw [← hb]; exact List.mem_map.2 ⟨e, he, rfl⟩
    obtain ⟨e', he', hbe⟩ := List.mem_map.1 this
    rw [← hbe]; exact hm.lt e' he'
  case flat.flat n v e n' v' e' =>
    have h' : (sameE I.vs n n' && (sameE I.vs v v' && Nat.beq e e')) = true := h
    simp only [Bool.and_eq_true] at h'
    obtain ⟨h1, h2, h3⟩ := h'
    obtain rfl := Nat.eq_of_beq_eq_true h3
    have hok : ob = _ := hok
    show ob = _
    rw [hok, hρ, sameE_ok hv h1, sameE_ok hv h2]
theorem instO_fixed {x y : AObj} (h : instO I x y = true) : x.fixed = y.fixed := by
  cases x <;> cases y <;> first | (exact absurd (show false = true from h) (by decide)) | rfl
theorem instObjs_ok {hp : T AObj} : ∀ {l : List (Nat × AObj)}, instObjs I hp l = true → ∀ p ∈ l, ∃ j y, lookP p.1 I.ps = some j ∧ hp.get j = some y ∧ instO I p.2 y = true
  | [], _, p, hm => by cases hm
  | q :: r, h, p, hm => by
    simp only [instObjs, Bool.and_eq_true] at h
    rcases List.mem_cons.1 hm with rfl | hm
    · have h1 := h.1
      split at h1
      · rename_i j hj
        unfold instAt at h1
        split at h1
        · rename_i y hy
          exact ⟨j, y, hj, hy, h1⟩
        · cases h1
      · cases h1
    · exact instObjs_ok h.2 p hm
theorem instFs_ok {O : Orc} {ρ : Nat → Int} (ho : OrcOk O ρ) {vs : List (Nat × SE)} {ρ' : Nat → Int} (hv : ∀ k, k < 1000 → ρ' k = (lookE k vs).val ρ) : ∀ {fs : List Fact}, instFs O vs fs = true → ∀ f ∈ fs, f.holds ρ'
  | [], _, f, hm => by cases hm
  | g :: r, h, f, hm => by
    simp only [instFs, Bool.and_eq_true] at h
    rcases List.mem_cons.1 hm with rfl | hm
    · have h1 := h.1
      unfold instF at h1
      split at h1
      · rename_i a b ha hb
        split at h1
        · rename_i q hq
          have h1 : q = f.q := by simpa using h1
          unfold Fact.holds
          rw [← h1, subE_ok hv ha, subE_ok hv hb]
          cases hlt : f.lt with
          | true => rw [hlt] at hq; simp only [if_true]; exact ho.lt _ _ _ hq
          | false => rw [hlt] at hq; simp only [Bool.false_eq_true, if_false]; exact ho.eq _ _ _ hq
        · cases h1
      · cases h1
    · exact instFs_ok ho hv h.2 f hm
theorem prsOk_ok {c : Nat} : ∀ {ps : Prs}, prsOk c ps = true → ∀ i j, lookP i ps = some j → 64 ≤ i ∧ i < c ∧ 64 ≤ j
  | [], _, i, j, h => by cases h
  | p :: r, h, i, j, hl => by
    simp only [prsOk, Bool.and_eq_true] at h
    have hl' : bi (Nat.beq p.1 i) (some p.2) (lookP i r) = some j := hl
    cases hb : Nat.beq p.1 i with
    | true =>
      rw [hb, bi_true] at hl'
      cases hl'
      obtain rfl := Nat.eq_of_beq_eq_true hb
      exact ⟨by simpa using h.1, by simpa using h.2.1, by simpa using h.2.2.1⟩
    | false =>
      rw [hb, bi_false] at hl'
      exact prsOk_ok h.2.2.2 i j hl'
/-- The state is one of the template's. -/
theorem inst_ok {B : Nat} {s : St} {w : World} (hs : Sat (fun _ => True) B E s w) {tabs : List (Nat × List AV)} {c : Nat} {objs : List (Nat × AObj)} {fs : List Fact} (h64 : 64 ≤ c) (h : instChk I tabs c objs fs s = true) :
    Sat (fun _ => True) B (instEnv I E) (tmplSt tabs c objs fs) w := by
  simp only [instChk, Bool.and_eq_true] at h
  obtain ⟨h1, h2, h3, h4, h5, h6⟩ := h
  have hv := instρ_small I E.ρ
  have htab := tabsIn_ok hs h1 (fun _ _ _ => trivial)
  have hlive := tabsIn_live hs h1 (fun _ _ _ => trivial)
  have hps := prsOk_ok h2
  have hobj := instObjs_ok h5
  have hlow : ∀ i, i < 64 → instEnv I E i = E i := fun i hi => by simp only [instEnv]; rw [if_pos hi]
  have hhi : ∀ i, ¬ i < 64 → instEnv I E i = match lookP i I.ps with | some j => E j | none => .unborn := fun i hi => by simp only [instEnv]; rw [if_neg hi]
  have himg : ∀ i b C, instEnv I E i = .live b C → (i < 64 ∧ E i = .live b C) ∨ (64 ≤ i ∧ ∃ j, lookP i I.ps = some j ∧ 64 ≤ j ∧ E j = .live b C) := by
    intro i b C hi
    by_cases hlt : i < 64
    · rw [hlow i hlt] at hi; exact .inl ⟨hlt, hi⟩
    · rw [hhi i hlt] at hi
      split at hi
      · rename_i j hj
        exact .inr ⟨by omega, j, hj, (hps i j hj).2.2, hi⟩
      · cases hi
  refine ⟨?_, ?_, hs.base, fun g hg => by rw [hlow g hg]; exact hs.glob g hg, ?_, ?_, orcI_ok (instFs_ok hs.orc hv h6)⟩
  · intro i j b X Y hb hi hj
    rcases himg i b X hi with ⟨i1, i2⟩ | ⟨i1, i', i2, i3, i4⟩ <;> rcases himg j b Y hj with ⟨j1, j2⟩ | ⟨j1, j', j2, j3, j4⟩
    · exact hs.inj i j b X Y hb i2 j2
    · have := hs.inj i j' b X Y hb i2 j4; omega
    · have := hs.inj i' j b X Y hb i4 j2; omega
    · have e := hs.inj i' j' b X Y hb i4 j4
      subst e
      exact onceQ_inj h3 i2 j2
  · intro i b X hi
    rcases himg i b X hi with ⟨_, i2⟩ | ⟨_, i', _, _, i4⟩
    · exact hs.lt i b X i2
    · exact hs.lt i' b X i4
  · intro i hi _
    have hi' : c ≤ i := hi
    rw [hhi i (by omega)]
    cases hl : lookP i I.ps with
    | none => rfl
    | some j => have := hps i j hl; omega
  · intro i o _ ho
    rcases putsL_some (show (putsL (initH tabs) objs).get i = some o from ho) with hm | ⟨_, hm⟩
    · obtain ⟨j, y, k1, k2, k3⟩ := hobj _ hm
      obtain ⟨b, C, ob, k4, k5, k6, k7⟩ := hs.fact j y trivial k2
      have hi := hps i j k1
      have hij : instEnv I E i = E j := by rw [hhi i (by omega)]; simp only [k1]
      exact ⟨b, C, ob, hij.trans k4, k5, instO_ok hs.orc h4 k3 hij k6, by rw [instO_fixed k3]; exact k7⟩
    · obtain ⟨vs, hm2, rfl⟩ := initH_get hm
      obtain ⟨hl, c', e, f, hh, hr⟩ := htab _ _ hm2
      obtain ⟨C, hC⟩ := hlive i vs hm2
      exact ⟨i, C, _, by rw [hlow i hl]; exact hC, hh, ⟨c', e, f, rfl, hr _⟩, .inl rfl⟩
/-- The same of a frame. -/
noncomputable def instT (I : Inst) (a : T AV) : List (Nat × AV) → Bool
  | [] => true
  | p :: r => (match a.get p.1 with
    | some y => instV I (nat_lit 40) p.2 y
    | none => false) && instT I a r
noncomputable def putsT : List (Nat × AV) → T AV
  | [] => .e
  | p :: r => (putsT r).put p.1 (some p.2)
theorem putsT_get {t : Nat} {v : AV} : ∀ {l : List (Nat × AV)}, (putsT l).get t = some v → (t, v) ∈ l
  | [], h => by rw [show putsT [] = T.e from rfl, T.get_e] at h; cases h
  | p :: r, h => by
    rcases T.put_some (show ((putsT r).put p.1 (some p.2)).get t = some v from h) with ⟨rfl, h1⟩ | ⟨_, h1⟩
    · cases h1; simp
    · exact List.mem_cons_of_mem _ (putsT_get h1)
theorem instT_mem {a : T AV} : ∀ {l : List (Nat × AV)}, instT I a l = true → ∀ p ∈ l, ∃ y, a.get p.1 = some y ∧ instV I 40 p.2 y = true
  | [], _, p, hm => by cases hm
  | q :: r, h, p, hm => by
    simp only [instT, Bool.and_eq_true] at h
    rcases List.mem_cons.1 hm with rfl | hm
    · have h1 := h.1
      split at h1
      · rename_i y hy
        exact ⟨y, hy, h1⟩
      · cases h1
    · exact instT_mem h.2 p hm
theorem instT_ok {O : Orc} (ho : OrcOk O E.ρ) (hs : strOk O I = true) {nt : Nat} {a : T AV} {tmps : Array Value} {l : List (Nat × AV)} (h : instT I a l = true) (ht : TRel E nt a tmps) : TRel (instEnv I E) nt (putsT l) tmps := by
  refine ⟨ht.1, fun t v hv => ?_⟩
  obtain ⟨y, h1, h2⟩ := instT_mem h _ (putsT_get hv)
  obtain ⟨x, h3, h4⟩ := ht.2 t y h1
  exact ⟨x, h3, instV_ok ho hs 40 _ _ _ h2 h4⟩
end
end Ev
end Go.Proofs.YtmghbbicjkmigaaGreatDoor
