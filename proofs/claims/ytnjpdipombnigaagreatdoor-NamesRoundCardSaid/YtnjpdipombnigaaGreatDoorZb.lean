/-
  The symbolic evaluator: a closed call whose outcome is written down, as a contract for other runs.
  Data of any size: own cells given out of hand; a told cell as data.
-/
import Derived.Test.YtnjpdipombnigaaGreatDoorZa
namespace Go.Proofs.YtnjpdipombnigaaGreatDoor
namespace Ev
open Go.RowKit

noncomputable def entsX (c : Nat) : List Ent → List Ent → Bool
  | [], [] => true
  | x :: l, y :: m => likeV c [] (nat_lit 40) x.key y.key && (likeV c [] (nat_lit 40) x.val y.val && (Nat.beq x.born y.born && entsX c l m))
  | _, _ => false
/-- The same object, as it is written down. -/
noncomputable def sameO (c : Nat) (x y : AObj) : Bool := match x, y with
  | .cells a e f p, .cells b e' f' p' => likeO c [] (.cells a e f p) (.cells b e' f' p')
  | .part a, .part b => likeO c [] (.part a) (.part b)
  | .map a n, .map b k => Nat.beq n k && entsX c a b
  | _, _ => false
noncomputable def sameAt (c : Nat) (x : AObj) (o : Option AObj) : Bool := match o with
  | some y => sameO c x y
  | none => false
noncomputable def litsIn (c0 c1 : Nat) (h : T AObj) : List (Nat × AObj) → Bool
  | [] => true
  | p :: r => Nat.ble c0 p.1 && (Nat.blt p.1 c1 && (sameAt c1 p.2 (h.get p.1) && litsIn c0 c1 h r))
noncomputable def putsL (h : T AObj) : List (Nat × AObj) → T AObj
  | [] => h
  | p :: r => (putsL h r).put p.1 (some p.2)
/-- The look at the run. -/
noncomputable def litChk (x : R) (c0 c1 : Nat) (v : AV) (lits : List (Nat × AObj)) : Bool := match x with
  | some (u, s1) => Nat.beq s1.c c1 && (Nat.ble c0 c1 && (Nat.ble (nat_lit 64) c0 && (Nat.beq (low c0 s1.w) (nat_lit 0) && (likeV c1 [] (nat_lit 40) v u && litsIn c0 c1 s1.h lits))))
  | none => false
noncomputable def litSt (s : St) (c1 : Nat) (lits : List (Nat × AObj)) : St := ⟨c1, putsL s.h lits, Nat.lor s.l (marksIn s.c c1), Nat.lor s.w (marksIn s.c c1), s.o⟩
/-- The contract: from a state that begins to count at c0. -/
noncomputable def knownLit (tabs : List (Nat × List AV)) (c0 c1 : Nat) (v : AV) (lits : List (Nat × AObj)) (args : List AV) (s : St) : R := match args with
  | [] => bc (Nat.beq s.c c0) (bc (tabsIn s tabs) (some (v, litSt (seeAll s tabs) c1 lits)))
  | _ => none

theorem idS_nil {c i j : Nat} (h : idS c [] i j = true) : i = j := by
  have h' : bi (Nat.blt i c) (Nat.beq i j) false = true := h
  cases hb : Nat.blt i c with
  | false => rw [hb, bi_false] at h'; cases h'
  | true => rw [hb, bi_true] at h'; exact Nat.eq_of_beq_eq_true h'
theorem entsX_ok {E : Env} {c : Nat} : ∀ {a b : List Ent} {zs : List MapEntry}, entsX c a b = true → RelE E b zs → RelE E a zs
  | [], [], _, _, .nil => .nil
  | _ :: _, _ :: _, _, h, .cons h1 h2 h3 t => by
    simp only [entsX, Bool.and_eq_true] at h
    have hid : ∀ i j, idS c [] i j = true → E i = E j := fun i j h => by rw [idS_nil h]
    exact .cons (likeV_ok hid rfl 40 _ _ _ h.1 h1) (likeV_ok hid rfl 40 _ _ _ h.2.1 h2) ((Nat.eq_of_beq_eq_true h.2.2.1).trans h3) (entsX_ok h.2.2.2 t)
  | [], _ :: _, _, h, _ => by cases h
  | _ :: _, [], _, h, _ => by cases h
theorem sameO_ok {E : Env} {c i : Nat} {x y : AObj} {ob : Obj} (h : sameO c x y = true) (hok : OkObj E i y ob) : OkObj E i x ob := by
  have hid : ∀ i j, idS c [] i j = true → E i = E j := fun i j h => by rw [idS_nil h]
  unfold sameO at h
  split at h
  · exact likeObj_ok hid rfl rfl h (fun _ _ _ e => by cases e) hok
  · exact likeObj_ok hid rfl rfl h (fun _ _ _ e => by cases e) hok
  · rw [Bool.and_eq_true] at h
    obtain ⟨a, rfl, hr⟩ := hok
    exact ⟨a, by rw [Nat.eq_of_beq_eq_true h.1], entsX_ok h.2 hr⟩
  · cases h
theorem sameO_fixed {c : Nat} {x y : AObj} (h : sameO c x y = true) : y.fixed = false := by
  unfold sameO at h
  split at h <;> first | rfl | (cases h)
theorem putsL_some {h : T AObj} {i : Nat} {o : AObj} : ∀ {l : List (Nat × AObj)}, (putsL h l).get i = some o → (i, o) ∈ l ∨ ((∀ p ∈ l, p.1 ≠ i) ∧ h.get i = some o)
  | [], he => .inr ⟨fun p hp => (by cases hp), he⟩
  | p :: l, he => by
    rcases T.put_some (show ((putsL h l).put p.1 (some p.2)).get i = some o from he) with ⟨e, hx⟩ | ⟨hne, hx⟩
    · cases hx
      subst e
      exact .inl (List.mem_cons_self ..)
    · rcases putsL_some hx with h1 | ⟨h1, h2⟩
      · exact .inl (List.mem_cons_of_mem _ h1)
      · refine .inr ⟨fun q hq => ?_, h2⟩
        rcases List.mem_cons.1 hq with rfl | hq
        · exact fun e => hne e.symm
        · exact h1 q hq
theorem putsL_ne {h : T AObj} {i : Nat} : ∀ {l : List (Nat × AObj)}, (∀ p ∈ l, p.1 ≠ i) → (putsL h l).get i = h.get i
  | [], _ => rfl
  | p :: l, hl => by
    show ((putsL h l).put p.1 (some p.2)).get i = h.get i
    rw [T.put_ne _ _ _ _ (fun e => hl p (List.mem_cons_self ..) e.symm)]
    exact putsL_ne fun q hq => hl q (List.mem_cons_of_mem _ hq)
theorem litsIn_ok {c0 c1 : Nat} {h : T AObj} : ∀ {l : List (Nat × AObj)}, litsIn c0 c1 h l = true → ∀ p ∈ l, c0 ≤ p.1 ∧ p.1 < c1 ∧ ∃ y, h.get p.1 = some y ∧ sameO c1 p.2 y = true
  | [], _, p, hp => by cases hp
  | q :: r, hl, p, hp => by
    simp only [litsIn, Bool.and_eq_true] at hl
    rcases List.mem_cons.1 hp with rfl | hp
    · refine ⟨by simpa using hl.1, by simpa using hl.2.1, ?_⟩
      have h3 := hl.2.2.1
      unfold sameAt at h3
      split at h3
      · rename_i y hy
        exact ⟨y, hy, h3⟩
      · cases h3
    · exact litsIn_ok hl.2.2.2 p hp
theorem tabsIn_live {G : Nat → Prop} {B : Nat} {E : Env} {s : St} {w : World} (hs : Sat G B E s w) : ∀ {tabs : List (Nat × List AV)}, tabsIn s tabs = true → (∀ g l, (g, l) ∈ tabs → G g) → ∀ g l, (g, l) ∈ tabs → ∃ C, E g = .live g C
  | [], _, _ => fun _ _ h => by cases h
  | p :: r, h, hg => by
    simp only [tabsIn, Bool.and_eq_true] at h
    obtain ⟨h1, h2, h3⟩ := h
    have ih := tabsIn_live hs h3 (fun g l hm => hg g l (by simp [hm]))
    intro g l hm
    rcases List.mem_cons.1 hm with rfl | hm
    · have hlt : g < 64 := by simpa using h2
      unfold tabEq at h1
      split at h1
      · rename_i m ho
        obtain ⟨b, C, ob, he, hh, hok, _⟩ := hs.fact g _ (hg g l (by simp)) ho
        have := hs.at_live he (hs.glob g hlt)
        subst this
        exact ⟨C, he⟩
      · cases h1
    · exact ih g l hm
/-- The tables as E has them, nothing else. -/
def envT (E : Env) : Env := ⟨fun i => if i < 64 then E i else .unborn, E.ρ, E.st, E.δ, E.K, E.hp⟩
theorem satE {G : Nat → Prop} {B : Nat} {E : Env} {s : St} {w : World} (hs : Sat G B E s w) {tabs : List (Nat × List AV)} (ht : tabsIn s tabs = true) (hg : ∀ g l, (g, l) ∈ tabs → G g) {c0 : Nat} (h64 : 64 ≤ c0) :
    Sat (fun _ => True) w.heap.size (envT E) ⟨c0, initH tabs, nat_lit 0, nat_lit 0, noOrc⟩ w := by
  have ok := tabsIn_ok hs ht hg
  have hlt : ∀ i b C, envT E i = .live b C → b < w.heap.size := by
    intro i b C hi
    simp only [envT] at hi
    split at hi
    · exact hs.lt i b C hi
    · cases hi
  refine ⟨?_, hlt, Nat.le_refl _, ?_, ?_, ?_, noOrc_ok _, fun b hb => ⟨(hs.prot b hb).1, (hs.prot b hb).2.1, fun j C hj => hlt j b C hj⟩, fun d hd => absurd hd List.not_mem_nil⟩
  · intro i j b C D hb hi _
    exact absurd (hlt i b C hi) (Nat.not_lt.2 hb)
  · intro g h64
    simp only [envT]
    rw [if_pos h64]
    exact hs.glob g h64
  · intro i hi _
    have hi' : c0 ≤ i := hi
    simp only [envT]
    rw [if_neg (by omega)]
  · intro i o _ ho
    obtain ⟨vs, hm, rfl⟩ := initH_get ho
    obtain ⟨hl, c, e, f, hh, hr⟩ := ok _ _ hm
    obtain ⟨C, hC⟩ := tabsIn_live hs ht hg i vs hm
    refine ⟨i, C, _, ?_, hh, ⟨c, e, f, rfl, hr _⟩, .inl rfl⟩
    simp only [envT]
    rw [if_pos hl]
    exact hC
/-- What the ids stand for behind the call. -/
def litE (E E1 : Env) (c0 c1 : Nat) (ids : List Nat) : Env := ⟨fun i => if c0 ≤ i ∧ i < c1 then (if i ∈ ids then E1 i else .dead) else E i, E.ρ, fun t => if c0 ≤ t ∧ t < c1 then E1.st t else E.st t, E.δ, E1.K, E1.hp⟩
theorem knownLit_ok {P : Program} [IsProg P] {tabs : List (Nat × List AV)} {ctr : Ctr} (hctr : CtrOk P ctr) (hmix : P.follows .mixedOrders = true) (hnames : (P.funcs.toList.all fun fn => fn.name != "runtime.NumGoroutine") = true) {n : Nat} {f : FuncId} {c0 c1 : Nat} {v0 : AV} {lits : List (Nat × AObj)}
    (hrun : litChk ((ev P ctr n).call f [] ⟨c0, initH tabs, nat_lit 0, nat_lit 0, noOrc⟩) c0 c1 v0 lits = true) : ∀ {args : List AV} {s : St} {v : AV} {s' : St}, knownLit tabs c0 c1 v0 lits args s = some (v, s') → Step s s' ∧ ∀ {G : Nat → Prop} {B : Nat} {E : Env} {w : World} {args' : Array Value}, (∀ j, In s'.l j → G j) → Sat G B E s w → RelL E args args'.toList →
      CallRes P f args' w (RetOk G B s' v E w) := by
  intro args s v s' h
  unfold litChk at hrun
  split at hrun
  case h_2 => cases hrun
  rename_i u s1 hs1
  simp only [Bool.and_eq_true] at hrun
  obtain ⟨k1, k2, k3, k4, k5, k6⟩ := hrun
  have k1 : s1.c = c1 := Nat.eq_of_beq_eq_true k1
  have k2 : c0 ≤ c1 := by simpa using k2
  have k3 : 64 ≤ c0 := by simpa using k3
  have k4 : low c0 s1.w = 0 := Nat.eq_of_beq_eq_true k4
  have hl := litsIn_ok k6
  unfold knownLit at h
  split at h
  case h_2 => cases h
  obtain ⟨hc, h⟩ := bc_some h
  obtain ⟨ht, h⟩ := bc_some h
  cases h
  have hc : s.c = c0 := Nat.eq_of_beq_eq_true hc
  obtain ⟨q1, q2, q3, q4, q5⟩ := seeAll_step tabs s
  have hsc : (seeAll s tabs).c = c0 := q3.trans hc
  have hmk : ∀ j, c0 ≤ j → j < c1 → In (marksIn (seeAll s tabs).c c1) j := fun j h1 h2 => by rw [hsc]; exact marksIn_in h1 h2
  have hstep : Step s (litSt (seeAll s tabs) c1 lits) := by
    refine ⟨fun j hj => (in_lor _ _ _).2 (.inl (q1.l j hj)), fun j hj => (in_lor _ _ _).2 (.inl (q1.w j hj)), fun hwl j hj => ?_, fun j hj => ?_, q1.o⟩
    · rcases (in_lor _ _ _).1 hj with h | h
      · exact (in_lor _ _ _).2 (.inl (q1.wl hwl j h))
      · exact (in_lor _ _ _).2 (.inr h)
    · show (putsL (seeAll s tabs).h lits).get j = s.h.get j
      rw [putsL_ne, q2]
      intro p hp e
      obtain ⟨h1, h2, _⟩ := hl p hp
      exact hj ((in_lor _ _ _).2 (.inr (hmk j (by omega) (by omega))))
  refine ⟨hstep, fun {G B E w args'} hG hs ha => ?_⟩
  have hGt : ∀ g l, (g, l) ∈ tabs → G g := fun g l hm => hG g ((in_lor _ _ _).2 (.inl (q5 g l hm)))
  have hGr : ∀ j, c0 ≤ j → j < c1 → G j := fun j h1 h2 => hG j ((in_lor _ _ _).2 (.inr (hmk j h1 h2)))
  have hT := satE hs ht hGt k3
  have ha' : args' = #[] := by
    obtain ⟨l⟩ := args'
    cases ha
    rfl
  subst ha'
  obtain ⟨hent, hcalls⟩ := ((ev_ok hmix hctr (names_of hnames) n).call hs1).2 (fun _ _ => trivial) hT (args' := #[]) .nil
  refine ⟨hent, hcalls.mono fun e w' he => ?_⟩
  obtain ⟨E1, v', rfl, hv, hs', hx⟩ := he
  have hold : ∀ i, i < c0 → E1 i = envT E i := by
    intro i hi
    refine hx.keep i fun hin => ?_
    have : In (low c0 s1.w) i := low_in.2 ⟨hi, hin⟩
    rw [k4] at this
    exact not_in_zero _ this
  have hun : ∀ i, c1 ≤ i → E1 i = .unborn := fun i hi => hs'.fresh i (by rw [k1]; exact hi) trivial
  have hEf : ∀ i, c0 ≤ i → G i → E i = .unborn := fun i hi hg => hs.fresh i (by rw [hc]; exact hi) hg
  let ids := lits.map (·.1)
  have hin : ∀ i, c0 ≤ i → i < c1 → litE E E1 c0 c1 ids i = if i ∈ ids then E1 i else .dead := fun i h1 h2 => by simp only [litE]; rw [if_pos ⟨h1, h2⟩]
  have hout : ∀ i, ¬ (c0 ≤ i ∧ i < c1) → litE E E1 c0 c1 ids i = E i := fun i h1 => by simp only [litE]; rw [if_neg h1]
  have hρ1 : E1.ρ = E.ρ := hx.le.ρ
  have le1 : E1.le (litE E E1 c0 c1 ids) := by
    refine ⟨fun i => ?_, hρ1.symm, fun t htd => ?_, hx.le.δ.symm, fun _ h => h, fun _ _ => rfl⟩
    · by_cases hr : c0 ≤ i ∧ i < c1
      · rw [hin i hr.1 hr.2]
        split
        · exact Slot.le_refl _
        · cases E1 i <;> trivial
      · rw [hout i hr]
        by_cases h1 : i < c0
        · rw [hold i h1]
          simp only [envT]
          split
          · exact Slot.le_refl _
          · trivial
        · rw [hun i (by omega)]; trivial
    · show (if c0 ≤ t ∧ t < c1 then E1.st t else E.st t) = _
      split
      · rfl
      · rename_i hr
        by_cases h1 : t < c0
        · rw [hold t h1] at htd
          exact (hx.le.st t htd).symm
        · rw [hun t (by omega)] at htd; cases htd
  have le2 : E.le (litE E E1 c0 c1 ids) := by
    refine ⟨fun i => ?_, rfl, fun t htd => ?_, rfl, hx.le.K, hx.le.hp⟩
    · by_cases hr : c0 ≤ i ∧ i < c1
      · rw [hEf i hr.1 (hGr i hr.1 hr.2)]; trivial
      · rw [hout i hr]; exact Slot.le_refl _
    · show (if c0 ≤ t ∧ t < c1 then E1.st t else E.st t) = _
      rw [if_neg]
      intro hr
      rw [hEf t hr.1 (hGr t hr.1 hr.2)] at htd; cases htd
  have hobj : ∀ i, i ∈ ids → c0 ≤ i ∧ i < c1 ∧ ∃ y b C ob, s1.h.get i = some y ∧ E1 i = .live b C ∧ w'.heap[b]? = some ob ∧ OkObj E1 i y ob ∧ w.heap.size ≤ b := by
    intro i hi
    obtain ⟨p, hp, rfl⟩ := List.mem_map.1 hi
    obtain ⟨h1, h2, y, h3, h4⟩ := hl p hp
    obtain ⟨b, C, ob, h5, h6, h7, h8⟩ := hs'.fact p.1 y trivial h3
    refine ⟨h1, h2, y, b, C, ob, h3, h5, h6, h7, ?_⟩
    rcases h8 with h8 | h8
    · rw [sameO_fixed h4] at h8; cases h8
    · exact h8
  have hlive : ∀ i b C, litE E E1 c0 c1 ids i = .live b C → (i ∈ ids ∧ E1 i = .live b C ∧ w.heap.size ≤ b) ∨ (¬ (c0 ≤ i ∧ i < c1) ∧ E i = .live b C ∧ b < w.heap.size) := by
    intro i b C h
    by_cases hr : c0 ≤ i ∧ i < c1
    · rw [hin i hr.1 hr.2] at h
      split at h
      · rename_i hm
        obtain ⟨_, _, y, b', C', ob, _, h5, _, _, h8⟩ := hobj i hm
        rw [h5] at h
        cases h
        exact .inl ⟨hm, h5, h8⟩
      · cases h
    · rw [hout i hr] at h
      exact .inr ⟨hr, h, hs.lt i b C h⟩
  refine ⟨litE E E1 c0 c1 ids, v', rfl, ?_, ⟨?_, ?_, Nat.le_trans hs.base hx.below.size, fun g hg => Slot.at_le (le2 g) (hs.glob g hg), ?_, ?_, ?_, fun b hb => ?_, ?_⟩, ⟨le2, ?_, ?_, hx.below.mono hs.base, fun b h _ => hx.below.block b h, fun j b C hj => ?_, fun b hb => ?_⟩⟩
  · exact (likeV_ok (E' := E1) (F := E1) (fun i j h => by rw [idS_nil h]) rfl 40 _ _ _ k5 hv).mono le1
  · intro i j b X Y hb hi hj
    rcases hlive i b X hi with ⟨_, h1, h2⟩ | ⟨_, h1, h2⟩ <;> rcases hlive j b Y hj with ⟨_, h3, h4⟩ | ⟨_, h3, h4⟩
    · exact hs'.inj i j b X Y h2 h1 h3
    · omega
    · omega
    · exact hs.inj i j b X Y hb h1 h3
  · intro i b C hi
    rcases hlive i b C hi with ⟨_, h1, _⟩ | ⟨_, _, h2⟩
    · exact hs'.lt i b C h1
    · exact Nat.lt_of_lt_of_le h2 hx.below.size
  · intro i hi hg
    have hi' : c1 ≤ i := hi
    rw [hout i (by omega)]
    exact hEf i (by omega) hg
  · intro i o hg ho
    rcases putsL_some (show (putsL (seeAll s tabs).h lits).get i = some o from ho) with hm | ⟨_, h1⟩
    · have hi : i ∈ ids := List.mem_map.2 ⟨_, hm, rfl⟩
      obtain ⟨h1, h2, y, b, C, ob, h3, h5, h6, h7, h8⟩ := hobj i hi
      obtain ⟨_, _, y', h3', h4⟩ := hl _ hm
      rw [h3] at h3'
      cases h3'
      have hEi : litE E E1 c0 c1 ids i = .live b C := by rw [hin i h1 h2, if_pos hi]; exact h5
      exact ⟨b, C, ob, hEi, h6, (sameO_ok h4 h7).mono le1 (fun b' C' he => by rw [h5] at he; cases he; exact hEi), .inr (Nat.le_trans hs.base h8)⟩
    · rw [q2] at h1
      obtain ⟨b, C, ob, h5, h6, h7, h8⟩ := hs.fact i o hg h1
      have hr : ¬ (c0 ≤ i ∧ i < c1) := fun hr => by rw [hEf i hr.1 hg] at h5; cases h5
      refine ⟨b, C, ob, by rw [hout i hr]; exact h5, (hx.below.block b (hs.lt i b C h5)).trans h6, h7.mono le2 (fun b' C' he => by rw [hout i hr]; exact he), h8⟩
  · show OrcOk (seeAll s tabs).o E.ρ
    rw [q1.o]; exact hs.orc
  · obtain ⟨p1, p2, p3⟩ := hs'.prot b hb
    refine ⟨p1, p2, fun j X hj => ?_⟩
    rcases hlive j b X hj with ⟨_, h1, h2⟩ | ⟨_, h1, h2⟩
    · exact absurd (p3 j X h1) (Nat.not_lt.2 h2)
    · rcases hx.kn b hb with h3 | h3
      · exact (hs.prot b h3).2.2 j X h1
      · omega
  · show ∀ d ∈ (seeAll s tabs).o.defs, DefOk (seeAll s tabs).o.tabs E.ρ E.δ d
    rw [q1.o]; exact hs.defs
  · intro j hj
    refine hout j fun hr => hj ((in_lor _ _ _).2 (.inr (hmk j hr.1 hr.2)))
  · intro j b C hj he
    exact hx.below.block b (hs.lt j b C he)
  · rcases hlive j b C hj with ⟨_, _, h2⟩ | ⟨_, h1, _⟩
    · exact .inr (.inl h2)
    · exact .inl ⟨j, C, h1⟩
  · rcases hx.kn b hb with h3 | h3
    · exact .inl h3
    · exact .inr (Nat.le_trans hs.base h3)
end Ev
end Go.Proofs.YtnjpdipombnigaaGreatDoor
namespace Go.Proofs.YtnjpdipombnigaaGreatDoor
namespace Ev
open Go.RowKit

/-- A value as data: own cells are given out of hand, and kept from now on. -/
noncomputable def packL (f : AV → St → Option (AV × St)) (l : List AV) : St → Option (List AV × St) :=
  List.rec (motive := fun _ => St → Option (List AV × St)) (fun s => some ([], s)) (fun x _ ih s => oc2 (f x s) fun y s => oc2 (ih s) fun r s => some (y :: r, s)) l
noncomputable def packV (P : Program) (n : Nat) : AV → St → Option (AV × St) :=
  Nat.rec (motive := fun _ => AV → St → Option (AV × St)) (fun _ _ => none) (fun _ ih x s => match x with
    | .slice i off len cap _ => bc (Nat.beq off (nat_lit 0)) (bc (Nat.ble (nat_lit 64) i) (bc (match cap with | some c => Nat.ble len c | none => true) (oc (s.h.get i) fun o => cellsC o fun vs e _ op => oc (szOf P e) fun z => oc (takeN (Nat.mul len z) vs) fun us =>
        oc2 (packL ih us (s.set i none)) fun us s => some (.psl len us, s))))
    | .agg l => oc2 (packL ih l s) fun l s => some (.agg l, s)
    | .tuple l => oc2 (packL ih l s) fun l s => some (.tuple l, s)
    | .iface t v => oc2 (ih v s) fun v s => some (.iface t v, s)
    | .psl m l => some (.psl m l, s)
    | .rsl i n => bc (Nat.ble (nat_lit 64) i) (oc (s.h.get i) fun o => accC o fun k vs m _ z => bc (Nat.beq vs.length (nat_lit 0)) (bc (seEq n m) (bc (Nat.blt (nat_lit 0) z) (some (.opq k, s.set i none)))))
    | x => bc (symV (nat_lit 2) x x) (some (x, s))) n

/-- A block is given out of hand. -/
def Env.give (E : Env) (i b : Nat) (o : Option Obj) : Env := ⟨fun j => if j = i then .dead else E j, E.ρ, E.st, E.δ, fun k => E.K k ∨ k = b, fun k => if k = b then o else E.hp k⟩
section
variable {P : Program} {G : Nat → Prop} {B : Nat} {E : Env} {s s' : St} {w : World}
theorem Sat.give (h : Sat G B E s w) {i b C : Nat} {o : AObj} (hg : G i) (ho : s.h.get i = some o) (hf : o.fixed = false) (he : E i = .live b C) :
    Sat G B (E.give i b w.heap[b]?) (s.set i none) w ∧ Ext B (s.set i none).w E (E.give i b w.heap[b]?) w w ∧ (E.give i b w.heap[b]?).K b ∧ (E.give i b w.heap[b]?).hp b = w.heap[b]? := by
  have hB : B ≤ b := by
    obtain ⟨b', C', ob, he', _, _, hx⟩ := h.fact i o hg ho
    rw [he] at he'
    cases he'
    rcases hx with hx | hx
    · rw [hf] at hx; cases hx
    · exact hx
  have hnK : ¬ E.K b := fun hk => absurd ((h.prot b hk).2.2 i C he) (Nat.not_lt.2 hB)
  have hs : ∀ j, E.give i b w.heap[b]? j = if j = i then .dead else E j := fun _ => rfl
  have hle : E.le (E.give i b w.heap[b]?) := by
    refine ⟨fun j => ?_, rfl, fun _ _ => rfl, rfl, fun _ hk => .inl hk, fun k hk => ?_⟩
    · rw [hs]
      split
      · rename_i e; subst e; rw [he]; trivial
      · exact Slot.le_refl _
    · show (if k = b then _ else _) = _
      rw [if_neg (fun e => hnK (by rw [← e]; exact hk))]
  have hlive : ∀ j c X, E.give i b w.heap[b]? j = .live c X → j ≠ i ∧ E j = .live c X := by
    intro j c X hj
    rw [hs] at hj
    split at hj
    · cases hj
    · rename_i hne; exact ⟨hne, hj⟩
  refine ⟨⟨?_, ?_, h.base, fun g hg => Slot.at_le (hle g) (h.glob g hg), ?_, ?_, h.orc, ?_, h.defs⟩, ⟨hle, ?_, fun _ _ _ _ _ => rfl, Below.refl _ _, fun _ _ _ => rfl, fun j c X hj => .inl ⟨j, X, (hlive j c X hj).2⟩, ?_⟩, .inr rfl, ?_⟩
  · intro j k c X Y hc hj hk
    exact h.inj j k c X Y hc (hlive _ _ _ hj).2 (hlive _ _ _ hk).2
  · intro j c X hj
    exact h.lt j c X (hlive _ _ _ hj).2
  · intro j hj hgj
    have hju := h.fresh j hj hgj
    rw [hs, if_neg (fun e => by rw [e, he] at hju; cases hju)]; exact hju
  · intro j oj hgj hj
    rcases T.put_some hj with ⟨_, hx⟩ | ⟨hne, hx⟩
    · cases hx
    · obtain ⟨c, X, ob, h1, h2, h3, h4⟩ := h.fact j oj hgj hx
      exact ⟨c, X, ob, by rw [hs, if_neg hne]; exact h1, h2, h3.mono hle (fun b' X' hbx => by rw [hs, if_neg hne]; exact hbx), h4⟩
  · rintro k (hk | rfl)
    · obtain ⟨h1, h2, h3⟩ := h.prot k hk
      refine ⟨h1, ?_, fun j X hj => h3 j X (hlive _ _ _ hj).2⟩
      show _ = if k = b then _ else _
      rw [if_neg (fun e => hnK (by rw [← e]; exact hk))]
      exact h2
    · refine ⟨h.lt i k C he, ?_, fun j X hj => ?_⟩
      · show _ = if k = k then _ else _
        rw [if_pos rfl]
      · obtain ⟨h1, h2⟩ := hlive _ _ _ hj
        exact absurd (h.inj j i k X C hB h2 he) h1
  · intro j hj
    rw [hs, if_neg (fun e => hj ((in_lor _ _ _).2 (.inr ((in_bit _ _).2 e.symm))))]
  · rintro k (hk | rfl)
    · exact .inl hk
    · exact .inr hB
  · show (if b = b then _ else _) = _
    rw [if_pos rfl]
/-- What packing comes to. -/
def PackOk (f : AV → St → Option (AV × St)) : Prop := ∀ {x : AV} {s : St} {y : AV} {s' : St}, f x s = some (y, s') → Step s s' ∧ ∀ {G : Nat → Prop} {B : Nat} {E : Env} {w : World} {v : Value}, (∀ j, In s'.l j → G j) → Sat G B E s w → Rel E x v →
  ∃ E', Sat G B E' s' w ∧ Ext B s'.w E E' w w ∧ Rel E' y v
theorem packL_ok {f : AV → St → Option (AV × St)} (hf : PackOk f) : ∀ {l : List AV} {s : St} {r : List AV} {s' : St}, packL f l s = some (r, s') → Step s s' ∧ ∀ {G : Nat → Prop} {B : Nat} {E : Env} {w : World} {vs : List Value}, (∀ j, In s'.l j → G j) → Sat G B E s w → RelL E l vs →
    ∃ E', Sat G B E' s' w ∧ Ext B s'.w E E' w w ∧ RelL E' r vs
  | [], s, r, s', h => by
    cases h
    exact ⟨Step.refl _, fun {G B E w vs} _ hs hr => by cases hr; exact ⟨E, hs, Ext.refl _ _ _ _, .nil⟩⟩
  | x :: l, s, r, s', h => by
    obtain ⟨y, s1, h1, h2⟩ := oc2_some (show oc2 (f x s) (fun y s => oc2 (packL f l s) fun r s => some (y :: r, s)) = some (r, s') from h)
    obtain ⟨r1, s2, h3, h4⟩ := oc2_some h2
    cases h4
    obtain ⟨p1, p2⟩ := hf h1
    obtain ⟨q1, q2⟩ := packL_ok hf h3
    refine ⟨p1.trans q1, fun {G B E w vs} hG hs hr => ?_⟩
    cases hr with
    | cons hx ht =>
      obtain ⟨E1, k1, k2, k3⟩ := p2 (fun j hj => hG j (q1.l j hj)) hs hx
      obtain ⟨E2, m1, m2, m3⟩ := q2 hG k1 (ht.mono k2.le)
      exact ⟨E2, m1, k2.trans m2 q1.w, .cons (k3.mono m2.le) m3⟩
theorem reprL_length0 {K : Nat → Prop} {hp : Nat → Option Obj} : ∀ {l : List D} {us : List Value}, ReprL K hp l us → l.length = us.length
  | _, _, .nil => rfl
  | _, _, .cons _ t => by simp [reprL_length0 t]
theorem packV_ok : ∀ (n : Nat), PackOk (packV P n) := by
  intro n
  induction n with
  | zero => intro x s y s' h; cases h
  | succ n ih =>
    intro x s y s' h
    have plain : ∀ {x : AV}, (bc (symV 2 x x) (some (x, s)) : Option (AV × St)) = some (y, s') → Step s s' ∧ ∀ {G : Nat → Prop} {B : Nat} {E : Env} {w : World} {v : Value}, (∀ j, In s'.l j → G j) → Sat G B E s w → Rel E x v → ∃ E', Sat G B E' s' w ∧ Ext B s'.w E E' w w ∧ Rel E' y v := by
      intro x h
      obtain ⟨_, h1⟩ := bc_some h
      cases h1
      exact ⟨Step.refl _, fun {G B E w v} _ hs hr => ⟨E, hs, Ext.refl _ _ _ _, hr⟩⟩
    cases x
    case slice i off len cap dr =>
      obtain ⟨h0, h⟩ := bc_some h
      obtain ⟨h64, h⟩ := bc_some h
      obtain ⟨hcap, h⟩ := bc_some h
      obtain ⟨o, ho, h⟩ := oc_some h
      unfold cellsC at h
      split at h
      case h_2 => cases h
      rename_i vs e fz op
      obtain ⟨z, hz, h⟩ := oc_some h
      obtain ⟨us, hus, h⟩ := oc_some h
      obtain ⟨us', s1, hp, h⟩ := oc2_some h
      cases h
      obtain rfl : off = 0 := Nat.eq_of_beq_eq_true h0
      obtain ⟨q1, q2⟩ := packL_ok ih hp
      refine ⟨(Step.set s i none).trans q1, fun {G B E w v} hG hs hr => ?_⟩
      have hgi : G i := hG i (q1.l i ((in_lor _ _ _).2 (.inr ((in_bit _ _).2 rfl))))
      have hcs : cellsAt s i = some vs := by unfold cellsAt; rw [ho]
      obtain ⟨b, C, c, e', f, xs, rest, he, hb, hx, hrl⟩ := hs.cells hgi hcs
      obtain ⟨k1, k2, k3, k4⟩ := hs.give hgi ho rfl he
      obtain ⟨rfl, hlen⟩ := takeN_some _ hus
      obtain ⟨E2, m1, m2, m3⟩ := q2 hG k1 ((hrl.take (Nat.mul len z)).mono k2.le)
      refine ⟨E2, m1, k2.trans m2 q1.w, ?_⟩
      cases hr with
      | @slice _ _ _ _ b' c' _ hat hcp =>
        rw [he] at hat
        have hat : b' = b := hat
        subst hat
        have hl2 := hrl.length
        have hn : (xs.take (Nat.mul len z)).length = len * z := by
          rw [List.length_take, ← hl2]
          exact Nat.min_eq_left hlen
        refine .psl (c := c) (e := e') (f := f) (m2.le.K _ k3) ((m2.le.hp _ k3).trans (k4.trans hb)) hn ?_ ?_ m3
        · cases cap with
          | some cc =>
            have hcp : c' = cc := hcp
            subst hcp
            exact Nat.le_of_ble_eq_true hcap
          | none => exact hcp.1
        · intro j u hj
          have hj' := (List.getElem?_eq_some_iff.1 hj).1
          rw [List.getElem?_take] at hj
          split at hj
          · rw [Nat.zero_add, ← Array.getElem?_toList, hx, List.getElem?_append_left (List.getElem?_eq_some_iff.1 hj).1]
            exact hj
          · cases hj
    case agg l =>
      obtain ⟨l', s1, hp, h⟩ := oc2_some (show oc2 (packL (packV P n) l s) (fun l s => some (AV.agg l, s)) = some (y, s') from h)
      cases h
      obtain ⟨q1, q2⟩ := packL_ok ih hp
      refine ⟨q1, fun {G B E w v} hG hs hr => ?_⟩
      cases hr with
      | agg hl =>
        obtain ⟨E2, m1, m2, m3⟩ := q2 hG hs hl
        exact ⟨E2, m1, m2, .agg m3⟩
    case tuple l =>
      obtain ⟨l', s1, hp, h⟩ := oc2_some (show oc2 (packL (packV P n) l s) (fun l s => some (AV.tuple l, s)) = some (y, s') from h)
      cases h
      obtain ⟨q1, q2⟩ := packL_ok ih hp
      refine ⟨q1, fun {G B E w v} hG hs hr => ?_⟩
      cases hr with
      | tuple hl =>
        obtain ⟨E2, m1, m2, m3⟩ := q2 hG hs hl
        exact ⟨E2, m1, m2, .tuple m3⟩
    case iface t u =>
      obtain ⟨u', s1, hp, h⟩ := oc2_some (show oc2 (packV P n u s) (fun v s => some (AV.iface t v, s)) = some (y, s') from h)
      cases h
      obtain ⟨q1, q2⟩ := ih hp
      refine ⟨q1, fun {G B E w v} hG hs hr => ?_⟩
      cases hr with
      | iface hl =>
        obtain ⟨E2, m1, m2, m3⟩ := q2 hG hs hl
        exact ⟨E2, m1, m2, .iface m3⟩
    case psl m l =>
      cases h
      exact ⟨Step.refl _, fun {G B E w v} _ hs hr => ⟨E, hs, Ext.refl _ _ _ _, hr⟩⟩
    case rsl i n' =>
      obtain ⟨_, h⟩ := bc_some h
      obtain ⟨o, ho, h⟩ := oc_some h
      unfold accC at h
      split at h
      case h_2 => cases h
      rename_i k vs nn e z
      obtain ⟨h1, h⟩ := bc_some h
      obtain ⟨h2, h⟩ := bc_some h
      obtain ⟨h3, h⟩ := bc_some h
      cases h
      have h3 : 0 < z := by simpa using h3
      have h1 : vs = [] := List.eq_nil_of_length_eq_zero (Nat.eq_of_beq_eq_true h1)
      subst h1
      refine ⟨Step.set s i none, fun {G B E w v} hG hs hr => ?_⟩
      have hgi : G i := hG i ((in_lor _ _ _).2 (.inr ((in_bit _ _).2 rfl)))
      obtain ⟨b, C, ob, he, hb, hok, _⟩ := hs.fact i _ hgi ho
      obtain ⟨c, f, us0, us, rest, b', C', N, l, rfl, hx, ⟨M, hd, hll⟩, hl0, hrv, he', hsz, hN, hlen, _⟩ := hok
      cases hrv
      obtain ⟨k1, k2, k3, k4⟩ := hs.give hgi ho rfl he
      refine ⟨_, k1, k2, ?_⟩
      cases hr with
      | @rsl _ b2 c2 N2 _ hat hn2 hc2 =>
        rw [he] at hat
        have hat : b2 = b := hat
        subst hat
        rw [seEq_ok h2, hN] at hn2
        have hNN : N2 = N := by omega
        subst hNN
        have hlu := reprL_length0 hl0
        have hMN : M = N2 := Nat.eq_of_mul_eq_mul_right h3 (by simp at hlen; omega)
        subst hMN
        refine .opq ?_
        show Repr (fun k => E.K k ∨ k = b2) _ (E.δ k) _
        rw [hd]
        refine .sl k3 (k4.trans hb) (z := z) (us := us0) (by omega) hc2.1 (fun j u hj => ?_) (hl0.mono (fun _ h => .inl h) fun k hk => k2.le.hp k hk)
        rw [Nat.zero_add, ← Array.getElem?_toList, hx, List.append_assoc, List.getElem?_append_left (List.getElem?_eq_some_iff.1 hj).1]
        exact hj
    all_goals exact plain h
end
mutual
/-- The data that a told cell is. -/
noncomputable def dOf (ρ : Nat → Int) (δ : Nat → D) : AV → D
  | .bool b => .v (.bool b)
  | .int k n => .v (.int k n)
  | .sint k e => .v (.int k (e.val ρ))
  | .str s => .v (.string ⟨s.toArray⟩)
  | .nilptr => .v (.pointer none)
  | .nilmap => .v (.map none)
  | .nilFunc => .v .nilFunc
  | .nilIface => .v .nilIface
  | .nilslice => .sl 0 []
  | .pstr ps => .v (.string ⟨(psVal ρ ps).toArray⟩)
  | .opq k => δ k
  | .psl n l => .sl n (dOfL ρ δ l)
  | _ => .v (.bool false)
noncomputable def dOfL (ρ : Nat → Int) (δ : Nat → D) : List AV → List D
  | [] => []
  | x :: r => dOf ρ δ x :: dOfL ρ δ r
end
mutual
noncomputable def pureD : AV → Bool
  | .bool _ => true
  | .int _ _ => true
  | .sint _ _ => true
  | .str _ => true
  | .nilptr => true
  | .nilmap => true
  | .nilFunc => true
  | .nilIface => true
  | .nilslice => true
  | .pstr _ => true
  | .opq _ => true
  | .psl _ l => pureDL l
  | _ => false
noncomputable def pureDL : List AV → Bool
  | [] => true
  | x :: r => pureD x && pureDL r
end
mutual
theorem rel_dOf {E : Env} : ∀ {a : AV} {v : Value}, pureD a = true → Rel E a v → Repr E.K E.hp (dOf E.ρ E.δ a) v
  | _, _, _, .bool _ => .v rfl
  | _, _, _, .int _ _ => .v rfl
  | _, _, _, .sint _ _ => .v rfl
  | _, _, _, .str _ => .v rfl
  | _, _, _, .nilptr => .v rfl
  | _, _, _, .nilmap => .v rfl
  | _, _, _, .nilFunc => .v rfl
  | _, _, _, .nilIface => .v rfl
  | _, _, _, .nilslice => .nil
  | _, _, _, .pstr _ => .v rfl
  | _, _, _, .opq h => h
  | _, _, _, .psl0 => .nil
  | _, _, hp, .psl hb h1 h2 h3 h4 h5 => .sl hb h1 h2 h3 h4 (rel_dOfL (by rw [pureD] at hp; exact hp) h5)
  | _, _, hp, .ptr _ => absurd hp (by simp [pureD])
  | _, _, hp, .slice _ _ => absurd hp (by simp [pureD])
  | _, _, hp, .eslice => absurd hp (by simp [pureD])
  | _, _, hp, .map _ => absurd hp (by simp [pureD])
  | _, _, hp, .func _ _ => absurd hp (by simp [pureD])
  | _, _, hp, .yield _ => absurd hp (by simp [pureD])
  | _, _, hp, .iface _ => absurd hp (by simp [pureD])
  | _, _, hp, .agg _ => absurd hp (by simp [pureD])
  | _, _, hp, .tuple _ => absurd hp (by simp [pureD])
  | _, _, hp, .plen _ => absurd hp (by simp [pureD])
  | _, _, hp, .bslice _ _ => absurd hp (by simp [pureD])
  | _, _, hp, .fslice _ => absurd hp (by simp [pureD])
  | _, _, hp, .aptr _ => absurd hp (by simp [pureD])
  | _, _, hp, .aslice _ _ => absurd hp (by simp [pureD])
  | _, _, hp, .oslice _ => absurd hp (by simp [pureD])
  | _, _, hp, .any => absurd hp (by simp [pureD])
  | _, _, hp, .pslice _ _ _ _ => absurd hp (by simp [pureD])
  | _, _, hp, .pslice0 _ => absurd hp (by simp [pureD])
  | _, _, hp, .rsl _ _ _ => absurd hp (by simp [pureD])
  | _, _, hp, .optr _ => absurd hp (by simp [pureD])
theorem rel_dOfL {E : Env} : ∀ {l : List AV} {vs : List Value}, pureDL l = true → RelL E l vs → ReprL E.K E.hp (dOfL E.ρ E.δ l) vs
  | _, _, _, .nil => .nil
  | _, _, hp, .cons h t => .cons (rel_dOf (by rw [pureDL, Bool.and_eq_true] at hp; exact hp.1) h) (rel_dOfL (by rw [pureDL, Bool.and_eq_true] at hp; exact hp.2) t)
end
theorem dOfL_len {ρ : Nat → Int} {δ : Nat → D} : ∀ l : List AV, (dOfL ρ δ l).length = l.length
  | [] => rfl
  | x :: r => by simp [dOfL, dOfL_len r]
/-- New data: as a told cell says; a slice with more behind it; any, that the template doesn't name. -/
inductive DT where
  | av (a : AV)
  | ext (k m : Nat) (vs : List AV)
  | is (d : D)
noncomputable def dtV (ρ : Nat → Int) (δ : Nat → D) : DT → D
  | .av a => dOf ρ δ a
  | .ext k m vs => match δ k with
    | .sl n l => .sl (n + m) (l ++ dOfL ρ δ vs)
    | d => d
  | .is d => d
noncomputable def lookDT (k : Nat) : List (Nat × DT) → Option DT
  | [] => none
  | p :: r => bi (Nat.beq p.1 k) (some p.2) (lookDT k r)
end Ev
end Go.Proofs.YtnjpdipombnigaaGreatDoor
