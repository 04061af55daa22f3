/-
  The evaluator: code, whole.
-/
import Derived.Test.YtbjllaknnpbkkaaGreatDoorSz23
namespace Go.Proofs.YtbjllaknnpbkkaaGreatDoor
namespace Ev
open Go.RowKit

section
variable {P : Program} {r : Rec} {n nt : Nat} {ro : Option Nat} {fr fr' : Fr} {s s' : St} {e : AX}

theorem evRange_ok (hr : RecOk P n r) {g : Operand} {ps : Array Tmp} {assign body : Code} (h : evRange g ps.toList assign body r nt ro fr s = some [(e, fr', s')]) :
    Step s s' ∧ ∀ {G : Nat → Prop} {B : Nat} {E : Env} {w : World} {ac : Act} {rb : Option Nat}, (∀ j, In s'.l j → G j) → Sat G B E s w → FRel E nt fr ac → RoRel E ro rb → ∀ {Q : Exit → Act → World → Prop},
      (∀ E' ac' w', FRel E' nt fr' ac' → Sat G B E' s' w' → Ext B s'.w E E' w w' → Q e.out ac' w') → (Code.rangeFunc g ps assign body).wpIn (fen rb) 0 P Q ac w := by
  obtain ⟨gv, hgv, h1⟩ := oc_some h
  obtain ⟨f, p, q, rfl, h2⟩ := funC_some h1
  clear h h1
  have hres : ∀ {E : Env} {ac : Act} {w₁ : World} {b : Nat} {p' q' : Array Value}, ac.eval g = .func (.func f) p' q' → (resolve ac.eval (rangeCall g b) 0).run P w₁ = .ok { target := .fn (.func f) q', args := p' ++ #[.func (.yield b) #[] #[]] } w₁ := by
    intro E ac w₁ b p' q' hev
    simp [resolve, rangeCall, hev, Deferred.ofValue, show ac.eval (.const (.func (.yield b) #[] #[])) = .func (.yield b) #[] #[] from rfl]
  cases ro with
  | none =>
    obtain ⟨q1, rfl, q2⟩ := rangeGo_ok hr h2
    refine ⟨((Step.new _ _).trans (Step.new _ _)).trans q1, fun {G B E w ac rb} hG hs hf hro {Q} hQ => ?_⟩
    cases hro
    have hgr := opd_ok hs.glob hf.1 hgv
    generalize hev : ac.eval g = gval at hgr
    cases hgr
    rename_i p' q' hp hq
    have hGc : G s.c := hG _ (q1.l _ ((Step.new _ _).l _ (in_new _ _)))
    have hGl : G (Nat.succ s.c) := hG _ (q1.l _ (in_new (s.new _) _))
    obtain ⟨k1, x1⟩ := hs.new (o := .defd true) (ob := .deferred (some [])) (C := 0) hGc rfl rfl
    refine wpIn_rangeFunc fun fn _ => ?_
    have hle1 := x1.le
    have hd1 : (E.set s.c (.live w.heap.size 0)) s.c = .live w.heap.size 0 := Env.set_same _ _ _
    have hsz : (w.alloc (.deferred (some []))).heap.size = w.heap.size + 1 := by simp
    have hfresh2 := k1.fresh (Nat.succ s.c) (Nat.le_refl _) hGl
    have hle2 : (E.set s.c (.live w.heap.size 0)).le ((E.set s.c (.live w.heap.size 0)).set (Nat.succ s.c) (.live (w.heap.size + 1) 0)) := Env.set_le _ _ _ (by rw [hfresh2]; trivial)
    obtain ⟨k2, x2⟩ := k1.new (o := .loop .ready none nt fr.a ps.toList assign body s.c) (ob := .loop { state := .ready, pending := none, fn, tmps := ac.tmps, params := ps, assign, body, defers := w.heap.size }) (C := 0) hGl rfl (by
      rw [hsz]
      refine ⟨_, rfl, rfl, rfl, rfl, rfl, rfl, (hf.1.mono hle1).mono hle2, ?_⟩
      exact Slot.at_le (hle2 s.c) (by rw [hd1]; rfl))
    rw [hsz] at k2 x2
    obtain ⟨hent, hcalls⟩ := q2 (rb := none) hG k2 (Env.set_same _ _ _) ((hp.mono hle1).mono hle2) ((hq.mono hle1).mono hle2)
    refine ⟨w.heap.size + 1, [{ target := .collected w.heap.size, args := #[] }], _, _, _, f, p' ++ #[.func (.yield (w.heap.size + 1)) #[] #[]] ++ q', (w.alloc (.deferred (some []))).alloc (.loop { state := .ready, pending := none, fn, tmps := ac.tmps, params := ps, assign, body, defers := w.heap.size }), run_enterLoop_outer fn ac.tmps ps assign body, hres (E := E) hev, ?_, ?_, ?_, ?_⟩
    · exact fun _ _ => trivial
    · simp only [invoke]; exact hent
    · intro h; simp [fen, Fence.wide] at h
    · refine hcalls (Q := Q) (ac' := { tmps := ac.tmps, defers := [{ target := .collected w.heap.size, args := #[] }] ++ ac.defers }) fun E' w' hs' hx' => ?_
      have hx : Ext B s'.w E E' w w' := (x1.trans x2 (Step.new _ _).w).trans hx' q1.w
      refine hQ E' _ w' ⟨hf.1.mono hx.le, ?_⟩ hs' hx
      exact RelM.cons (Slot.at_le (hx'.le s.c) (Slot.at_le (hle2 s.c) (by rw [hd1]; rfl))) (hf.2.mono hx.le)
  | some l0 =>
    obtain ⟨o, ho, h3⟩ := oc_some h2
    obtain ⟨st, pend, ntl, a0, ps0, as0, bo0, d, rfl, h4⟩ := loopC_some h3
    clear h2 h3
    obtain ⟨q1, rfl, q2⟩ := rangeGo_ok hr h4
    refine ⟨((Step.see _ _).trans (Step.new _ _)).trans q1, fun {G B E w ac rb} hG hs hf hro {Q} hQ => ?_⟩
    obtain ⟨b0, rfl, hb0⟩ := hro
    have hgr := opd_ok hs.glob hf.1 hgv
    generalize hev : ac.eval g = gval at hgr
    cases hgr
    rename_i p' q' hp hq
    have hGl : G s.c := hG _ (q1.l _ (in_new (s.see l0) _))
    have hG0 : G l0 := hG _ (q1.l _ ((Step.new _ _).l _ (in_see _ _)))
    obtain ⟨C0, rl, he0, hh0, hst0, hpd0, hps0, has0, hbo0, htm0, hde0⟩ := hs.loop hG0 ho hb0
    refine wpIn_rangeFunc fun fn _ => ?_
    have hfresh2 := hs.fresh s.c (Nat.le_refl _) hGl
    have hle2 : E.le (E.set s.c (.live w.heap.size 0)) := Env.set_le _ _ _ (by rw [hfresh2]; trivial)
    obtain ⟨k2, x2⟩ := (hs.seen l0).new (o := .loop .ready none nt fr.a ps.toList assign body d) (ob := .loop { state := .ready, pending := none, fn, tmps := ac.tmps, params := ps, assign, body, defers := rl.defers }) (C := 0) hGl rfl
      ⟨_, rfl, rfl, rfl, rfl, rfl, rfl, hf.1.mono hle2, Slot.at_le (hle2 d) hde0⟩
    obtain ⟨hent, hcalls⟩ := q2 (rb := some b0) hG k2 (Env.set_same _ _ _) (hp.mono hle2) (hq.mono hle2)
    refine ⟨w.heap.size, [], _, _, _, f, p' ++ #[.func (.yield w.heap.size) #[] #[]] ++ q', w.alloc (.loop { state := .ready, pending := none, fn, tmps := ac.tmps, params := ps, assign, body, defers := rl.defers }), run_enterLoop_inner hh0 fn ac.tmps ps assign body, hres (E := E) hev, ?_, ?_, ?_, ?_⟩
    · exact fun _ _ => trivial
    · simp only [invoke]; exact hent
    · intro h; simp [fen, Fence.wide] at h
    · refine hcalls (Q := Q) (ac' := { tmps := ac.tmps, defers := [] ++ ac.defers }) fun E' w' hs' hx' => ?_
      have hx : Ext B s'.w E E' w w' := x2.trans hx' q1.w
      exact hQ E' _ w' ⟨hf.1.mono hx.le, hf.2.mono hx.le⟩ hs' hx

theorem evRange_one {g : Operand} {ps : Array Tmp} {assign body : Code} {L : List Alt} (h : evRange g ps.toList assign body r nt ro fr s = some L) : ∃ e fr' s', L = [(e, fr', s')] := by
  obtain ⟨gv, hgv, h1⟩ := oc_some h
  obtain ⟨f, p, q, rfl, h2⟩ := funC_some h1
  cases ro with
  | none => exact rangeGo_one h2
  | some l0 =>
    obtain ⟨o, ho, h3⟩ := oc_some h2
    obtain ⟨st, pend, ntl, a0, ps0, as0, bo0, d, rfl, h4⟩ := loopC_some h3
    exact rangeGo_one h4
theorem thn_some {e : AX} {fr : Fr} {s : St} {k : Fr → St → C} {L : List Alt} (h : e.thn fr s k = some L) : (e = .normal ∧ k fr s = some L) ∨ (e ≠ .normal ∧ L = [(e, fr, s)]) := by
  cases e with
  | normal => left; refine ⟨rfl, ?_⟩; rw [← St.force_eq s (k fr)]; exact h
  | exit id => right; refine ⟨by simp, ?_⟩; have h' : some [(AX.exit id, fr, s)] = some L := h; cases h'; rfl
  | ret => right; refine ⟨by simp, ?_⟩; have h' : some [(AX.ret, fr, s)] = some L := h; cases h'; rfl
theorem then_out {e : AX} (he : e ≠ .normal) {next : Act → World → Prop} {Q : Exit → Act → World → Prop} {a : Act} {w : World} (h : Q e.out a w) : Exit.then next Q e.out a w := by
  cases e with
  | normal => exact absurd rfl he
  | exit id => exact h
  | ret => exact h

theorem nextOf_some {ops : List Oper} {x : Operand} {d : Tmp} {l : List Oper} (h : nextOf ops = some (x, d, l)) : ∃ o, ops = o :: l ∧ o.op = .next x false ∧ o.guard = none ∧ o.dst = some d := by
  unfold nextOf at h
  split at h
  · rename_i o l'
    split at h
    · rename_i h1 h2 h3; cases h; exact ⟨o, rfl, h1, h2, h3⟩
    · cases h
  · cases h
theorem altsGo_some {k : AV → St → Option (T AV × St)} {m : List Nat} : ∀ {A : List (AV × St)} {L : List Alt}, altsGo k m A = some L → (∀ p ∈ A, ∃ a s', k p.1 p.2 = some (a, s') ∧ (AX.normal, (⟨a, m⟩ : Fr), s') ∈ L) ∧ ∀ b ∈ L, ∃ p ∈ A, ∃ a s', k p.1 p.2 = some (a, s') ∧ b = (.normal, ⟨a, m⟩, s')
  | [], L, h => by cases h; exact ⟨fun a h => (by cases h), fun a h => (by cases h)⟩
  | p :: A, L, h => by
    obtain ⟨a, s, h1, h2⟩ := oc2_some (show oc2 (k p.1 p.2) (fun a s => oc (altsGo k m A) fun y => some ((AX.normal, (⟨a, m⟩ : Fr), s) :: y)) = some L from h)
    obtain ⟨y, h3, h4⟩ := oc_some h2
    cases h4
    obtain ⟨q1, q2⟩ := altsGo_some h3
    refine ⟨fun u hu => ?_, fun b hb => ?_⟩
    · rcases List.mem_cons.1 hu with rfl | hu
      · exact ⟨a, s, h1, List.mem_cons_self ..⟩
      · obtain ⟨a', s', r1, r2⟩ := q1 u hu
        exact ⟨a', s', r1, List.mem_cons_of_mem _ r2⟩
    · rcases List.mem_cons.1 hb with rfl | hb
      · exact ⟨p, List.mem_cons_self .., a, s, h1, rfl⟩
      · obtain ⟨u, r1, r2⟩ := q2 b hb
        exact ⟨u, List.mem_cons_of_mem _ r1, r2⟩
/-- A region that begins with a map's next entry, of many. -/
theorem nextRegion_ok (hr : RecOk P n r) {ops : Array Oper} {id : Nat} {o : Oper} {x : Operand} {d : Tmp} {l : List Oper} (hops : ops.toList = o :: l) (hop : o.op = .next x false) (hgd : o.guard = none) (hdst : o.dst = some d) (hd : d < nt) {A : List (AV × St)} (hA : altsAt fr.a x s = some A) {L : List Alt}
    (h : altsGo (fun v s => evOps P r nt ops.toList l (fr.a.put d (some v)) s) fr.m A = some L) :
    L ≠ [] ∧ (∀ a ∈ L, Step s a.2.2) ∧ ∀ {G : Nat → Prop} {B : Nat} {E : Env} {w : World} {ac : Act} {rb : Option Nat}, (∀ a ∈ L, ∀ j, In a.2.2.l j → G j) → Sat G B E s w → FRel E nt fr ac → RoRel E ro rb → ∀ {Q : Exit → Act → World → Prop},
      (∀ a ∈ L, ∀ E' ac' w', FRel E' nt a.2.1 ac' → Sat G B E' a.2.2 w' → Ext B a.2.2.w E E' w w' → Q a.1.out ac' w') → (Code.region id ops false).wpIn (fen rb) 0 P Q ac w := by
  obtain ⟨v, hv, h1⟩ := oc_some hA
  obtain ⟨rr, off, rfl, h2⟩ := ptrC_some h1
  obtain ⟨hoff, hnx⟩ := bc_some h2
  have hoff' : off = 0 := by simpa using hoff
  subst hoff'
  obtain ⟨p1, p2⟩ := nextAlts_ok (P := P) hnx
  obtain ⟨q1, q2⟩ := altsGo_some h
  have hdrop : ops.toList.drop 1 = l := by rw [hops]; rfl
  have hi : ops[0]? = some o := by rw [← Array.getElem?_toList, hops]; rfl
  have step1 : ∀ p ∈ A, ∀ a s', evOps P r nt ops.toList l (fr.a.put d (some p.1)) p.2 = some (a, s') → Step p.2 s' := fun p hp a s' he => (evOps_ok hr.call hr.yld l 1 hdrop he).1
  refine ⟨?_, fun b hb => ?_, fun {G B E w ac rb} hG hs hf hro {Q} hQ => wpIn_region ?_⟩
  · obtain ⟨p, hp⟩ := List.exists_mem_of_ne_nil _ (nextAlts_ne hnx)
    obtain ⟨a, s', _, hm⟩ := q1 p hp
    exact List.ne_nil_of_mem hm
  · obtain ⟨p, hp, a, s', he, rfl⟩ := q2 b hb
    exact (p1 p hp).trans (step1 p hp a s' he)
  · have hGA : ∀ p ∈ A, ∀ j, In p.2.l j → G j := fun p hp j hj => by
      obtain ⟨a, s', he, hm⟩ := q1 p hp
      exact hG _ hm j ((step1 p hp a s' he).l j hj)
    have hxr := opd_ok hs.glob hf.1 hv
    generalize hev : ac.eval x = xv at hxr
    cases hxr
    rename_i b hb
    obtain ⟨p, hp, hok⟩ := p2 (b := b) o.type hGA hs hb
    obtain ⟨a, s', he, hm⟩ := q1 p hp
    obtain ⟨t1, t2⟩ := evOps_ok hr.call hr.yld l 1 hdrop he
    have hlen : List.range ops.size = 0 :: List.range' 1 l.length := by
      have : ops.size = l.length + 1 := by rw [← Array.length_toList, hops]; rfl
      rw [this, List.range_eq_range']; rfl
    rw [hlen, wpOpsIn_cons]
    refine wpOpIn_wanted hi (by simp [Region.wanted, hgd]) ?_
    have hsem : o.semAt rb ac.eval = (do pure (.value (← Instr.next (.pointer (some ⟨b, 0, none⟩)) false o.type))) := by
      rw [← hev]
      obtain ⟨op, dst, ty, af, gd, pos⟩ := o
      cases hop
      cases rb <;> rfl
    refine wpIn_value (v := p.1) (s' := p.2) hsem hok fun E1 v' w1 hv1 hs1 hx1 => ?_
    have ht : TRel E1 nt (fr.a.put d (some p.1)) (ac.put o.dst v').tmps := by
      have := (hf.1.mono hx1.le).put (d := some d) (fun t ht => by cases ht; exact hd) hv1
      rw [hdst]; exact this
    refine t2 (fun j hj => hG _ hm j hj) hs1 ht fun E2 ac2 w2 ht2 hd2 hs2 hx2 => ?_
    have hx := hx1.trans hx2 t1.w
    exact hQ _ hm E2 ac2 w2 ⟨ht2, by rw [hd2, act_put_defers]; exact hf.2.mono hx.le⟩ hs2 hx
theorem evCode_ok (hmix : P.follows .mixedOrders = true) (hr : RecOk P n r) {c : Code} {L : List Alt} (h : evCode P r nt ro c fr s = some L) : CodeOk1 P (n + 1) nt ro c fr s L := by
  have plain : (∀ x, c ≠ .loop x) → (L ≠ [] ∧ (∀ a ∈ L, Step s a.2.2) ∧ ∀ {G : Nat → Prop} {B : Nat} {E : Env} {w : World} {ac : Act} {rb : Option Nat}, (∀ a ∈ L, ∀ j, In a.2.2.l j → G j) → Sat G B E s w → FRel E nt fr ac → RoRel E ro rb → ∀ {Q : Exit → Act → World → Prop},
      (∀ a ∈ L, ∀ E' ac' w', FRel E' nt a.2.1 ac' → Sat G B E' a.2.2 w' → Ext B a.2.2.w E E' w w' → Q a.1.out ac' w') → c.wpIn (fen rb) 0 P Q ac w) → CodeOk1 P (n + 1) nt ro c fr s L := by
    intro hne ⟨h0, h1, h2⟩
    exact ⟨h0, h1, fun {G B E w ac rb} hG hs hf hro {Q} hQ => ⟨h2 hG hs hf hro hQ, fun x hx => absurd hx (hne x)⟩⟩
  have lone : ∀ {e : AX} {fr' : Fr} {s' : St}, L = [(e, fr', s')] → (∀ x, c ≠ .loop x) → (Step s s' ∧ ∀ {G : Nat → Prop} {B : Nat} {E : Env} {w : World} {ac : Act} {rb : Option Nat}, (∀ j, In s'.l j → G j) → Sat G B E s w → FRel E nt fr ac → RoRel E ro rb → ∀ {Q : Exit → Act → World → Prop},
      (∀ E' ac' w', FRel E' nt fr' ac' → Sat G B E' s' w' → Ext B s'.w E E' w w' → Q e.out ac' w') → c.wpIn (fen rb) 0 P Q ac w) → CodeOk1 P (n + 1) nt ro c fr s L := by
    intro e fr' s' hL hne ⟨h1, h2⟩
    subst hL
    refine plain hne ⟨by simp, fun a ha => ?_, fun {G B E w ac rb} hG hs hf hro {Q} hQ => h2 (hG _ (List.mem_singleton.2 rfl)) hs hf hro (hQ _ (List.mem_singleton.2 rfl))⟩
    rw [List.mem_singleton] at ha; subst ha; exact h1
  have ofOne : ∀ {e : AX} {fr' : Fr} {s' : St}, one e fr' s' = some L → L = [(e, fr', s')] := fun h => by
    have h' := Option.some.inj (show some [_] = some L from h); exact h'.symm
  cases c
  case skip =>
    exact lone (ofOne h) (fun x hx => by cases hx) ⟨Step.refl _, fun {G B E w ac rb} hG hs hf hro {Q} hQ => wpIn_skip (hQ _ _ _ hf hs (Ext.refl _ _ _ _))⟩
  case label l =>
    exact lone (ofOne h) (fun x hx => by cases hx) ⟨Step.refl _, fun {G B E w ac rb} hG hs hf hro {Q} hQ => wpIn_label (hQ _ _ _ hf hs (Ext.refl _ _ _ _))⟩
  case region id ops draw =>
    cases draw with
    | false =>
      have hold : oc2 (evOps P r nt ops.toList ops.toList fr.a s) (fun a s => one AX.normal (⟨a, fr.m⟩ : Fr) s) = some L → CodeOk1 P (n + 1) nt ro (.region id ops false) fr s L := by
        intro h
        obtain ⟨a', s1, h1, h2⟩ := oc2_some h
        refine lone (ofOne h2) (fun x hx => by cases hx) ?_
        obtain ⟨q1, q2⟩ := evOps_ok hr.call hr.yld ops.toList 0 rfl h1
        refine ⟨q1, fun {G B E w ac rb} hG hs hf hro {Q} hQ => wpIn_region ?_⟩
        have := q2 (ro := rb) hG hs hf.1 (Q := Q) fun E' ac' w' ht hd hs' hx => hQ E' ac' w' ⟨ht, hd ▸ hf.2.mono hx.le⟩ hs' hx
        rw [List.range_eq_range']
        simpa using this
      have h' : (regS P nt ops (nextOf ops.toList)).run r ro fr s = some L := h
      cases hnx : nextOf ops.toList with
      | none => rw [hnx] at h'; exact hold h'
      | some y =>
        obtain ⟨x, d, l⟩ := y
        rw [hnx] at h'
        obtain ⟨o, hops, hop, hgd, hdst⟩ := nextOf_some hnx
        have h2 : (bi (Nat.blt d nt) (⟨fun r _ fr s => orC (altsAt fr.a x s) (altsGo (fun v s => evOps P r nt ops.toList l (fr.a.put d (some v)) s) fr.m) (oc2 (evOps P r nt ops.toList ops.toList fr.a s) fun a s => one .normal ⟨a, fr.m⟩ s)⟩ : Cf) ⟨fun _ _ _ _ => none⟩).run r ro fr s = some L := h'
        cases hdn : Nat.blt d nt with
        | false => rw [hdn] at h2; cases h2
        | true =>
          rw [hdn, bi_true] at h2
          have h3 : orC (altsAt fr.a x s) (altsGo (fun v s => evOps P r nt ops.toList l (fr.a.put d (some v)) s) fr.m) (oc2 (evOps P r nt ops.toList ops.toList fr.a s) fun a s => one .normal ⟨a, fr.m⟩ s) = some L := h2
          cases hA : altsAt fr.a x s with
          | none => rw [hA] at h3; exact hold h3
          | some A =>
            rw [hA] at h3
            exact plain (fun x hx => by cases hx) (nextRegion_ok hr hops hop hgd hdst (by simpa using hdn) hA h3)
    | true =>
      cases hst : staticOk ops with
      | false =>
        have h' : (bi (staticOk ops) _ _ : Cf).run r ro fr s = some L := h
        rw [hst] at h'; cases h'
      | true =>
        have h' : (bi (staticOk ops) (⟨fun r _ fr s => oc2 (evDrawn P r nt ops.toList ops.toList (nat_lit 0) fr.a s) fun a x => bc (logsOk (ancs ops.toList []) x.2) (one .normal ⟨a, fr.m⟩ x.1)⟩ : Cf) ⟨fun _ _ _ _ => none⟩).run r ro fr s = some L := h
        rw [hst, bi_true] at h'
        obtain ⟨a', x, h1, h2⟩ := oc2_some (show oc2 (evDrawn P r nt ops.toList ops.toList (nat_lit 0) fr.a s) (fun a x => bc (logsOk (ancs ops.toList []) x.2) (one AX.normal (⟨a, fr.m⟩ : Fr) x.1)) = some L from h')
        obtain ⟨s1, ls⟩ := x
        obtain ⟨hl, h3⟩ := bc_some h2
        refine lone (ofOne h3) (fun x hx => by cases hx) ?_
        obtain ⟨q1, q2⟩ := evDraw_ok hr.call hr.yld hmix hst h1 hl
        exact ⟨q1, fun {G B E w ac rb} hG hs hf hro {Q} hQ => q2 hG hs hf.1 fun E' ac' w' ht hd hs' hx => hQ E' ac' w' ⟨ht, hd ▸ hf.2.mono hx.le⟩ hs' hx⟩
  case seq x y =>
    obtain ⟨l, hl, hfl⟩ := cc_some (show cc (r.code nt ro x fr s) (fun e fr s => e.thn fr s (r.code nt ro y)) = some L from h)
    obtain ⟨pne, p1, p2⟩ := hr.code hl
    obtain ⟨f1, f2⟩ := flatC_some hfl
    have back : ∀ a ∈ l, ∃ b ∈ L, Step a.2.2 b.2.2 := fun a ha => by
      obtain ⟨La, h1, h2⟩ := f1 a ha
      rcases thn_some h1 with ⟨_, h3⟩ | ⟨_, h3⟩
      · obtain ⟨qne, q1, _⟩ := hr.code h3
        obtain ⟨b, hb⟩ := List.exists_mem_of_ne_nil _ qne
        exact ⟨b, h2 b hb, q1 b hb⟩
      · subst h3; exact ⟨a, h2 a (List.mem_singleton.2 rfl), Step.refl _⟩
    refine plain (fun x hx => by cases hx) ⟨?_, fun b hb => ?_, fun {G B E w ac rb} hG hs hf hro {Q} hQ => wpIn_seq ?_⟩
    · obtain ⟨a, ha⟩ := List.exists_mem_of_ne_nil _ pne
      obtain ⟨b, hb, _⟩ := back a ha
      exact List.ne_nil_of_mem hb
    · obtain ⟨a, ha, La, h1, h2⟩ := f2 b hb
      refine (p1 a ha).trans ?_
      rcases thn_some h1 with ⟨_, h3⟩ | ⟨_, h3⟩
      · exact (hr.code h3).2.1 b h2
      · subst h3; rw [List.mem_singleton] at h2; subst h2; exact Step.refl _
    · refine (p2 (fun a ha j hj => by obtain ⟨b, hb, hst⟩ := back a ha; exact hG b hb j (hst.l j hj)) hs hf hro fun a ha E1 ac1 w1 hf1 hs1 hx1 => ?_).1
      obtain ⟨La, h1, h2⟩ := f1 a ha
      rcases thn_some h1 with ⟨hn, h3⟩ | ⟨hn, h3⟩
      · rw [hn]
        obtain ⟨qne, q1, q2⟩ := hr.code h3
        exact (q2 (fun b hb => hG b (h2 b hb)) hs1 hf1 (hro.mono hx1.le) fun b hb E2 ac2 w2 hf2 hs2 hx2 => hQ b (h2 b hb) E2 ac2 w2 hf2 hs2 (hx1.trans hx2 (q1 b hb).w)).1
      · subst h3
        exact then_out hn (hQ a (h2 a (List.mem_singleton.2 rfl)) E1 ac1 w1 hf1 hs1 hx1)
  case cond x y z =>
    obtain ⟨b, hb, h1⟩ := oc_some (show oc (opd fr.a x) (fun b => b.boolC (r.code nt ro y fr s) (r.code nt ro z fr s)) = some L from h)
    refine plain (fun x hx => by cases hx) ?_
    unfold AV.boolC at h1
    split at h1
    · obtain ⟨qne, q1, q2⟩ := hr.code h1
      refine ⟨qne, q1, fun {G B E w ac rb} hG hs hf hro {Q} hQ => ?_⟩
      have hx := opd_ok hs.glob hf.1 hb
      exact wpIn_cond_true (by generalize ac.eval x = xv at hx ⊢; cases hx; rfl) (q2 hG hs hf hro hQ).1
    · obtain ⟨qne, q1, q2⟩ := hr.code h1
      refine ⟨qne, q1, fun {G B E w ac rb} hG hs hf hro {Q} hQ => ?_⟩
      have hx := opd_ok hs.glob hf.1 hb
      exact wpIn_cond_false (by generalize ac.eval x = xv at hx ⊢; cases hx; rfl) (q2 hG hs hf hro hQ).1
    · cases h1
  case block id x =>
    obtain ⟨l, hl, hfl⟩ := cc_some (show cc (r.code nt ro x fr s) (fun e fr s => one (e.blk id) fr s) = some L from h)
    obtain ⟨pne, p1, p2⟩ := hr.code hl
    obtain ⟨f1, f2⟩ := flatC_some hfl
    have to : ∀ a ∈ l, (a.1.blk id, a.2.1, a.2.2) ∈ L := fun a ha => by
      obtain ⟨La, h1, h2⟩ := f1 a ha
      have h3 := Option.some.inj (show some [(a.1.blk id, a.2.1, a.2.2)] = some La from h1)
      exact h2 _ (by rw [← h3]; exact List.mem_singleton.2 rfl)
    refine plain (fun x hx => by cases hx) ⟨?_, fun b hb => ?_, fun {G B E w ac rb} hG hs hf hro {Q} hQ => wpIn_block (p2 (fun a ha j hj => hG (a.1.blk id, a.2.1, a.2.2) (to a ha) j hj) hs hf hro fun a ha E1 ac1 w1 hf1 hs1 hx1 => ?_).1⟩
    · obtain ⟨a, ha⟩ := List.exists_mem_of_ne_nil _ pne
      exact List.ne_nil_of_mem (to a ha)
    · obtain ⟨a, ha, La, h1, h2⟩ := f2 b hb
      have h3 := Option.some.inj (show some [(a.1.blk id, a.2.1, a.2.2)] = some La from h1)
      rw [← h3, List.mem_singleton] at h2; subst h2; exact p1 a ha
    · have hq := hQ _ (to a ha) E1 ac1 w1 hf1 hs1 hx1
      obtain ⟨e1, fr1, s1⟩ := a
      cases e1 with
      | normal => exact hq
      | ret => exact hq
      | exit j =>
        simp only [AX.blk, beq_bi] at hq
        by_cases hj : j = id
        · subst hj; simpa [AX.out, Exit.inBlock] using hq
        · simpa [AX.out, Exit.inBlock, hj] using hq
  case loop x =>
    obtain ⟨l, hl, hfl⟩ := cc_some (show cc (r.code nt ro x fr s) (fun e fr s => e.thn fr s (r.code nt ro (.loop x))) = some L from h)
    obtain ⟨pne, p1, p2⟩ := hr.code hl
    obtain ⟨f1, f2⟩ := flatC_some hfl
    have back : ∀ a ∈ l, ∃ b ∈ L, Step a.2.2 b.2.2 := fun a ha => by
      obtain ⟨La, h1, h2⟩ := f1 a ha
      rcases thn_some h1 with ⟨_, h3⟩ | ⟨_, h3⟩
      · obtain ⟨qne, q1, _⟩ := hr.code h3
        obtain ⟨b, hb⟩ := List.exists_mem_of_ne_nil _ qne
        exact ⟨b, h2 b hb, q1 b hb⟩
      · subst h3; exact ⟨a, h2 a (List.mem_singleton.2 rfl), Step.refl _⟩
    have fin : ∀ {G : Nat → Prop} {B : Nat} {E : Env} {w : World} {ac : Act} {rb : Option Nat}, (∀ a ∈ L, ∀ j, In a.2.2.l j → G j) → Sat G B E s w → FRel E nt fr ac → RoRel E ro rb → ∀ {Q : Exit → Act → World → Prop},
        (∀ a ∈ L, ∀ E' ac' w', FRel E' nt a.2.1 ac' → Sat G B E' a.2.2 w' → Ext B a.2.2.w E E' w w' → Q a.1.out ac' w') → Code.roundsIn (fen rb) 0 P x Q (n + 1) ac w := by
      intro G B E w ac rb hG hs hf hro Q hQ
      rw [roundsIn_succ]
      refine (p2 (fun a ha j hj => by obtain ⟨b, hb, hst⟩ := back a ha; exact hG b hb j (hst.l j hj)) hs hf hro fun a ha E1 ac1 w1 hf1 hs1 hx1 => ?_).1
      obtain ⟨La, h1, h2⟩ := f1 a ha
      rcases thn_some h1 with ⟨hn, h3⟩ | ⟨hn, h3⟩
      · rw [hn]
        obtain ⟨qne, q1, q2⟩ := hr.code h3
        exact (q2 (fun b hb => hG b (h2 b hb)) hs1 hf1 (hro.mono hx1.le) fun b hb E2 ac2 w2 hf2 hs2 hx2 => hQ b (h2 b hb) E2 ac2 w2 hf2 hs2 (hx1.trans hx2 (q1 b hb).w)).2 x rfl
      · subst h3
        exact then_out hn (hQ a (h2 a (List.mem_singleton.2 rfl)) E1 ac1 w1 hf1 hs1 hx1)
    refine ⟨?_, fun b hb => ?_, fun {G B E w ac rb} hG hs hf hro {Q} hQ => ?_⟩
    · obtain ⟨a, ha⟩ := List.exists_mem_of_ne_nil _ pne
      obtain ⟨b, hb, _⟩ := back a ha
      exact List.ne_nil_of_mem hb
    · obtain ⟨a, ha, La, h1, h2⟩ := f2 b hb
      refine (p1 a ha).trans ?_
      rcases thn_some h1 with ⟨_, h3⟩ | ⟨_, h3⟩
      · exact (hr.code h3).2.1 b h2
      · subst h3; rw [List.mem_singleton] at h2; subst h2; exact Step.refl _
    · have := fin hG hs hf hro hQ
      exact ⟨wpIn_loop_rounds (n + 1) this, fun y hy => by cases hy; exact this⟩
  case scope x =>
    obtain ⟨pne, p1, p2⟩ := hr.code (show r.code nt ro x fr s = some L from h)
    refine plain (fun x hx => by cases hx) ⟨pne, p1, fun {G B E w ac rb} hG hs hf hro {Q} hQ => wpIn_scope' (p2 hG hs hf hro fun a ha E1 ac1 w1 hf1 hs1 hx1 => ?_).1⟩
    have hq := hQ a ha E1 ac1 w1 hf1 hs1 hx1
    obtain ⟨e, fr1, s1⟩ := a
    cases e <;> exact hq
  case rangeFunc g ps assign body =>
    obtain ⟨e, fr', s', rfl⟩ := evRange_one (show evRange g ps.toList assign body r nt ro fr s = some L from h)
    exact lone rfl (fun x hx => by cases hx) (evRange_ok hr (show evRange g ps.toList assign body r nt ro fr s = some [(e, fr', s')] from h))
  case exit id =>
    exact lone (ofOne h) (fun x hx => by cases hx) ⟨Step.refl _, fun {G B E w ac rb} hG hs hf hro {Q} hQ => wpIn_exit (hQ _ _ _ hf hs (Ext.refl _ _ _ _))⟩
  case ret =>
    exact lone (ofOne h) (fun x hx => by cases hx) ⟨Step.refl _, fun {G B E w ac rb} hG hs hf hro {Q} hQ => wpIn_ret (hQ _ _ _ hf hs (Ext.refl _ _ _ _))⟩
  all_goals (cases h; done)
end
end Ev
end Go.Proofs.YtbjllaknnpbkkaaGreatDoor
