/-
  The evaluator: code, whole.
-/
import Derived.Test.YtpklliedmplpdaaGreatDoorSy23
namespace Go.Proofs.YtpklliedmplpdaaGreatDoor
namespace Ev
open Go.RowKit

section
variable {P : Program} {r : Rec} {n nt : Nat} {ro : Option Nat} {fr fr' : Fr} {s s' : St} {e : AX}

theorem evRange_ok (hr : RecOk P n r) {g : Operand} {ps : Array Tmp} {assign body : Code} (h : evRange g ps.toList assign body r nt ro fr s = some (e, fr', s')) :
    Step s s' ∧ ∀ {G : Nat → Prop} {B : Nat} {E : Env} {w : World} {ac : Act} {rb : Option Nat}, (∀ j, In s'.l j → G j) → Sat G B E s w → FRel E nt fr ac → RoRel E ro rb → ∀ {Q : Exit → Act → World → Prop},
      (∀ E' ac' w', FRel E' nt fr' ac' → Sat G B E' s' w' → Ext B s'.w E E' w w' → Q e.out ac' w') → (Code.rangeFunc g ps assign body).wpIn (fen rb) 0 P Q ac w := by
  obtain ⟨gv, hgv, h1⟩ := oc_some h
  obtain ⟨f, p, q, rfl, h2⟩ := funC_some h1
  clear h h1
  have hres : ∀ {E : Env} {ac : Act} {w₁ : World} {b : Nat} {p' q' : Array Value}, ac.eval g = .func (.func f) p' q' → (resolve ac.eval (rangeCall g b) 0).run P w₁ = .ok { target := .fn (.func f) q', args := p' ++ #[.func (.yield b) #[] #[]] } w₁ := by
    intro E ac w₁ b p' q' hev
    simp [resolve, rangeCall, hev, Deferred.ofValue, show ac.eval (.const (.func (.yield b) #[] #[])) = .func (.yield b) #[] #[] from rfl]
  cases ro with
  | none =>
    obtain ⟨q1, rfl, q2⟩ := rangeGo_ok hr h2
    refine ⟨((Step.new _ _).trans (Step.new _ _)).trans q1, fun {G B E w ac rb} hG hs hf hro {Q} hQ => ?_⟩
    cases hro
    have hgr := opd_ok hs.glob hf.1 hgv
    generalize hev : ac.eval g = gval at hgr
    cases hgr
    rename_i p' q' hp hq
    have hGc : G s.c := hG _ (q1.l _ ((Step.new _ _).l _ (in_new _ _)))
    have hGl : G (Nat.succ s.c) := hG _ (q1.l _ (in_new (s.new _) _))
    obtain ⟨k1, x1⟩ := hs.new (o := .defd true) (ob := .deferred (some [])) (C := 0) hGc rfl rfl
    refine wpIn_rangeFunc fun fn _ => ?_
    have hle1 := x1.le
    have hd1 : (E.set s.c (.live w.heap.size 0)) s.c = .live w.heap.size 0 := Env.set_same _ _ _
    have hsz : (w.alloc (.deferred (some []))).heap.size = w.heap.size + 1 := by simp
    have hfresh2 := k1.fresh (Nat.succ s.c) (Nat.le_refl _) hGl
    have hle2 : (E.set s.c (.live w.heap.size 0)).le ((E.set s.c (.live w.heap.size 0)).set (Nat.succ s.c) (.live (w.heap.size + 1) 0)) := Env.set_le _ _ _ (by rw [hfresh2]; trivial)
    obtain ⟨k2, x2⟩ := k1.new (o := .loop .ready none nt fr.a ps.toList assign body s.c) (ob := .loop { state := .ready, pending := none, fn, tmps := ac.tmps, params := ps, assign, body, defers := w.heap.size }) (C := 0) hGl rfl (by
      rw [hsz]
      refine ⟨_, rfl, rfl, rfl, rfl, rfl, rfl, (hf.1.mono hle1).mono hle2, ?_⟩
      exact Slot.at_le (hle2 s.c) (by rw [hd1]; rfl))
    rw [hsz] at k2 x2
    obtain ⟨hent, hcalls⟩ := q2 (rb := none) hG k2 (Env.set_same _ _ _) ((hp.mono hle1).mono hle2) ((hq.mono hle1).mono hle2)
    refine ⟨w.heap.size + 1, [{ target := .collected w.heap.size, args := #[] }], _, _, _, f, p' ++ #[.func (.yield (w.heap.size + 1)) #[] #[]] ++ q', (w.alloc (.deferred (some []))).alloc (.loop { state := .ready, pending := none, fn, tmps := ac.tmps, params := ps, assign, body, defers := w.heap.size }), run_enterLoop_outer fn ac.tmps ps assign body, hres (E := E) hev, ?_, ?_, ?_, ?_⟩
    · exact fun _ _ => trivial
    · simp only [invoke]; exact hent
    · intro h; simp [fen, Fence.wide] at h
    · refine hcalls (Q := Q) (ac' := { tmps := ac.tmps, defers := [{ target := .collected w.heap.size, args := #[] }] ++ ac.defers }) fun E' w' hs' hx' => ?_
      have hx : Ext B s'.w E E' w w' := (x1.trans x2 (Step.new _ _).w).trans hx' q1.w
      refine hQ E' _ w' ⟨hf.1.mono hx.le, ?_⟩ hs' hx
      exact RelM.cons (Slot.at_le (hx'.le s.c) (Slot.at_le (hle2 s.c) (by rw [hd1]; rfl))) (hf.2.mono hx.le)
  | some l0 =>
    obtain ⟨o, ho, h3⟩ := oc_some h2
    obtain ⟨st, pend, ntl, a0, ps0, as0, bo0, d, rfl, h4⟩ := loopC_some h3
    clear h2 h3
    obtain ⟨q1, rfl, q2⟩ := rangeGo_ok hr h4
    refine ⟨((Step.see _ _).trans (Step.new _ _)).trans q1, fun {G B E w ac rb} hG hs hf hro {Q} hQ => ?_⟩
    obtain ⟨b0, rfl, hb0⟩ := hro
    have hgr := opd_ok hs.glob hf.1 hgv
    generalize hev : ac.eval g = gval at hgr
    cases hgr
    rename_i p' q' hp hq
    have hGl : G s.c := hG _ (q1.l _ (in_new (s.see l0) _))
    have hG0 : G l0 := hG _ (q1.l _ ((Step.new _ _).l _ (in_see _ _)))
    obtain ⟨C0, rl, he0, hh0, hst0, hpd0, hps0, has0, hbo0, htm0, hde0⟩ := hs.loop hG0 ho hb0
    refine wpIn_rangeFunc fun fn _ => ?_
    have hfresh2 := hs.fresh s.c (Nat.le_refl _) hGl
    have hle2 : E.le (E.set s.c (.live w.heap.size 0)) := Env.set_le _ _ _ (by rw [hfresh2]; trivial)
    obtain ⟨k2, x2⟩ := (hs.seen l0).new (o := .loop .ready none nt fr.a ps.toList assign body d) (ob := .loop { state := .ready, pending := none, fn, tmps := ac.tmps, params := ps, assign, body, defers := rl.defers }) (C := 0) hGl rfl
      ⟨_, rfl, rfl, rfl, rfl, rfl, rfl, hf.1.mono hle2, Slot.at_le (hle2 d) hde0⟩
    obtain ⟨hent, hcalls⟩ := q2 (rb := some b0) hG k2 (Env.set_same _ _ _) (hp.mono hle2) (hq.mono hle2)
    refine ⟨w.heap.size, [], _, _, _, f, p' ++ #[.func (.yield w.heap.size) #[] #[]] ++ q', w.alloc (.loop { state := .ready, pending := none, fn, tmps := ac.tmps, params := ps, assign, body, defers := rl.defers }), run_enterLoop_inner hh0 fn ac.tmps ps assign body, hres (E := E) hev, ?_, ?_, ?_, ?_⟩
    · exact fun _ _ => trivial
    · simp only [invoke]; exact hent
    · intro h; simp [fen, Fence.wide] at h
    · refine hcalls (Q := Q) (ac' := { tmps := ac.tmps, defers := [] ++ ac.defers }) fun E' w' hs' hx' => ?_
      have hx : Ext B s'.w E E' w w' := x2.trans hx' q1.w
      exact hQ E' _ w' ⟨hf.1.mono hx.le, hf.2.mono hx.le⟩ hs' hx

theorem thn_some {e : AX} {fr : Fr} {s : St} {k : Fr → St → C} {y : AX × Fr × St} (h : e.thn fr s k = some y) : (e = .normal ∧ k fr s = some y) ∨ (e ≠ .normal ∧ y = (e, fr, s)) := by
  cases e with
  | normal => left; refine ⟨rfl, ?_⟩; rw [← St.force_eq s (k fr)]; exact h
  | exit id => right; cases h; exact ⟨by simp, rfl⟩
  | ret => right; cases h; exact ⟨by simp, rfl⟩
theorem then_out {e : AX} (he : e ≠ .normal) {next : Act → World → Prop} {Q : Exit → Act → World → Prop} {a : Act} {w : World} (h : Q e.out a w) : Exit.then next Q e.out a w := by
  cases e with
  | normal => exact absurd rfl he
  | exit id => exact h
  | ret => exact h

theorem evCode_ok (hmix : P.follows .mixedOrders = true) (hr : RecOk P n r) {c : Code} (h : evCode P r nt ro c fr s = some (e, fr', s')) : CodeOk1 P (n + 1) nt ro c fr s e fr' s' := by
  have plain : (∀ x, c ≠ .loop x) → (Step s s' ∧ ∀ {G : Nat → Prop} {B : Nat} {E : Env} {w : World} {ac : Act} {rb : Option Nat}, (∀ j, In s'.l j → G j) → Sat G B E s w → FRel E nt fr ac → RoRel E ro rb → ∀ {Q : Exit → Act → World → Prop},
      (∀ E' ac' w', FRel E' nt fr' ac' → Sat G B E' s' w' → Ext B s'.w E E' w w' → Q e.out ac' w') → c.wpIn (fen rb) 0 P Q ac w) → CodeOk1 P (n + 1) nt ro c fr s e fr' s' := by
    intro hne ⟨h1, h2⟩
    exact ⟨h1, fun {G B E w ac rb} hG hs hf hro {Q} hQ => ⟨h2 hG hs hf hro hQ, fun x hx => absurd hx (hne x)⟩⟩
  cases c
  case skip =>
    cases h
    exact plain (fun x hx => by cases hx) ⟨Step.refl _, fun {G B E w ac rb} hG hs hf hro {Q} hQ => wpIn_skip (hQ _ _ _ hf hs (Ext.refl _ _ _ _))⟩
  case label l =>
    cases h
    exact plain (fun x hx => by cases hx) ⟨Step.refl _, fun {G B E w ac rb} hG hs hf hro {Q} hQ => wpIn_label (hQ _ _ _ hf hs (Ext.refl _ _ _ _))⟩
  case region id ops draw =>
    refine plain (fun x hx => by cases hx) ?_
    cases draw with
    | false =>
      obtain ⟨a', s1, h1, h2⟩ := oc2_some (show oc2 (evOps P r nt ops.toList ops.toList fr.a s) (fun a s => some (AX.normal, (⟨a, fr.m⟩ : Fr), s)) = some (e, fr', s') from h)
      cases h2
      obtain ⟨q1, q2⟩ := evOps_ok hr.call hr.yld ops.toList 0 rfl h1
      refine ⟨q1, fun {G B E w ac rb} hG hs hf hro {Q} hQ => wpIn_region ?_⟩
      have := q2 (ro := rb) hG hs hf.1 (Q := Q) fun E' ac' w' ht hd hs' hx => hQ E' ac' w' ⟨ht, hd ▸ hf.2.mono hx.le⟩ hs' hx
      rw [List.range_eq_range']
      simpa using this
    | true =>
      cases hst : staticOk ops with
      | false =>
        have h' : (bi (staticOk ops) _ _ : Cf).run r ro fr s = some (e, fr', s') := h
        rw [hst] at h'; cases h'
      | true =>
        have h' : (bi (staticOk ops) (⟨fun r _ fr s => oc2 (evDrawn P r nt ops.toList ops.toList (nat_lit 0) fr.a s) fun a x => bc (logsOk (ancs ops.toList []) x.2) (some (.normal, ⟨a, fr.m⟩, x.1))⟩ : Cf) ⟨fun _ _ _ _ => none⟩).run r ro fr s = some (e, fr', s') := h
        rw [hst, bi_true] at h'
        obtain ⟨a', x, h1, h2⟩ := oc2_some (show oc2 (evDrawn P r nt ops.toList ops.toList (nat_lit 0) fr.a s) (fun a x => bc (logsOk (ancs ops.toList []) x.2) (some (AX.normal, (⟨a, fr.m⟩ : Fr), x.1))) = some (e, fr', s') from h')
        obtain ⟨s1, ls⟩ := x
        obtain ⟨hl, h3⟩ := bc_some h2
        cases h3
        obtain ⟨q1, q2⟩ := evDraw_ok hr.call hr.yld hmix hst h1 hl
        exact ⟨q1, fun {G B E w ac rb} hG hs hf hro {Q} hQ => q2 hG hs hf.1 fun E' ac' w' ht hd hs' hx => hQ E' ac' w' ⟨ht, hd ▸ hf.2.mono hx.le⟩ hs' hx⟩
  case seq x y =>
    obtain ⟨e1, fr1, s1, h1, h2⟩ := cc_some (show cc (r.code nt ro x fr s) (fun e fr s => e.thn fr s (r.code nt ro y)) = some (e, fr', s') from h)
    obtain ⟨p1, p2⟩ := hr.code h1
    refine plain (fun x hx => by cases hx) ?_
    rcases thn_some h2 with ⟨rfl, h3⟩ | ⟨hne, h3⟩
    · obtain ⟨q1, q2⟩ := hr.code h3
      refine ⟨p1.trans q1, fun {G B E w ac rb} hG hs hf hro {Q} hQ => wpIn_seq ?_⟩
      refine (p2 (fun j hj => hG j (q1.l j hj)) hs hf hro fun E1 ac1 w1 hf1 hs1 hx1 => ?_).1
      exact (q2 hG hs1 hf1 (hro.mono hx1.le) fun E2 ac2 w2 hf2 hs2 hx2 => hQ E2 ac2 w2 hf2 hs2 (hx1.trans hx2 q1.w)).1
    · cases h3
      exact ⟨p1, fun {G B E w ac rb} hG hs hf hro {Q} hQ => wpIn_seq (p2 hG hs hf hro fun E1 ac1 w1 hf1 hs1 hx1 => then_out hne (hQ E1 ac1 w1 hf1 hs1 hx1)).1⟩
  case cond x y z =>
    obtain ⟨b, hb, h1⟩ := oc_some (show oc (opd fr.a x) (fun b => b.boolC (r.code nt ro y fr s) (r.code nt ro z fr s)) = some (e, fr', s') from h)
    refine plain (fun x hx => by cases hx) ?_
    unfold AV.boolC at h1
    split at h1
    · obtain ⟨q1, q2⟩ := hr.code h1
      refine ⟨q1, fun {G B E w ac rb} hG hs hf hro {Q} hQ => ?_⟩
      have hx := opd_ok hs.glob hf.1 hb
      exact wpIn_cond_true (by generalize ac.eval x = xv at hx ⊢; cases hx; rfl) (q2 hG hs hf hro hQ).1
    · obtain ⟨q1, q2⟩ := hr.code h1
      refine ⟨q1, fun {G B E w ac rb} hG hs hf hro {Q} hQ => ?_⟩
      have hx := opd_ok hs.glob hf.1 hb
      exact wpIn_cond_false (by generalize ac.eval x = xv at hx ⊢; cases hx; rfl) (q2 hG hs hf hro hQ).1
    · cases h1
  case block id x =>
    obtain ⟨e1, fr1, s1, h1, h2⟩ := cc_some (show cc (r.code nt ro x fr s) (fun e fr s => some (e.blk id, fr, s)) = some (e, fr', s') from h)
    cases h2
    obtain ⟨p1, p2⟩ := hr.code h1
    refine plain (fun x hx => by cases hx) ⟨p1, fun {G B E w ac rb} hG hs hf hro {Q} hQ => wpIn_block (p2 hG hs hf hro fun E1 ac1 w1 hf1 hs1 hx1 => ?_).1⟩
    have hq := hQ E1 ac1 w1 hf1 hs1 hx1
    cases e1 with
    | normal => exact hq
    | ret => exact hq
    | exit j =>
      simp only [AX.blk, beq_bi] at hq
      by_cases hj : j = id
      · subst hj; simpa [AX.out, Exit.inBlock] using hq
      · simpa [AX.out, Exit.inBlock, hj] using hq
  case loop x =>
    obtain ⟨e1, fr1, s1, h1, h2⟩ := cc_some (show cc (r.code nt ro x fr s) (fun e fr s => e.thn fr s (r.code nt ro (.loop x))) = some (e, fr', s') from h)
    obtain ⟨p1, p2⟩ := hr.code h1
    have fin : Step s s' ∧ ∀ {G : Nat → Prop} {B : Nat} {E : Env} {w : World} {ac : Act} {rb : Option Nat}, (∀ j, In s'.l j → G j) → Sat G B E s w → FRel E nt fr ac → RoRel E ro rb → ∀ {Q : Exit → Act → World → Prop},
        (∀ E' ac' w', FRel E' nt fr' ac' → Sat G B E' s' w' → Ext B s'.w E E' w w' → Q e.out ac' w') → Code.roundsIn (fen rb) 0 P x Q (n + 1) ac w := by
      rcases thn_some h2 with ⟨rfl, h3⟩ | ⟨hne, h3⟩
      · obtain ⟨q1, q2⟩ := hr.code h3
        refine ⟨p1.trans q1, fun {G B E w ac rb} hG hs hf hro {Q} hQ => ?_⟩
        rw [roundsIn_succ]
        refine (p2 (fun j hj => hG j (q1.l j hj)) hs hf hro fun E1 ac1 w1 hf1 hs1 hx1 => ?_).1
        exact (q2 hG hs1 hf1 (hro.mono hx1.le) fun E2 ac2 w2 hf2 hs2 hx2 => hQ E2 ac2 w2 hf2 hs2 (hx1.trans hx2 q1.w)).2 x rfl
      · cases h3
        refine ⟨p1, fun {G B E w ac rb} hG hs hf hro {Q} hQ => ?_⟩
        rw [roundsIn_succ]
        exact (p2 hG hs hf hro fun E1 ac1 w1 hf1 hs1 hx1 => then_out hne (hQ E1 ac1 w1 hf1 hs1 hx1)).1
    refine ⟨fin.1, fun {G B E w ac rb} hG hs hf hro {Q} hQ => ?_⟩
    have := fin.2 hG hs hf hro hQ
    exact ⟨wpIn_loop_rounds (n + 1) this, fun y hy => by cases hy; exact this⟩
  case scope x =>
    obtain ⟨p1, p2⟩ := hr.code (show r.code nt ro x fr s = some (e, fr', s') from h)
    refine plain (fun x hx => by cases hx) ⟨p1, fun {G B E w ac rb} hG hs hf hro {Q} hQ => wpIn_scope' (p2 hG hs hf hro fun E1 ac1 w1 hf1 hs1 hx1 => ?_).1⟩
    have hq := hQ E1 ac1 w1 hf1 hs1 hx1
    cases e <;> exact hq
  case rangeFunc g ps assign body =>
    exact plain (fun x hx => by cases hx) (evRange_ok hr (show evRange g ps.toList assign body r nt ro fr s = some (e, fr', s') from h))
  case exit id =>
    cases h
    exact plain (fun x hx => by cases hx) ⟨Step.refl _, fun {G B E w ac rb} hG hs hf hro {Q} hQ => wpIn_exit (hQ _ _ _ hf hs (Ext.refl _ _ _ _))⟩
  case ret =>
    cases h
    exact plain (fun x hx => by cases hx) ⟨Step.refl _, fun {G B E w ac rb} hG hs hf hro {Q} hQ => wpIn_ret (hQ _ _ _ hf hs (Ext.refl _ _ _ _))⟩
  all_goals (cases h; done)
end
end Ev
end Go.Proofs.YtpklliedmplpdaaGreatDoor
