/-
  The evaluator: every operation, joined.
  The evaluator: one step of a region; regions that aren't drawn.
-/
import Derived.Test.YtnjpdipombnigaaGreatDoorYg
namespace Go.Proofs.YtnjpdipombnigaaGreatDoor
namespace Ev
open Go.RowKit

section
variable {P : Program} {r : Rec} {o : Oper} {a : T AV} {s s' : St} {v : AV}

theorem evOp0_ok (hcall : CallOk P r.call) (hyld : YieldOk P r.yld) (h : evOp0 P o r a s = some (v, s')) : OpOk P o a s v s' := by
  obtain ⟨dst, op, type, pos, after, guard⟩ := o
  cases op
  case move x =>
    obtain ⟨u, hu, h1⟩ := oc_some (show oc (opd a x) (fun v => some (v, s)) = some (v, s') from h)
    cases h1
    exact ⟨Step.refl _, fun {G B E w ac ro} hG hs ht {K Q} hK => wpIn_value (m := pure (ac.eval x)) (by cases ro <;> rfl) (Ok1.pure hs rfl (ht.one hu (by simp [Op.operands, Call.operands]))) hK⟩
  case assign x =>
    obtain ⟨u, hu, h1⟩ := oc_some (show oc (opd a x) (fun v => some (v, s)) = some (v, s') from h)
    cases h1
    exact ⟨Step.refl _, fun {G B E w ac ro} hG hs ht {K Q} hK => wpIn_value (m := pure (ac.eval x)) (by cases ro <;> rfl) (Ok1.pure hs rfl (ht.one hu (by simp [Op.operands, Call.operands]))) hK⟩
  case pick c x y =>
    obtain ⟨u, hu, h1⟩ := oc_some (show oc (opd a c) (fun b => (resB s b).boolC (oc (opd a x) fun v => some (v, s)) (oc (opd a y) fun v => some (v, s))) = some (v, s') from h)
    unfold AV.boolC at h1
    split at h1
    · rename_i hrb
      obtain ⟨q, hq, h2⟩ := oc_some h1
      cases h2
      refine ⟨Step.refl _, fun {G B E w ac ro} hG hs ht {K Q} hK => wpIn_value (m := do pure (if ← asBool (ac.eval c) then ac.eval x else ac.eval y)) (by cases ro <;> simp [Oper.semAt, execOp]) (Ok1.pure hs (v' := ac.eval x) ?_ (ht.one hq (by simp [Op.operands, Call.operands]))) hK⟩
      have := resB_ok hs (ht.one hu (by simp [Op.operands, Call.operands]))
      rw [hrb] at this
      generalize ac.eval c = cv at this ⊢
      cases this; simp [asBool]
    · rename_i hrb
      obtain ⟨q, hq, h2⟩ := oc_some h1
      cases h2
      refine ⟨Step.refl _, fun {G B E w ac ro} hG hs ht {K Q} hK => wpIn_value (m := do pure (if ← asBool (ac.eval c) then ac.eval x else ac.eval y)) (by cases ro <;> simp [Oper.semAt, execOp]) (Ok1.pure hs (v' := ac.eval y) ?_ (ht.one hq (by simp [Op.operands, Call.operands]))) hK⟩
      have := resB_ok hs (ht.one hu (by simp [Op.operands, Call.operands]))
      rw [hrb] at this
      generalize ac.eval c = cv at this ⊢
      cases this; simp [asBool]
    · cases h1
  case alloc e =>
    obtain ⟨z, hz, h1⟩ := oc_some (show oc (zeroOf P e) (fun z => newA s e z.cells) = some (v, s') from h)
    obtain ⟨zv, hzr, hzrel⟩ := zeroOf_run hz
    obtain ⟨q1, q2⟩ := newA_ok (P := P) h1
    refine ⟨q1, fun {G B E w ac ro} hG hs ht {K Q} hK => wpIn_value (m := Instr.alloc e true (.tuple #[])) (by cases ro <;> rfl) ?_ hK⟩
    obtain ⟨E', v', w', hrun, q3⟩ := q2 hG hs (ys := zv.cells) (hzrel E).cells
    exact ⟨E', v', w', by simpa [Instr.alloc, hzr, newVar] using hrun, q3⟩
  case box e x =>
    obtain ⟨u, hu, h1⟩ := oc_some (show oc (opd a x) (fun v => newA s e v.cells) = some (v, s') from h)
    obtain ⟨q1, q2⟩ := newA_ok (P := P) h1
    refine ⟨q1, fun {G B E w ac ro} hG hs ht {K Q} hK => wpIn_value (m := Instr.box e (ac.eval x)) (by cases ro <;> rfl) ?_ hK⟩
    obtain ⟨E', v', w', hrun, q3⟩ := q2 hG hs (ys := (ac.eval x).cells) (ht.one hu (by simp [Op.operands, Call.operands])).cells
    exact ⟨E', v', w', by simpa [Instr.box, newVar] using hrun, q3⟩
  case build t ps =>
    obtain ⟨z, hz, h1⟩ := oc_some (show oc (zeroOf P t) (fun z => oc (partsA a ps.toList) fun parts => match P.underlying t with
      | some (.struct fs) => oc (placesOf P fs.toList) fun pl => oc (fillA (nth pl) z.cells parts) fun l => some (AV.agg l, s)
      | some (.array _ e) => oc (szOf P e) fun n => oc (fillA (fun i => some (i * n, n)) z.cells parts) fun l => some (AV.agg l, s)
      | _ => none) = some (v, s') from h)
    obtain ⟨parts, hp, h2⟩ := oc_some h1
    have hs' : s' = s := by
      split at h2
      · obtain ⟨_, _, h3⟩ := oc_some h2
        obtain ⟨_, _, h4⟩ := oc_some h3
        cases h4; rfl
      · obtain ⟨_, _, h3⟩ := oc_some h2
        obtain ⟨_, _, h4⟩ := oc_some h3
        cases h4; rfl
      · cases h2
    subst hs'
    refine ⟨Step.refl _, fun {G B E w ac ro} hG hs ht {K Q} hK => wpIn_value (m := Instr.build t (ps.map fun (p : Nat × Operand) => (p.1, ac.eval p.2))) (by cases ro <;> rfl) ?_ hK⟩
    have hpr := partsA_ok2 (fun x hx => ht x (by simpa [Op.operands] using hx)) hp
    obtain ⟨_, v', hrun, hv⟩ := build_ok (w := w) (l := []) hz (parts' := ps.map fun (p : Nat × Operand) => (p.1, ac.eval p.2)) (by simpa using hpr) h2
    exact Ok1.pure hs hrun hv
  case buildSlice t len ps =>
    obtain ⟨parts, hp, h2⟩ := oc_some (show oc (partsA a ps.toList) (fun parts => match P.underlying t with
      | some (.slice e) => oc (szOf P e) fun n => oc (zeroOf P e) fun z => bc (Nat.blt 0 n) (bc (Nat.beq z.cells.length n) (bc (Nat.ble (Nat.mul len n) 1000000)
        (oc (fillA (fun i => some (i * n, n)) (repL z.cells len) parts) fun l => bc (allOne l) (some (AV.slice s.c 0 len (some len) 0, s.new (.cells l e (0, 0) none))))))
      | _ => none) = some (v, s') from h)
    obtain ⟨q1, q2⟩ := buildSlice_ok h2
    refine ⟨q1, fun {G B E w ac ro} hG hs ht {K Q} hK => wpIn_value (m := Instr.buildSlice t len (ps.map fun (p : Nat × Operand) => (p.1, ac.eval p.2))) (by cases ro <;> rfl) ?_ hK⟩
    have hpr := partsA_ok2 (fun x hx => ht x (by simpa [Op.operands] using hx)) hp
    exact q2 hG hs (by simpa using hpr)
  case load t x =>
    obtain ⟨u, hu, h1⟩ := oc_some (show oc (opd a x) (fun v => v.ptr2C (fun i off => loadVarA P t i off s) (loadRowA P t s)) = some (v, s') from h)
    rcases ptr2C_some h1 with ⟨i, off, rfl, h2⟩ | ⟨i, off, rfl, h2⟩
    · obtain ⟨rfl, q2⟩ := loadVarA_ok h2
      refine ⟨Step.see _ _, fun {G B E w ac ro} hG hs ht {K Q} hK => wpIn_value (m := Instr.loadAt t (ac.eval x)) (by cases ro <;> rfl) ?_ hK⟩
      have hx := ht.one hu (by simp [Op.operands, Call.operands])
      generalize ac.eval x = xv at hx ⊢
      cases hx
      rename_i b hb
      obtain ⟨v', hrun, hv⟩ := q2 (hG _ (in_see _ _)) hs hb
      exact Ok1.pure (hs.seen i) (by simpa [Instr.loadAt, Instr.sureAddr] using hrun) hv
    · obtain ⟨rfl, q2⟩ := loadRowA_ok h2
      refine ⟨Step.see _ _, fun {G B E w ac ro} hG hs ht {K Q} hK => wpIn_value (m := Instr.loadAt t (ac.eval x)) (by cases ro <;> rfl) ?_ hK⟩
      have hx := ht.one hu (by simp [Op.operands, Call.operands])
      generalize ac.eval x = xv at hx ⊢
      cases hx
      rename_i b C hb
      obtain ⟨v', hrun, hv⟩ := q2 (hG _ (in_see _ _)) hs hb
      exact Ok1.pure (hs.seen i) (by simpa [Instr.loadAt, Instr.sureAddr] using hrun) hv
  case store t x y =>
    obtain ⟨u, hu, h1⟩ := oc_some (show oc (opd a x) (fun p => p.ptrC fun i off => oc (opd a y) fun v => storeVarA P t i off v s) = some (v, s') from h)
    obtain ⟨i, off, rfl, h2⟩ := ptrC_some h1
    obtain ⟨yv, hy, h3⟩ := oc_some h2
    obtain ⟨q1, q2, q3⟩ := storeVarA_ok h3
    refine ⟨q1, fun {G B E w ac ro} hG hs ht {K Q} hK => wpIn_unit (m := Instr.storeAt t (ac.eval x) (ac.eval y)) (by cases ro <;> rfl) q2 ?_ hK⟩
    have hx := ht.one hu (by simp [Op.operands, Call.operands])
    have hy' := ht.one hy (by simp [Op.operands, Call.operands])
    generalize ac.eval x = xv at hx ⊢
    cases hx
    rename_i b hb
    obtain ⟨w', hrun, k⟩ := q3 hG hs hb hy'
    exact ⟨w', by simpa [Instr.storeAt, Instr.sureAddr] using hrun, k⟩
  case nilCheck x =>
    have h' : evNilCheck x r a s = some (v, s') := h
    unfold evNilCheck at h'
    split at h' <;> first | (cases h'; done) | skip
    all_goals
      rename_i hu
      cases h'
      refine ⟨Step.refl _, fun {G B E w ac ro} hG hs ht {K Q} hK => ?_⟩
      have hx := ht.one hu (by simp [Op.operands, Call.operands])
      refine wpIn_value (m := pure (ac.eval x)) ?_ (Ok1.pure hs rfl hx) hK
      generalize hev : ac.eval x = xv at hx ⊢
      cases hx <;> cases ro <;> simp [Oper.semAt, execOp, hev]
  case binOp op t x y yt =>
    obtain ⟨xv, hx, h1⟩ := oc_some (show oc (opd a x) (fun x => oc (opd a y) fun y => orElse (binA s.o P op t x y) s (ptrEqA P op t x y s)) = some (v, s') from h)
    obtain ⟨yv, hy, h2⟩ := oc_some h1
    cases hu : binA s.o P op t xv yv with
    | some u =>
      rw [hu] at h2
      cases h2
      refine ⟨Step.refl _, fun {G B E w ac ro} hG hs ht {K Q} hK => wpIn_value (m := do eqGuard op t x y (ac.eval x) (ac.eval y); binOp op t (ac.eval x) (ac.eval y)) (by cases ro <;> rfl) ?_ hK⟩
      obtain ⟨v', hrun, hv, hgu⟩ := binA_ok hs.orc hu (ht.one hx (by simp [Op.operands, Call.operands])) (ht.one hy (by simp [Op.operands, Call.operands])) w
      exact Ok1.pure hs (by simp [hgu, hrun]) hv
    | none =>
      rw [hu] at h2
      obtain ⟨i, off, rfl, h4⟩ := ptrC_some (show (xv.ptrC fun i off => yv.ptrC fun j off2 => _) = some (v, s') from h2)
      obtain ⟨j, off2, rfl, h5⟩ := ptrC_some h4
      obtain ⟨hij, h6⟩ := bc_some h5
      obtain ⟨o, ho, h7⟩ := oc_some h6
      have hij' : i = j := by simpa using hij
      subst hij'
      clear h h1 h2 h4 h5 h6 hij
      split at h7 <;> first | (cases h7; done) | skip
      rename_i e hue
      obtain ⟨z, hz, h8⟩ := oc_some h7
      obtain ⟨hz0, h9⟩ := bc_some h8
      have hz0' : 0 < z := by simpa using hz0
      have key : ∀ {b : Nat} {w : World}, (Op.equal t (.pointer (some ⟨b, off, none⟩)) (.pointer (some ⟨b, off2, none⟩))).run P w = .ok (Nat.beq off off2) w := by
        intro b w
        refine (fun key : ∀ d, (Op.equalIn (d + 1) t _ _).run P w = _ => key 9999) fun d => ?_
        have hb : ((⟨b, off, none⟩ : Addr) == ⟨b, off2, none⟩) = Nat.beq off off2 := by
          by_cases hq : off = off2
          · subst hq; simp
          · have h1 : Nat.beq off off2 = false := by cases hc : Nat.beq off off2 with | false => rfl | true => exact absurd (by simpa using hc) hq
            rw [h1]; simp [hq]
        have hz1 : z ≠ 0 := by omega
        simp [Op.equalIn, und_run hue, szOf_run hz, hz1, sameAddr, hb]
      split at h9 <;> first | (cases h9; done) | skip
      · cases h9
        refine ⟨Step.see _ _, fun {G B E w ac ro} hG hs ht {K Q} hK => wpIn_value (m := do eqGuard .eql t x y (ac.eval x) (ac.eval y); binOp .eql t (ac.eval x) (ac.eval y)) (by cases ro <;> rfl) ?_ hK⟩
        have hxr := ht.one hx (by simp [Op.operands, Call.operands])
        have hyr := ht.one hy (by simp [Op.operands, Call.operands])
        generalize ac.eval x = xw at hxr ⊢
        generalize ac.eval y = yw at hyr ⊢
        cases hxr
        rename_i b1 hb1
        cases hyr
        rename_i b2 hb2
        obtain ⟨b, C, ob, he, _⟩ := hs.fact i _ (hG _ (in_see _ _)) ho
        obtain rfl := hs.at_live he hb1
        obtain rfl := hs.at_live he hb2
        exact Ok1.pure (hs.seen i) (v' := .bool (Nat.beq off off2)) (by simp [eqGuard, show ∀ p q, binOp .eql t (.pointer p) (.pointer q) = (do pure (.bool (← Op.equal t (.pointer p) (.pointer q)))) from fun _ _ => rfl, key]) (.bool _)
      · cases h9
        refine ⟨Step.see _ _, fun {G B E w ac ro} hG hs ht {K Q} hK => wpIn_value (m := do eqGuard .neq t x y (ac.eval x) (ac.eval y); binOp .neq t (ac.eval x) (ac.eval y)) (by cases ro <;> rfl) ?_ hK⟩
        have hxr := ht.one hx (by simp [Op.operands, Call.operands])
        have hyr := ht.one hy (by simp [Op.operands, Call.operands])
        generalize ac.eval x = xw at hxr ⊢
        generalize ac.eval y = yw at hyr ⊢
        cases hxr
        rename_i b1 hb1
        cases hyr
        rename_i b2 hb2
        obtain ⟨b, C, ob, he, _⟩ := hs.fact i _ (hG _ (in_see _ _)) ho
        obtain rfl := hs.at_live he hb1
        obtain rfl := hs.at_live he hb2
        exact Ok1.pure (hs.seen i) (v' := .bool !(Nat.beq off off2)) (by simp [eqGuard, show ∀ p q, binOp .neq t (.pointer p) (.pointer q) = (do pure (.bool (!(← Op.equal t (.pointer p) (.pointer q))))) from fun _ _ => rfl, key]) (.bool _)
  case unOp op t x =>
    obtain ⟨xv, hx, h1⟩ := oc_some (show oc (opd a x) (fun x => oc (unA s.o op x) fun v => some (v, s)) = some (v, s') from h)
    obtain ⟨u, hu, h3⟩ := oc_some h1
    cases h3
    refine ⟨Step.refl _, fun {G B E w ac ro} hG hs ht {K Q} hK => wpIn_value (m := Op.unary op (ac.eval x)) (by cases ro <;> rfl) ?_ hK⟩
    obtain ⟨v', hrun, hv⟩ := unA_ok (P := P) hs.orc hu (ht.one hx (by simp [Op.operands, Call.operands])) w
    exact Ok1.pure hs hrun hv
  case convert src dst x =>
    obtain ⟨xv, hx, h1⟩ := oc_some (show oc (opd a x) (fun x => convA P src dst x s) = some (v, s') from h)
    obtain ⟨q1, q2⟩ := convA_ok h1
    exact ⟨q1, fun {G B E w ac ro} hG hs ht {K Q} hK => wpIn_value (m := convert src dst (ac.eval x)) (by cases ro <;> rfl) (q2 hG hs (ht.one hx (by simp [Op.operands, Call.operands]))) hK⟩
  case makeInterface t x =>
    have h' : evMakeInterface P t x r a s = some (v, s') := h
    unfold evMakeInterface at h'
    split at h' <;> first | (cases h'; done) | skip
    rename_i xv d hn hx hu
    cases h'
    refine ⟨Step.refl _, fun {G B E w ac ro} hG hs ht {K Q} hK => wpIn_value (m := Instr.makeInterface t (ac.eval x)) (by cases ro <;> rfl) ?_ hK⟩
    refine Ok1.pure hs (v' := .iface t (ac.eval x)) ?_ (.iface (ht.one hx (by simp [Op.operands, Call.operands])))
    simp only [Instr.makeInterface, Sem.run_bind, und_run hu, Result.andThen_ok]
    cases d <;> first | rfl | exact absurd rfl (hn _)
  case makeFunc fn first captured =>
    have h' : evMakeFunc fn first.toList captured.toList r a s = some (v, s') := h
    unfold evMakeFunc at h'
    split at h' <;> first | (cases h'; done) | skip
    rename_i f p q hp hq
    cases h'
    refine ⟨Step.refl _, fun {G B E w ac ro} hG hs ht {K Q} hK => wpIn_value (m := Instr.makeFunc (.func f) (first.map ac.eval) (captured.map ac.eval)) (by cases ro <;> rfl) ?_ hK⟩
    exact Ok1.pure hs rfl (.func (by simpa using opds_ok2 (fun x hx => ht x (by simp [Op.operands]; exact .inl (by simpa using hx))) hp) (by simpa using opds_ok2 (fun x hx => ht x (by simp [Op.operands]; exact .inr (by simpa using hx))) hq))
  case makeMap t x =>
    have newm : Step s (s.new (.map [] 0)) ∧ ∀ {G : Nat → Prop} {B : Nat} {E : Env} {w : World}, (∀ j, In (s.new (.map [] 0)).l j → G j) → Sat G B E s w → ∃ E', (Rel E' (.map s.c) (.map (some w.heap.size))) ∧ Sat G B E' (s.new (.map [] 0)) (w.alloc (.map #[] 0)) ∧ Ext B (s.new (.map [] 0)).w E E' w (w.alloc (.map #[] 0)) := by
      refine ⟨Step.new _ _, fun {G B E w} hG hs => ?_⟩
      obtain ⟨k1, k2⟩ := hs.new (o := .map [] 0) (ob := .map #[] 0) (C := 0) (hG _ (in_new _ _)) rfl ⟨#[], rfl, .nil⟩
      exact ⟨_, .map (by rw [Env.set_same]; rfl), k1, k2⟩
    have h' : evMakeMap P t x r a s = some (v, s') := h
    unfold evMakeMap at h'
    split at h'
    · cases h'
      refine ⟨newm.1, fun {G B E w ac ro} hG hs ht {K Q} hK => wpIn_value (m := Instr.makeMap t none) (by cases ro <;> rfl) ?_ hK⟩
      obtain ⟨E', k⟩ := newm.2 hG hs
      exact ⟨E', _, _, by simp [Instr.makeMap], k⟩
    · rename_i x
      split at h' <;> first | (cases h'; done) | skip
      rename_i kt et kk n hu hx
      cases h'
      refine ⟨newm.1, fun {G B E w ac ro} hG hs ht {K Q} hK => wpIn_value (m := Instr.makeMap t (some (ac.eval x))) (by cases ro <;> rfl) ?_ hK⟩
      obtain ⟨E', k⟩ := newm.2 hG hs
      have hxr := ht.one hx (by simp [Op.operands, Call.operands])
      generalize ac.eval x = xv at hxr ⊢
      cases hxr
      exact ⟨E', _, _, by simp [Instr.makeMap, und_run hu, asInt, asIntOf], k⟩
  case makeSlice t l c =>
    obtain ⟨lv, hl, h1⟩ := oc_some (show oc (opd a l) (fun l => oc (opd a c) fun c => makeSliceA P t l c s) = some (v, s') from h)
    obtain ⟨cv, hc, h2⟩ := oc_some h1
    obtain ⟨q1, q2⟩ := makeSliceA_ok h2
    exact ⟨q1, fun {G B E w ac ro} hG hs ht {K Q} hK => wpIn_value (m := Instr.makeSlice t (ac.eval l) (ac.eval c)) (by cases ro <;> rfl) (q2 hG hs (ht.one hl (by simp [Op.operands, Call.operands])) (ht.one hc (by simp [Op.operands, Call.operands]))) hK⟩
  case slice t x lo hi mx =>
    obtain ⟨xv, hx, h1⟩ := oc_some (show oc (opd a x) (fun x => oc (opdO a lo) fun lo => oc (opdO a hi) fun hi => oc (opdO a mx) fun mx => oc (sliceOf P t x lo hi mx) fun v => some (v, s)) = some (v, s') from h)
    obtain ⟨lv, hl, h2⟩ := oc_some h1
    obtain ⟨hv, hh, h3⟩ := oc_some h2
    obtain ⟨mv, hm, h4⟩ := oc_some h3
    obtain ⟨u, hu, h5⟩ := oc_some h4
    cases h5
    refine ⟨Step.refl _, fun {G B E w ac ro} hG hs ht {K Q} hK => wpIn_value (m := Instr.sliceAt t (ac.eval x) (lo.map ac.eval) (hi.map ac.eval) (mx.map ac.eval)) (by cases ro <;> rfl) ?_ hK⟩
    obtain ⟨v', hrun, hr⟩ := sliceOf_ok hu (ht.one hx (by simp [Op.operands, Call.operands])) (opdO_ok2 (fun y hy => ht y (by simp [Op.operands, hy])) hl) (opdO_ok2 (fun y hy => ht y (by simp [Op.operands, hy])) hh) (opdO_ok2 (fun y hy => ht y (by simp [Op.operands, hy])) hm) w
    exact Ok1.pure hs hrun hr
  case fieldAddr t x f =>
    obtain ⟨xv, hx, h1⟩ := oc_some (show oc (opd a x) (fun x => oc (fieldAtA P t x f) fun v => some (v, s)) = some (v, s') from h)
    obtain ⟨u, hu, h3⟩ := oc_some h1
    cases h3
    refine ⟨Step.refl _, fun {G B E w ac ro} hG hs ht {K Q} hK => wpIn_value (m := Instr.fieldAt t (ac.eval x) f) (by cases ro <;> rfl) ?_ hK⟩
    obtain ⟨v', hrun, hv⟩ := fieldAtA_ok hu (ht.one hx (by simp [Op.operands, Call.operands])) w
    exact Ok1.pure hs hrun hv
  case field t x f =>
    obtain ⟨xv, hx, h1⟩ := oc_some (show oc (opd a x) (fun x => oc (fieldA P t x f) fun v => some (v, s)) = some (v, s') from h)
    obtain ⟨u, hu, h3⟩ := oc_some h1
    cases h3
    refine ⟨Step.refl _, fun {G B E w ac ro} hG hs ht {K Q} hK => wpIn_value (m := Instr.field t (ac.eval x) f) (by cases ro <;> rfl) ?_ hK⟩
    obtain ⟨v', hrun, hv⟩ := fieldA_ok hu (ht.one hx (by simp [Op.operands, Call.operands])) w
    exact Ok1.pure hs hrun hv
  case indexAddr t x i =>
    obtain ⟨xv, hx, h1⟩ := oc_some (show oc (opd a x) (fun x => oc (opd a i) fun i => oc (concA s.o (boundOf P t x) i) fun i => oc (indexAtA P t x i) fun v => some (v, s)) = some (v, s') from h)
    obtain ⟨iv, hi, h2⟩ := oc_some h1
    obtain ⟨iw, hw, h2⟩ := oc_some h2
    obtain ⟨u, hu, h3⟩ := oc_some h2
    cases h3
    refine ⟨Step.refl _, fun {G B E w ac ro} hG hs ht {K Q} hK => wpIn_value (m := Instr.indexAt t (ac.eval x) (ac.eval i)) (by cases ro <;> rfl) ?_ hK⟩
    obtain ⟨v', hrun, hv⟩ := indexAtA_ok hu (ht.one hx (by simp [Op.operands, Call.operands])) (concA_ok hs.orc hw (ht.one hi (by simp [Op.operands, Call.operands]))) w
    exact Ok1.pure hs hrun hv
  case index t x i =>
    obtain ⟨xv, hx, h1⟩ := oc_some (show oc (opd a x) (fun x => oc (opd a i) fun i => oc (concA s.o (boundOf P t x) i) fun i => oc (indexA P t x i) fun v => some (v, s)) = some (v, s') from h)
    obtain ⟨iv, hi, h2⟩ := oc_some h1
    obtain ⟨iw, hw, h2⟩ := oc_some h2
    obtain ⟨u, hu, h3⟩ := oc_some h2
    cases h3
    refine ⟨Step.refl _, fun {G B E w ac ro} hG hs ht {K Q} hK => wpIn_value (m := Instr.index t (ac.eval x) (ac.eval i)) (by cases ro <;> rfl) ?_ hK⟩
    obtain ⟨v', hrun, hv⟩ := indexA_ok hu (ht.one hx (by simp [Op.operands, Call.operands])) (concA_ok hs.orc hw (ht.one hi (by simp [Op.operands, Call.operands]))) w
    exact Ok1.pure hs hrun hv
  case lookup t x i ok =>
    obtain ⟨xv, hx, h1⟩ := oc_some (show oc (opd a x) (fun x => oc (opd a i) fun i => lookupA P t x i ok s) = some (v, s') from h)
    obtain ⟨iv, hi, h2⟩ := oc_some h1
    obtain ⟨q1, q2⟩ := lookupA_ok h2
    exact ⟨q1, fun {G B E w ac ro} hG hs ht {K Q} hK => wpIn_value (m := Instr.lookup t (ac.eval x) (ac.eval i) ok) (by cases ro <;> rfl) (q2 hG hs (ht.one hx (by simp [Op.operands, Call.operands])) (ht.one hi (by simp [Op.operands, Call.operands]))) hK⟩
  case mapUpdate t m k x =>
    obtain ⟨mv, hm, h1⟩ := oc_some (show oc (opd a m) (fun m => oc (opd a k) fun k => oc (opd a x) fun v => mapUpdateA P t m k v s) = some (v, s') from h)
    obtain ⟨kv, hk, h2⟩ := oc_some h1
    obtain ⟨xv, hx, h3⟩ := oc_some h2
    obtain ⟨q1, q2, q3⟩ := mapUpdateA_ok h3
    exact ⟨q1, fun {G B E w ac ro} hG hs ht {K Q} hK => wpIn_unit (m := Instr.mapUpdate t (ac.eval m) (ac.eval k) (ac.eval x)) (by cases ro <;> rfl) q2 (q3 hG hs (ht.one hm (by simp [Op.operands, Call.operands])) (ht.one hk (by simp [Op.operands, Call.operands])) (ht.one hx (by simp [Op.operands, Call.operands]))) hK⟩
  case insert t m k x =>
    obtain ⟨mv, hm, h1⟩ := oc_some (show oc (opd a m) (fun m => oc (opd a k) fun k => oc (opd a x) fun v => mapUpdateA P t m k v s) = some (v, s') from h)
    obtain ⟨kv, hk, h2⟩ := oc_some h1
    obtain ⟨xv, hx, h3⟩ := oc_some h2
    obtain ⟨q1, q2, q3⟩ := mapUpdateA_ok h3
    exact ⟨q1, fun {G B E w ac ro} hG hs ht {K Q} hK => wpIn_unit (m := Instr.mapUpdate t (ac.eval m) (ac.eval k) (ac.eval x)) (by cases ro <;> rfl) q2 (q3 hG hs (ht.one hm (by simp [Op.operands, Call.operands])) (ht.one hk (by simp [Op.operands, Call.operands])) (ht.one hx (by simp [Op.operands, Call.operands]))) hK⟩
  case range t x =>
    obtain ⟨xv, hx, h1⟩ := oc_some (show oc (opd a x) (fun x => rangeA P t x s) = some (v, s') from h)
    obtain ⟨q1, q2⟩ := rangeA_ok h1
    exact ⟨q1, fun {G B E w ac ro} hG hs ht {K Q} hK => wpIn_value (m := Instr.range t (ac.eval x)) (by cases ro <;> rfl) (q2 hG hs (ht.one hx (by simp [Op.operands, Call.operands]))) hK⟩
  case next x b =>
    obtain ⟨xv, hx, h1⟩ := oc_some (show oc (opd a x) (fun x => nextA x b s) = some (v, s') from h)
    obtain ⟨q1, q2⟩ := nextA_ok (P := P) h1
    exact ⟨q1, fun {G B E w ac ro} hG hs ht {K Q} hK => wpIn_value (m := Instr.next (ac.eval x) b type) (by cases ro <;> rfl) (q2 type hG hs (ht.one hx (by simp [Op.operands, Call.operands]))) hK⟩
  case entry x =>
    obtain ⟨xv, hx, h1⟩ := oc_some (show oc (opd a x) (fun x => entryA x s) = some (v, s') from h)
    obtain ⟨q1, q2⟩ := entryA_ok (P := P) h1
    exact ⟨q1, fun {G B E w ac ro} hG hs ht {K Q} hK => wpIn_value (m := Instr.entry (ac.eval x)) (by cases ro <;> rfl) (q2 hG hs (ht.one hx (by simp [Op.operands, Call.operands]))) hK⟩
  case extract x i =>
    obtain ⟨xv, hx, h1⟩ := oc_some (show oc (opd a x) (fun x => x.tupC fun l => oc (nth l i) fun v => some (v, s)) = some (v, s') from h)
    unfold AV.tupC at h1
    split at h1 <;> first | (cases h1; done) | skip
    obtain ⟨u, hu, h2⟩ := oc_some h1
    cases h2
    refine ⟨Step.refl _, fun {G B E w ac ro} hG hs ht {K Q} hK => wpIn_value (m := Instr.extract (ac.eval x) i) (by cases ro <;> rfl) ?_ hK⟩
    have hxr := ht.one hx (by simp [Op.operands, Call.operands])
    generalize ac.eval x = xv at hxr ⊢
    cases hxr
    rename_i arr hr
    rw [nth_get] at hu
    obtain ⟨v', h1, h2⟩ := hr.nth hu
    rw [Array.getElem?_toList] at h1
    exact Ok1.pure hs (v' := v') (by simp [Instr.extract, h1]) h2
  case typeAssert x xt t ok =>
    have no : ∀ {s' : St} {v : AV}, assertNot P t ok s = some (v, s') → s' = s ∧ ok = true ∧ ∃ zv, (∀ w, (zeroValue t).run P w = .ok zv w) ∧ ∀ E, Rel E v (.tuple #[zv, .bool false]) := by
      intro s' v hno
      unfold assertNot at hno
      split at hno <;> first | (cases hno; done) | skip
      rename_i z hz
      cases hno
      obtain ⟨zv, hzr, hzrel⟩ := zeroOf_run hz
      exact ⟨rfl, rfl, zv, hzr, fun E => .tuple (.cons (hzrel E) (.cons (.bool _) .nil))⟩
    have h' : evTypeAssert P x t ok r a s = some (v, s') := h
    unfold evTypeAssert at h'
    split at h' <;> first | (cases h'; done) | skip
    · rename_i u uv d hn hx hu
      cases hb : Nat.beq u t with
      | true =>
        rw [hb] at h'
        cases h'
        have hut : u = t := by simpa using hb
        subst hut
        refine ⟨Step.refl _, fun {G B E w ac ro} hG hs ht {K Q} hK => wpIn_value (m := Instr.typeAssert (ac.eval x) xt u ok) (by cases ro <;> rfl) ?_ hK⟩
        have hxr := ht.one hx (by simp [Op.operands, Call.operands])
        generalize ac.eval x = xv at hxr ⊢
        cases hxr
        rename_i v' hv'
        refine Ok1.pure hs (v' := if ok then .tuple #[v', .bool true] else v') ?_ ?_
        · simp only [Instr.typeAssert, Sem.run_bind, und_run hu, Result.andThen_ok]
          cases d <;> first | (simp; done) | exact absurd rfl (hn _)
        · cases ok
          · exact hv'
          · exact .tuple (.cons hv' (.cons (.bool _) .nil))
      | false =>
        rw [hb] at h'
        obtain ⟨rfl, hok, zv, hzr, hrel⟩ := no h'
        have hut : u ≠ t := fun e => by subst e; simp at hb
        refine ⟨Step.refl _, fun {G B E w ac ro} hG hs ht {K Q} hK => wpIn_value (m := Instr.typeAssert (ac.eval x) xt t ok) (by cases ro <;> rfl) ?_ hK⟩
        have hxr := ht.one hx (by simp [Op.operands, Call.operands])
        generalize ac.eval x = xv at hxr ⊢
        cases hxr
        refine Ok1.pure hs (v' := .tuple #[zv, .bool false]) ?_ (hrel E)
        simp only [Instr.typeAssert, Sem.run_bind, und_run hu, Result.andThen_ok]
        subst hok
        cases d <;> first | (simp [hut, hzr]; done) | exact absurd rfl (hn _)
    · rename_i d hn hx hu
      obtain ⟨rfl, hok, zv, hzr, hrel⟩ := no h'
      refine ⟨Step.refl _, fun {G B E w ac ro} hG hs ht {K Q} hK => wpIn_value (m := Instr.typeAssert (ac.eval x) xt t ok) (by cases ro <;> rfl) ?_ hK⟩
      have hxr := ht.one hx (by simp [Op.operands, Call.operands])
      generalize ac.eval x = xv at hxr ⊢
      cases hxr
      refine Ok1.pure hs (v' := .tuple #[zv, .bool false]) ?_ (hrel E)
      simp only [Instr.typeAssert, Sem.run_bind, und_run hu, Result.andThen_ok]
      subst hok
      cases d <;> first | (simp [hzr]; done) | exact absurd rfl (hn _)
  case call c =>
    obtain ⟨callee, args, argTypes⟩ := c
    obtain ⟨argv, hargs, h1⟩ := oc_some (show oc (opds a args.toList) (fun args => match callee with
      | .value f => oc (opd a f) (callV P r args s)
      | .builtin b => builtinA P b argTypes.toList args s
      | _ => none) = some (v, s') from h)
    cases callee <;> first | (cases h1; done) | skip
    case value f =>
      obtain ⟨fv, hf, h2⟩ := oc_some h1
      unfold callV at h2
      split at h2
      · rename_i g p q
        cases hb0 : Nat.beq (extK P g) (nat_lit 0) with
        | true =>
          rw [hb0, bi_true] at h2
          obtain ⟨q1, q2⟩ := hcall h2
          refine ⟨q1, fun {G B E w ac ro} hG hs ht {K Q} hK => ?_⟩
          have hfr := ht.one hf (by simp [Op.operands, Call.operands])
          have har := opds_ok2 (fun x hx => ht x (by simp [Op.operands, Call.operands]; first | exact .inr (by simpa using hx) | (simpa using hx))) hargs
          generalize hev : ac.eval f = fval at hfr
          cases hfr
          rename_i p' q' hp hq
          have hres := q2 hG hs (args' := p' ++ args.map ac.eval ++ q') (by simpa using (hp.append har).append hq)
          refine wpIn_call (f := g) (args := p' ++ args.map ac.eval ++ q') ?_ hres hK
          cases ro <;> simp [Oper.semAt, execOp, resolve, hev, Deferred.ofValue, invoke]
        | false =>
          rw [hb0, bi_false] at h2
          have hext : ExtOk P g (p ++ argv ++ q) s v s' := by
            cases hb2 : Nat.beq (extK P g) (nat_lit 2) with
            | true => rw [hb2, bi_true] at h2; exact cloneA_ok (by simpa using hb2) h2
            | false =>
              rw [hb2, bi_false] at h2
              cases hb3 : Nat.beq (extK P g) (nat_lit 3) with
              | true => rw [hb3, bi_true] at h2; exact indexByteA_ok (by simpa using hb3) h2
              | false =>
                rw [hb3, bi_false] at h2
                obtain ⟨hb4, h4⟩ := bc_some h2
                exact sameA_ok (by simpa using hb4) h4
          obtain ⟨q1, q2⟩ := hext
          refine ⟨q1, fun {G B E w ac ro} hG hs ht {K Q} hK => ?_⟩
          have hfr := ht.one hf (by simp [Op.operands, Call.operands])
          have har := opds_ok2 (fun x hx => ht x (by simp [Op.operands, Call.operands]; first | exact .inr (by simpa using hx) | (simpa using hx))) hargs
          generalize hev : ac.eval f = fval at hfr
          cases hfr
          rename_i p' q' hp hq
          have hres := q2 hG hs (args' := p' ++ args.map ac.eval ++ q') (by simpa using (hp.append har).append hq)
          refine wpIn_ext (f := g) (args := p' ++ args.map ac.eval ++ q') ?_ hres hK
          cases ro <;> simp [Oper.semAt, execOp, resolve, hev, Deferred.ofValue, invoke]
      · rename_i l
        obtain ⟨q1, q2⟩ := hyld h2
        refine ⟨q1, fun {G B E w ac ro} hG hs ht {K Q} hK => ?_⟩
        have hfr := ht.one hf (by simp [Op.operands, Call.operands])
        have har := opds_ok2 (fun x hx => ht x (by simp [Op.operands, Call.operands]; first | exact .inr (by simpa using hx) | (simpa using hx))) hargs
        generalize hev : ac.eval f = fval at hfr
        cases hfr
        rename_i b hb
        obtain ⟨fn, tmps, asg, bo, hy, hr⟩ := q2 hG hs (args' := args.map ac.eval) (by simpa using har) hb
        refine wpIn_round ?_ hr hK
        cases ro <;> simp [Oper.semAt, execOp, resolve, hev, Deferred.ofValue, invoke, hy]
      · cases h2
    case builtin b =>
      obtain ⟨q1, q2⟩ := builtinA_ok h1
      refine ⟨q1, fun {G B E w ac ro} hG hs ht {K Q} hK => ?_⟩
      have har := opds_ok2 (fun x hx => ht x (by simp [Op.operands, Call.operands]; first | exact .inr (by simpa using hx) | (simpa using hx))) hargs
      obtain ⟨m, hm, hok⟩ := q2 (args' := args.map ac.eval) type (args.map fun | .const _ => true | _ => false) hG hs (by simpa using har)
      refine wpIn_value (m := m) ?_ hok hK
      rw [← hm]
      cases ro <;> rfl
  all_goals (cases h; done)
theorem evOp_ok [IsProg P] (hcall : CallOk P r.call) (hyld : YieldOk P r.yld) (h : evOp P o r a s = some (v, s')) : OpOk P o a s v s' := by
  unfold evOp orR at h
  cases h0 : evOp0 P o r a s with
  | some p =>
    rw [h0] at h
    cases h
    exact evOp0_ok hcall hyld h0
  | none =>
    rw [h0] at h
    exact odefOp_ok h
end
end Ev
end Go.Proofs.YtnjpdipombnigaaGreatDoor
namespace Go.Proofs.YtnjpdipombnigaaGreatDoor
namespace Ev
open Go.RowKit

noncomputable def putT (d : Option Tmp) (a : T AV) (u : AV) : T AV := match d with
  | none => a
  | some d => a.put d (some u)
/-- What a step looks at. -/
def LRel (E : Env) (ops : Array Oper) (o : Oper) (a : T AV) (ac : Act) : Prop :=
  ORel E o.op a ac ∧ ∀ j want oj d g, o.guard = some (j, want) → ops[j]? = some oj → oj.dst = some d → a.get d = some g → ∃ x, ac.tmps[d]? = some x ∧ Rel E g x
/-- What a step's evaluation promises. -/
def OneOk (P : Program) (ops : Array Oper) (nt : Nat) (o : Oper) (a : T AV) (s : St) (a' : T AV) (s' : St) : Prop :=
  Step s s' ∧ (∀ d, o.dst = some d → d < nt) ∧ ∃ u, a' = putT o.dst a u ∧ ∀ {G : Nat → Prop} {B : Nat} {E : Env} {w : World} {ac : Act} {ro : Option Nat} {i : Nat}, ops[i]? = some o → (∀ j, In s'.l j → G j) → Sat G B E s w → LRel E ops o a ac →
    ∀ {K : Act → World → Prop} {Q : Exit → Act → World → Prop}, (∀ E' u' w', Rel E' u u' → Sat G B E' s' w' → Ext B s'.w E E' w w' → K (ac.put o.dst u') w') → wpOpIn (fen ro) 0 P ops Q i K ac w

section
variable {P : Program} {r : Rec}

theorem putS_some {nt : Nat} {d : Option Tmp} {put : T AV → AV → T AV} (h : putS nt d = some put) : (∀ a u, put a u = putT d a u) ∧ ∀ t, d = some t → t < nt := by
  cases d with
  | none => cases h; exact ⟨fun _ _ => rfl, fun t ht => by cases ht⟩
  | some d =>
    simp only [putS] at h
    cases hb : Nat.blt d nt with
    | false => rw [hb] at h; cases h
    | true => rw [hb] at h; cases h; exact ⟨fun _ _ => rfl, fun t ht => by cases ht; simpa using hb⟩
theorem wpOpIn_wanted {ops : Array Oper} {o : Oper} {i : Nat} (hi : ops[i]? = some o) {ac : Act} {w : World} {ro : Option Nat} {K : Act → World → Prop} {Q : Exit → Act → World → Prop} (hw : Region.wanted o (yielded ops ac.tmps) = true) (h : o.wpIn (fen ro) 0 P ac w K Q) : wpOpIn (fen ro) 0 P ops Q i K ac w := by
  simp only [wpOpIn, hi, hw, if_true]; exact h
theorem wpOpIn_not {ops : Array Oper} {o : Oper} {i : Nat} (hi : ops[i]? = some o) {ac : Act} {w : World} {ro : Option Nat} {K : Act → World → Prop} {Q : Exit → Act → World → Prop} (hw : Region.wanted o (yielded ops ac.tmps) = false) (h : K (ac.put o.dst undef) w) : wpOpIn (fen ro) 0 P ops Q i K ac w := by
  simp only [wpOpIn, hi, hw, Bool.false_eq_true, if_false]; exact ⟨fun f _ => fen_fn ro f, h⟩
theorem evOne_ok [IsProg P] (hcall : CallOk P r.call) (hyld : YieldOk P r.yld) {ops : Array Oper} {nt : Nat} {o : Oper} {a a' : T AV} {s s' : St} (h : evOne P r nt ops.toList a o s = some (a', s')) : OneOk P ops nt o a s a' s' := by
  unfold evOne at h
  unfold stepS at h
  split at h
  case h_1 => cases h
  rename_i put hput
  obtain ⟨hp1, hp2⟩ := putS_some hput
  have no : (∀ {ac : Act} {E : Env}, LRel E ops o a ac → Region.wanted o (yielded ops ac.tmps) = false) → (some (put a undefA, s) : Option (T AV × St)) = some (a', s') → OneOk P ops nt o a s a' s' := by
    intro hw he
    cases he
    refine ⟨Step.refl _, hp2, undefA, hp1 _ _, fun {G B E w ac ro i} hi hG hs hl {K Q} hK => ?_⟩
    exact wpOpIn_not hi (hw hl) (hK E undef w (.tuple .nil) hs (Ext.refl _ _ _ _))
  have yes : (∀ {ac : Act} {E : Env}, LRel E ops o a ac → Region.wanted o (yielded ops ac.tmps) = true) → oc2 (evOp P o r a s) (fun v s' => some (put a v, s')) = some (a', s') → OneOk P ops nt o a s a' s' := by
    intro hw he
    obtain ⟨u, s1, hu, h1⟩ := oc2_some he
    cases h1
    obtain ⟨q1, q2⟩ := evOp_ok hcall hyld hu
    refine ⟨q1, hp2, u, hp1 _ _, fun {G B E w ac ro i} hi hG hs hl {K Q} hK => ?_⟩
    exact wpOpIn_wanted hi (hw hl) (q2 hG hs hl.1 hK)
  split at h
  · rename_i hg
    exact yes (fun _ => by simp [Region.wanted, hg]) h
  · rename_i j want hg
    split at h
    · rename_i hj
      rw [nth_get, Array.getElem?_toList] at hj
      exact no (fun _ => by simp [Region.wanted, hg, yielded, hj]) h
    · rename_i oj hj
      rw [nth_get, Array.getElem?_toList] at hj
      split at h
      · rename_i hd
        exact no (fun _ => by simp [Region.wanted, hg, yielded, hj, hd]) h
      · rename_i d hd
        obtain ⟨g, hgd, h1⟩ := oc_some h
        obtain ⟨hlit, h1⟩ := bc_some h1
        have hw : ∀ {ac : Act} {E : Env}, LRel E ops o a ac → Region.wanted o (yielded ops ac.tmps) = guardC want g := by
          intro ac E hl
          obtain ⟨x, hx, hrel⟩ := hl.2 j want oj d g hg hj hd hgd
          simp only [Region.wanted, hg, yielded, hj, Option.bind_some, hd, hx]
          cases hrel <;> first | (simp [guardC]; done) | (exact absurd hlit (by simp [litG]))
        cases hgc : guardC want g with
        | true => rw [hgc, bi_true] at h1; exact yes (fun hl => by rw [hw hl, hgc]) h1
        | false => rw [hgc, bi_false] at h1; exact no (fun hl => by rw [hw hl, hgc]) h1
theorem TRel.put {E : Env} {nt : Nat} {a : T AV} {ac : Act} (h : TRel E nt a ac.tmps) {d : Option Tmp} (hd : ∀ t, d = some t → t < nt) {u : AV} {u' : Value} (hu : Rel E u u') : TRel E nt (putT d a u) (ac.put d u').tmps := by
  cases d with
  | none => exact h
  | some d =>
    refine ⟨by simpa [Act.put] using h.1, fun t v ht => ?_⟩
    have hdn := hd d rfl
    rcases T.put_some ht with ⟨rfl, hx⟩ | ⟨hne, hx⟩
    · cases hx
      exact ⟨u', by simp [Act.put, h.1, hdn], hu⟩
    · obtain ⟨x, hx1, hx2⟩ := h.2 t v hx
      exact ⟨x, by simp [Act.put, Array.getElem?_setIfInBounds_ne (Ne.symm hne), hx1], hx2⟩
theorem TRel.look {G : Nat → Prop} {B : Nat} {E : Env} {s : St} {w : World} (hs : Sat G B E s w) {nt : Nat} {a : T AV} {ac : Act} (ht : TRel E nt a ac.tmps) (ops : Array Oper) (o : Oper) : LRel E ops o a ac :=
  ⟨TRel.ops hs ht _, fun _ _ _ d g _ _ _ hg => ht.2 d g hg⟩
theorem act_put_defers (ac : Act) (d : Option Tmp) (u : Value) : (ac.put d u).defers = ac.defers := by cases d <;> rfl
theorem evOps_ok [IsProg P] (hcall : CallOk P r.call) (hyld : YieldOk P r.yld) {ops : Array Oper} {nt : Nat} : ∀ (l : List Oper) (k : Nat) {a a' : T AV} {s s' : St}, ops.toList.drop k = l → evOps P r nt ops.toList l a s = some (a', s') →
    Step s s' ∧ ∀ {G : Nat → Prop} {B : Nat} {E : Env} {w : World} {ac : Act} {ro : Option Nat}, (∀ j, In s'.l j → G j) → Sat G B E s w → TRel E nt a ac.tmps → ∀ {Q : Exit → Act → World → Prop},
      (∀ E' ac' w', TRel E' nt a' ac'.tmps → ac'.defers = ac.defers → Sat G B E' s' w' → Ext B s'.w E E' w w' → Q .normal ac' w') → wpOpsIn (fen ro) 0 P ops Q (List.range' k l.length) ac w := by
  intro l
  induction l with
  | nil =>
    intro k a a' s s' _ h
    cases h
    exact ⟨Step.refl _, fun {G B E w ac ro} hG hs ht {Q} hQ => hQ E ac w ht rfl hs (Ext.refl _ _ _ _)⟩
  | cons o l ih =>
    intro k a a' s s' hk h
    obtain ⟨a1, s1, h1, h2⟩ := oc2_some (show oc2 (evOne P r nt ops.toList a o s) (fun a s => evOps P r nt ops.toList l a s) = some (a', s') from h)
    obtain ⟨q1, q2, u, rfl, q3⟩ := evOne_ok hcall hyld h1
    have hk' : ops.toList.drop (k + 1) = l := by rw [← List.drop_drop, hk]; rfl
    have hi : ops[k]? = some o := by
      rw [← Array.getElem?_toList]
      have := congrArg (fun l => l[0]?) hk
      simpa using this
    obtain ⟨p1, p2⟩ := ih (k + 1) hk' h2
    refine ⟨q1.trans p1, fun {G B E w ac ro} hG hs ht {Q} hQ => ?_⟩
    show wpOpsIn (fen ro) 0 P ops Q (k :: List.range' (k + 1) l.length) ac w
    rw [wpOpsIn_cons]
    refine q3 hi (fun j hj => hG j (p1.l j hj)) hs (TRel.look hs ht ops o) fun E1 u' w1 hu hs1 hx1 => ?_
    refine p2 hG hs1 ((ht.mono hx1.le).put q2 hu) fun E2 ac2 w2 ht2 hd2 hs2 hx2 => ?_
    exact hQ E2 ac2 w2 ht2 (hd2.trans (act_put_defers _ _ _)) hs2 (hx1.trans hx2 p1.w)
end
end Ev
end Go.Proofs.YtnjpdipombnigaaGreatDoor
