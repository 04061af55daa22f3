/-
  The evaluator: maps.
  The evaluator: maps, on.
-/
import Derived.Test.YtnjpdipombnigaaGreatDoorYd
namespace Go.Proofs.YtnjpdipombnigaaGreatDoor
namespace Ev
open Go.RowKit

section
variable {P : Program} {G : Nat → Prop} {B : Nat} {E : Env} {s s' : St} {w : World} {v : AV} {O : Orc}

theorem run_getObj_of {b : Nat} {o : Obj} (h : w.heap[b]? = some o) (hc : ∀ c e f, o ≠ .cells c e f) : (getObj b).run P w = .ok o w := by
  simp only [getObj, Sem.run, h]
  try (cases o <;> first | rfl | exact absurd rfl (hc _ _ _))
theorem run_setObj_of {b : Nat} {o : Obj} (o' : Obj) (h : w.heap[b]? = some o) (hc : ∀ c e f, o ≠ .cells c e f) : (setObj b o').run P w = .ok () (w.putObj b o') := by
  simp only [setObj, Sem.run, h]
  cases o <;> first | rfl | exact absurd rfl (hc _ _ _)

theorem bytes_beq (a b : List UInt8) : ((ByteArray.mk a.toArray) == (ByteArray.mk b.toArray)) = (a == b) := by
  show ByteArray.beq _ _ = _
  unfold ByteArray.beq
  simp
theorem keyEq_ok (ho : OrcOk O E.ρ) {x y : AV} {x' y' : Value} {b : Bool} {t : TypeId} {d : TypeDesc} (hd : P.underlying t = some d) (hk : keyType P t x = true) (h : keyEq O x y = some b) (hx : Rel E x x') (hy : Rel E y y') :
    Instr.sameNow d x' y' = some b ∧ (b = true → Instr.sameBits 10000 y' x' = true) := by
  unfold keyType at hk
  rw [hd] at hk
  cases hx <;> cases hy <;> simp only [keyEq] at h <;> first | (cases h; done) | skip
  · cases h
    cases d <;> simp at hk
    rename_i a c
    refine ⟨rfl, fun e => ?_⟩
    have : a = c := by simpa using e
    subst this; simp [Instr.sameBits]
  · rename_i k a k' c
    split at h
    · rename_i hkk
      subst hkk
      cases h
      cases d <;> simp at hk
      rw [eqA_eq]
      refine ⟨by simp [Instr.sameNow]; rfl, fun e => ?_⟩
      have : a = c := by simpa using e
      subst this; simp [Instr.sameBits]
    · cases h
  · split at h
    · rename_i hkk
      subst hkk
      have := ho.eq _ _ _ h
      subst this
      cases d <;> simp at hk
      refine ⟨by simp [Instr.sameNow, SE.val]; rfl, fun e => ?_⟩
      have e' := of_decide_eq_true e
      try simp only [SE.val] at e'
      simp [Instr.sameBits, SE.val, e']
    · cases h
  · split at h
    · rename_i hkk
      subst hkk
      have := ho.eq _ _ _ h
      subst this
      cases d <;> simp at hk
      refine ⟨by simp [Instr.sameNow, SE.val]; rfl, fun e => ?_⟩
      have e' := of_decide_eq_true e
      try simp only [SE.val] at e'
      simp [Instr.sameBits, SE.val, e']
    · cases h
  · split at h
    · rename_i hkk
      subst hkk
      have := ho.eq _ _ _ h
      subst this
      cases d <;> simp at hk
      refine ⟨by simp [Instr.sameNow, SE.val]; rfl, fun e => ?_⟩
      have e' := of_decide_eq_true e
      try simp only [SE.val] at e'
      simp [Instr.sameBits, SE.val, e']
    · cases h
  · rename_i a c
    cases h
    cases d <;> simp at hk
    rw [bytesEq_eq]
    refine ⟨by simp only [Instr.sameNow, bytes_beq], fun e => ?_⟩
    have : a = c := by simpa using e
    subst this; simp [Instr.sameBits, bytes_beq]
/-- What is found. -/
inductive RelF (E : Env) (k' : Value) (es' : List MapEntry) : Option (Nat × AV) → Option (Nat × Value) → Prop
  | none : RelF E k' es' none none
  | some {j : Nat} {v : AV} {v' : Value} {e' : MapEntry} (h : Rel E v v') (he : es'[j]? = some e') (hb : Instr.sameBits 10000 e'.key k' = true) : RelF E k' es' (some (j, v)) (some (j, v'))
theorem findE_ok (ho : OrcOk O E.ρ) {t : TypeId} {d : TypeDesc} (hd : P.underlying t = some d) {k : AV} {k' : Value} (hk : keyType P t k = true) (hr : Rel E k k') (all : List MapEntry) : ∀ (es : List Ent) {es' : List MapEntry} {n : Nat} {r : Option (Nat × AV)},
    findE O k es n = some r → RelE E es es' → all.drop n = es' → ∃ r', Instr.findNow d k' es' n = some r' ∧ RelF E k' all r r' := by
  intro es
  induction es with
  | nil => intro es' n r h hes _; cases hes; cases h; exact ⟨none, rfl, .none⟩
  | cons e es ih =>
    intro es' n r h hes hall
    cases hes with
    | cons hkey hval hborn ht =>
      rename_i y m
      simp only [findE] at h
      split at h
      · rename_i hq
        cases h
        obtain ⟨h1, h2⟩ := keyEq_ok ho hd hk hq hr hkey
        refine ⟨some (n, y.val), by simp [Instr.findNow, h1], .some hval (e' := y) ?_ (h2 rfl)⟩
        have := congrArg (fun l => l[0]?) hall
        simpa using this
      · rename_i hq
        obtain ⟨h1, _⟩ := keyEq_ok ho hd hk hq hr hkey
        obtain ⟨r', h3, h4⟩ := ih h ht (by rw [← List.drop_drop, hall]; rfl)
        exact ⟨r', by simp [Instr.findNow, h1, h3], h4⟩
      · cases h
theorem checkKey_plain {t : TypeId} {k : AV} {k' : Value} (hk : keyType P t k = true) (hr : Rel E k k') (emp : Bool) : ∀ n, (Instr.checkKey emp (n + 1) t k').run P w = .ok () w := by
  intro n
  unfold keyType at hk
  cases hu : P.underlying t with
  | none => rw [hu] at hk; simp at hk
  | some d =>
    rw [hu] at hk
    cases hr <;> cases d <;> simp at hk <;> simp [Instr.checkKey, und_run hu]
theorem findKey_ok (ho : OrcOk O E.ρ) {t : TypeId} {k : AV} {k' : Value} (hk : keyType P t k = true) (hr : Rel E k k') {es : List Ent} {es' : List MapEntry} {r : Option (Nat × AV)} (h : findE O k es 0 = some r) (hes : RelE E es es') :
    ∃ r', (Instr.findKey t k' es').run P w = .ok r' w ∧ RelF E k' es' r r' := by
  cases hu : P.underlying t with
  | none => unfold keyType at hk; rw [hu] at hk; simp at hk
  | some d =>
    obtain ⟨r', h1, h2⟩ := findE_ok ho hu hk hr es' es h hes rfl
    exact ⟨r', by simp [Instr.findKey, und_run hu, h1], h2⟩
theorem RelS.at : ∀ {S : Stamps} {es : List Ent} {l : List MapEntry}, RelS E S es l → ∀ (j : Nat), (∀ x, es[j]? = some x → ∃ y, l[j]? = some y ∧ Rel E x.key y.key ∧ Rel E x.val y.val ∧ y.born = S.f x.born) ∧ (∀ y, l[j]? = some y → ∃ x, es[j]? = some x ∧ Rel E x.key y.key ∧ Rel E x.val y.val ∧ y.born = S.f x.born)
  | _, _, _, .nil, j => ⟨fun x h => by simp at h, fun x h => by simp at h⟩
  | _, _, _, .cons (x := x) (y := y) h1 h2 h3 t, 0 => ⟨fun x h => by simp at h; subst h; exact ⟨y, rfl, h1, h2, h3⟩, fun z h => by simp at h; subst h; exact ⟨x, rfl, h1, h2, h3⟩⟩
  | _, _, _, .cons h1 h2 h3 t, j + 1 => ⟨fun x h => (t.at j).1 x (by simpa using h), fun x h => (t.at j).2 x (by simpa using h)⟩
theorem findNow_any {d : TypeDesc} {k' : Value} : ∀ (m : List MapEntry) (n : Nat), (∀ e ∈ m, ∃ b, Instr.sameNow d k' e.key = some b) →
    (Instr.findNow d k' m n = some none ∧ ∀ e ∈ m, Instr.sameNow d k' e.key = some false) ∨ ∃ i e, m[i]? = some e ∧ Instr.sameNow d k' e.key = some true ∧ Instr.findNow d k' m n = some (some (n + i, e.val))
  | [], _, _ => .inl ⟨rfl, fun _ h => (by cases h)⟩
  | e :: m, n, h => by
    obtain ⟨b, hb⟩ := h e (List.mem_cons_self ..)
    cases b with
    | true => exact .inr ⟨0, e, rfl, hb, by simp [Instr.findNow, hb]⟩
    | false =>
      rcases findNow_any m (n + 1) (fun x hx => h x (List.mem_cons_of_mem _ hx)) with ⟨h1, h2⟩ | ⟨i, x, h1, h2, h3⟩
      · exact .inl ⟨by simp [Instr.findNow, hb, h1], fun x hx => by
          rcases List.mem_cons.1 hx with rfl | hx
          · exact hb
          · exact h2 x hx⟩
      · exact .inr ⟨i + 1, x, by simpa using h1, h2, by simp only [Instr.findNow, hb, h3]; rw [show n + (i + 1) = n + 1 + i by omega]⟩
theorem noneE_ok (ho : OrcOk O E.ρ) {t : TypeId} {d : TypeDesc} (hd : P.underlying t = some d) {k : AV} {k' : Value} (hk : keyType P t k = true) (hr : Rel E k k') : ∀ {S : Stamps} {es : List Ent} {l : List MapEntry}, noneE O k es = true → RelS E S es l → ∀ e ∈ l, Instr.sameNow d k' e.key = some false
  | _, _, _, _, .nil => fun e h => (by cases h)
  | _, _, _, h, .cons h1 h2 h3 t => by
    simp only [noneE] at h
    split at h
    · rename_i hq
      intro e he
      rcases List.mem_cons.1 he with rfl | he
      · exact (keyEq_ok ho hd hk hq hr h1).1
      · exact noneE_ok ho hd hk hr h t e he
    · cases h
theorem findU_some (ho : OrcOk O E.ρ) {t : TypeId} {d : TypeDesc} (hd : P.underlying t = some d) {k : AV} {k' : Value} (hk : keyType P t k = true) (hr : Rel E k k') : ∀ {S : Stamps} {es : List Ent} {l : List MapEntry} {n : Nat} {r : Option (Nat × AV)}, findU O k es n = some r → RelS E S es l →
    (∀ e ∈ l, ∃ b, Instr.sameNow d k' e.key = some b) ∧ ((r = none ∧ ∀ e ∈ l, Instr.sameNow d k' e.key = some false) ∨ ∃ j x y, r = some (n + j, x.val) ∧ es[j]? = some x ∧ l[j]? = some y ∧ Rel E x.val y.val ∧ Instr.sameBits 10000 y.key k' = true ∧ Instr.sameNow d k' y.key = some true ∧ ∀ e ∈ l, Instr.sameNow d k' e.key = some true → e = y) := by
  intro S es l n r h hes
  induction hes generalizing n r with
  | nil => cases h; exact ⟨fun e h => (by cases h), .inl ⟨rfl, fun e h => (by cases h)⟩⟩
  | @cons x y es l h1 h2 h3 t ih =>
    simp only [findU] at h
    split at h
    · rename_i hq
      obtain ⟨hn, h'⟩ := bc_some h
      cases h'
      obtain ⟨q1, q2⟩ := keyEq_ok ho hd hk hq hr h1
      have hno := noneE_ok ho hd hk hr hn t
      refine ⟨fun e he => ?_, .inr ⟨0, x, y, rfl, rfl, rfl, h2, q2 rfl, q1, fun e he hs => ?_⟩⟩
      · rcases List.mem_cons.1 he with rfl | he
        · exact ⟨_, q1⟩
        · exact ⟨_, hno e he⟩
      · rcases List.mem_cons.1 he with rfl | he
        · rfl
        · rw [hno e he] at hs; cases hs
    · rename_i hq
      have q1 := (keyEq_ok ho hd hk hq hr h1).1
      obtain ⟨p1, p2⟩ := ih h
      refine ⟨fun e he => ?_, ?_⟩
      · rcases List.mem_cons.1 he with rfl | he
        · exact ⟨_, q1⟩
        · exact p1 e he
      · rcases p2 with ⟨rfl, p2⟩ | ⟨j, u, v, rfl, p3, p4, p5, p6, p7, p8⟩
        · refine .inl ⟨rfl, fun e he => ?_⟩
          rcases List.mem_cons.1 he with rfl | he
          · exact q1
          · exact p2 e he
        · refine .inr ⟨j + 1, u, v, by rw [Nat.add_assoc, Nat.add_comm 1 j], by simpa using p3, by simpa using p4, p5, p6, p7, fun e he hs => ?_⟩
          rcases List.mem_cons.1 he with rfl | he
          · rw [q1] at hs; cases hs
          · exact p8 e he hs
    · cases h
/-- What is found where no order is known. -/
inductive RelU (E : Env) (k' : Value) (es : List Ent) (l m : List MapEntry) : Option (Nat × AV) → Option (Nat × Value) → Prop
  | none : RelU E k' es l m none none
  | some {j i : Nat} {x : Ent} {y : MapEntry} (hj : es[j]? = some x) (hl : l[j]? = some y) (hm : m[i]? = some y) (h : Rel E x.val y.val) (hb : Instr.sameBits 10000 y.key k' = true) : RelU E k' es l m (some (j, x.val)) (some (i, y.val))
theorem findKeyU_ok (ho : OrcOk O E.ρ) {t : TypeId} {k : AV} {k' : Value} (hk : keyType P t k = true) (hr : Rel E k k') {S : Stamps} {es : List Ent} {l m : List MapEntry} {r : Option (Nat × AV)} (h : findU O k es 0 = some r) (hes : RelS E S es l) (hp : l.Perm m) :
    ∃ r', (Instr.findKey t k' m).run P w = .ok r' w ∧ RelU E k' es l m r r' := by
  cases hu : P.underlying t with
  | none => unfold keyType at hk; rw [hu] at hk; simp at hk
  | some d =>
    obtain ⟨h1, h2⟩ := findU_some ho hu hk hr h hes
    have h1' : ∀ e ∈ m, ∃ b, Instr.sameNow d k' e.key = some b := fun e he => h1 e (hp.mem_iff.2 he)
    rcases findNow_any m 0 h1' with ⟨q1, q2⟩ | ⟨i, e, q1, q2, q3⟩
    · rcases h2 with ⟨rfl, _⟩ | ⟨j, x, y, rfl, p3, p4, p5, p6, p7, p8⟩
      · exact ⟨none, by simp [Instr.findKey, und_run hu, q1], .none⟩
      · have := q2 y (hp.mem_iff.1 (List.mem_of_getElem? p4))
        rw [p7] at this; cases this
    · rcases h2 with ⟨rfl, hno⟩ | ⟨j, x, y, rfl, p3, p4, p5, p6, p7, p8⟩
      · have := hno e (hp.mem_iff.2 (List.mem_of_getElem? q1))
        rw [q2] at this; cases this
      · obtain rfl := p8 e (hp.mem_iff.2 (List.mem_of_getElem? q1)) q2
        rw [Nat.zero_add] at q3 ⊢
        exact ⟨some (i, e.val), by simp [Instr.findKey, und_run hu, q3], .some p3 p4 q1 p5 p6⟩
theorem checkKey_fields {fs : List Field} {l : List AV} {a : Array Value} (emp : Bool) (n : Nat) (h : plainFields P l fs = true) (hr : RelL E l a.toList) :
    (forIn fs PUnit.unit (fun f _ => (do
      if f.name ≠ "_" then Instr.checkKey emp (n + 1) f.type (← part f.type a f.offset)
      pure (ForInStep.yield PUnit.unit) : Sem (ForInStep PUnit)))).run P w = .ok PUnit.unit w := by
  induction fs with
  | nil => rfl
  | cons f fs ih =>
    simp only [plainFields, Bool.and_eq_true] at h
    obtain ⟨⟨h1, h2⟩, h3⟩ := h
    have hstep : (do
      if f.name ≠ "_" then Instr.checkKey emp (n + 1) f.type (← part f.type a f.offset)
      pure (ForInStep.yield PUnit.unit) : Sem (ForInStep PUnit)).run P w = .ok (ForInStep.yield PUnit.unit) w := by
      cases hx : nth l f.offset with
      | none => rw [hx] at h2; cases h2
      | some x =>
        rw [nth_get] at hx
        obtain ⟨x', hx', hrx⟩ := hr.nth hx
        rw [Array.getElem?_toList] at hx'
        unfold plainT at h1
        cases hu : P.underlying f.type with
        | none => rw [hu] at h1; cases h1
        | some d =>
          rw [hu] at h1
          have hpart : (part f.type a f.offset).run P w = .ok x' w := by
            cases d <;> simp at h1 <;> simp [part, isAgg, und_run hu, hx']
          have hck : (Instr.checkKey emp (n + 1) f.type x').run P w = .ok () w := by
            cases d <;> simp at h1 <;> simp [Instr.checkKey, und_run hu]
          by_cases hn : f.name = "_"
          · simp [hn]
          · simp [hn, hpart, hck]
    simp only [List.forIn_cons, Sem.run_bind, hstep, Result.andThen_ok]
    exact ih h3
theorem checkKey_struct {t : TypeId} {k : AV} {k' : Value} (hk : plainKey P t k = true) (hr : Rel E k k') (emp : Bool) : ∀ n, (Instr.checkKey emp (n + 1 + 1) t k').run P w = .ok () w := by
  intro n
  unfold plainKey at hk
  split at hk
  · rename_i fs l hu
    cases hr
    rename_i a ha
    have := checkKey_fields (P := P) (w := w) emp n hk ha
    generalize n + 1 = m at this ⊢
    simp only [Instr.checkKey, Sem.run_bind, und_run hu, Result.andThen_ok]
    rw [← Array.forIn_toList]
    simp at this ⊢
    rw [this]; rfl
  · cases hk
theorem lookupFin_ok {e : TypeId} {ok : Bool} {r : Option (Nat × AV)} {r' : Option (Nat × Value)} {k' : Value} {es' : List MapEntry} (h : lookupFin P e ok r s = some (v, s')) (hr : RelF E k' es' r r') :
    s' = s ∧ ∃ v', ((match r' with | some (_, v) => pure (v, true) | none => do pure (← zeroValue e, false) : Sem (Value × Bool)) >>= fun p => pure (if ok then .tuple #[p.1, .bool p.2] else p.1)).run P w = .ok v' w ∧ Rel E v v' := by
  cases hr with
  | none =>
    obtain ⟨z, hz, h⟩ := oc_some h
    cases h
    obtain ⟨zv, hzr, hzrel⟩ := zeroOf_run hz
    refine ⟨rfl, ?_⟩
    cases ok with
    | true => exact ⟨_, by simp [hzr], .tuple (.cons (hzrel E) (.cons (.bool _) .nil))⟩
    | false => exact ⟨_, by simp [hzr], hzrel E⟩
  | some hv he hb =>
    cases h
    refine ⟨rfl, ?_⟩
    cases ok with
    | true => exact ⟨_, by simp, .tuple (.cons hv (.cons (.bool _) .nil))⟩
    | false => exact ⟨_, by simp, hv⟩
theorem keyEq_same (ho : OrcOk O E.ρ) {x y : AV} {x' y' : Value} (h0 : isTrueO (keyEq O x y) = true) (hx : Rel E x x') (hy : Rel E y y') (n : Nat) : Instr.sameBits n y' x' = true := by
  have h : keyEq O x y = some true := by
    unfold isTrueO at h0
    split at h0
    · rename_i b hb
      rw [hb, h0]
    · cases h0
  clear h0
  cases hx <;> cases hy <;> simp only [keyEq] at h <;> first | (cases h; done) | skip
  · rename_i a c
    have : a = c := by simpa using h
    subst this; simp [Instr.sameBits]
  · rename_i k a k' c
    split at h
    · rename_i hkk
      subst hkk
      have h2 := Option.some.inj h
      rw [eqA_eq] at h2
      have : a = c := by simpa using h2
      subst this; simp [Instr.sameBits]
    · cases h
  · split at h
    · rename_i hkk
      subst hkk
      have e' := of_decide_eq_true (ho.eq _ _ _ h).symm
      try simp only [SE.val] at e'
      simp [Instr.sameBits, SE.val, e']
    · cases h
  · split at h
    · rename_i hkk
      subst hkk
      have e' := of_decide_eq_true (ho.eq _ _ _ h).symm
      try simp only [SE.val] at e'
      simp [Instr.sameBits, SE.val, e']
    · cases h
  · split at h
    · rename_i hkk
      subst hkk
      have e' := of_decide_eq_true (ho.eq _ _ _ h).symm
      try simp only [SE.val] at e'
      simp [Instr.sameBits, SE.val, e']
    · cases h
  · rename_i a c
    have h2 := Option.some.inj h
    rw [bytesEq_eq] at h2
    have : a = c := by simpa using h2
    subst this; simp [Instr.sameBits, bytes_beq]
theorem cellsEq_ok (ho : OrcOk O E.ρ) (n : Nat) : ∀ {l b : List AV} {xs ys : List Value}, cellsEq O l b = true → RelL E l xs → RelL E b ys → ys.length = xs.length ∧ ((ys.zip xs).all fun p => Instr.sameBits n p.1 p.2) = true
  | [], [], _, _, _, .nil, .nil => ⟨rfl, rfl⟩
  | x :: l, y :: b, _, _, h, .cons h1 t1, .cons h2 t2 => by
    simp only [cellsEq, Bool.and_eq_true] at h
    obtain ⟨q1, q2⟩ := cellsEq_ok ho n h.2 t1 t2
    refine ⟨by simp [q1], ?_⟩
    simp only [List.zip_cons_cons, List.all_cons, Bool.and_eq_true]
    exact ⟨keyEq_same ho h.1 h1 h2 n, q2⟩
  | [], _ :: _, _, _, h, _, _ => by cases h
  | _ :: _, [], _, _, h, _, _ => by cases h
theorem findG_ok (ho : OrcOk O E.ρ) {t : TypeId} {l : List AV} {a : Array Value} (hr : RelL E l a.toList) (all : List MapEntry) : ∀ (es : List Ent) {es' : List MapEntry} {n : Nat} {r : Option (Nat × AV)},
    findG O P t l es n = some r → RelE E es es' → all.drop n = es' → ∃ r', (Instr.findAsking t (.agg a) es' n).run P w = .ok r' w ∧ RelF E (.agg a) all r r' := by
  intro es
  induction es with
  | nil => intro es' n r h hes _; cases hes; cases h; exact ⟨none, by simp [Instr.findAsking], .none⟩
  | cons e es ih =>
    intro es' n r h hes hall
    cases hes with
    | cons hkey hval hborn ht =>
      rename_i y m
      simp only [findG] at h
      split at h
      case h_2 => cases h
      rename_i b hkb
      rw [hkb] at hkey
      obtain ⟨c, hc, hrc⟩ : ∃ c, y.key = .agg c ∧ RelL E b c.toList := by
        generalize y.key = z at hkey
        cases hkey
        exact ⟨_, rfl, by assumption⟩
      split at h
      · rename_i hq
        obtain ⟨hce, h'⟩ := bc_some h
        cases h'
        have q := (eqAgg_ok ho hq hr hrc w).1
        obtain ⟨s1, s2⟩ := cellsEq_ok ho 9999 hce hr hrc
        refine ⟨some (n, y.val), by simp [Instr.findAsking, hc, q], .some hval (e' := y) ?_ ?_⟩
        · have := congrArg (fun l => l[0]?) hall
          simpa using this
        · rw [hc]
          have s1 : c.size = a.size := by simpa using s1
          simp only [Instr.sameBits, s1, beq_self_eq_true, Bool.true_and]
          exact s2
      · rename_i hq
        have q := (eqAgg_ok ho hq hr hrc w).1
        obtain ⟨r', h3, h4⟩ := ih h ht (by rw [← List.drop_drop, hall]; rfl)
        exact ⟨r', by simp [Instr.findAsking, hc, q, h3], h4⟩
      · cases h
theorem findKeyS_ok (ho : OrcOk O E.ρ) {t : TypeId} {k : AV} {k' : Value} (hk : (keyType P t k || plainKey P t k) = true) (hr : Rel E k k') {es : List Ent} {es' : List MapEntry} {r : Option (Nat × AV)} (h : findS O P t k es = some r) (hes : RelE E es es') :
    ∃ r', (Instr.findKey t k' es').run P w = .ok r' w ∧ RelF E k' es' r r' := by
  unfold findS at h
  cases hkt : keyType P t k with
  | true =>
    rw [hkt, bi_true] at h
    exact findKey_ok ho hkt hr h hes
  | false =>
    rw [hkt, bi_false] at h
    rw [hkt, Bool.false_or] at hk
    split at h
    case h_2 => cases h
    rename_i l
    cases hr
    rename_i a hra
    cases hu : P.underlying t with
    | none => unfold plainKey at hk; rw [hu] at hk; simp at hk
    | some d =>
      have hd : ∃ fs, d = .struct fs := by
        unfold plainKey at hk
        rw [hu] at hk
        cases d <;> first | exact ⟨_, rfl⟩ | (simp at hk)
      obtain ⟨fs, rfl⟩ := hd
      obtain ⟨r', h1, h2⟩ := findG_ok (w := w) ho hra es' es h hes rfl
      refine ⟨r', ?_, h2⟩
      cases es' with
      | nil =>
        simp [Instr.findAsking] at h1
        simp [Instr.findKey, und_run hu, Instr.findNow, h1]
      | cons e m =>
        have hn : Instr.findNow (.struct fs) (.agg a) (e :: m) 0 = none := by simp [Instr.findNow, Instr.sameNow]
        simp [Instr.findKey, und_run hu, hn, h1]
theorem checkKeyS {t : TypeId} {k : AV} {k' : Value} (hk : (keyType P t k || plainKey P t k) = true) (hr : Rel E k k') (emp : Bool) : (Instr.checkKey emp 10000 t k').run P w = .ok () w := by
  rcases Bool.or_eq_true _ _ ▸ hk with hk | hk
  · exact checkKey_plain hk hr emp 9999
  · exact checkKey_struct hk hr emp 9998
end
end Ev
end Go.Proofs.YtnjpdipombnigaaGreatDoor
namespace Go.Proofs.YtnjpdipombnigaaGreatDoor
namespace Ev
open Go.RowKit

section
variable {P : Program} {G : Nat → Prop} {B : Nat} {E : Env} {s s' : St} {w : World} {v : AV}

theorem Sat.map (h : Sat G B E s w) {i b : Nat} {es : List Ent} {clock : Nat} (hg : G i) (ho : s.h.get i = some (.map es clock)) (hb : (E i).at b) :
    ∃ C a, E i = .live b C ∧ w.heap[b]? = some (.map a clock) ∧ RelE E es a.toList := by
  obtain ⟨b', C, ob, he, hh, hok, _⟩ := h.fact i _ hg ho
  obtain ⟨a, rfl, hr⟩ := hok
  obtain rfl := h.at_live he hb
  exact ⟨C, a, he, hh, hr⟩
theorem Sat.umap (h : Sat G B E s w) {i b : Nat} {es : List Ent} {K t : Nat} (hg : G i) (ho : s.h.get i = some (.umap es K t)) (hb : (E i).at b) :
    ∃ C a, E i = .live b C ∧ w.heap[b]? = some (.map a ((E.st t).f K)) ∧ AnyMap E es K t a := by
  obtain ⟨b', C, ob, he, hh, hok, _⟩ := h.fact i _ hg ho
  obtain ⟨a, rfl, hr⟩ := hok
  obtain rfl := h.at_live he hb
  exact ⟨C, a, he, hh, hr⟩
theorem mapU_some {β : Type} {o : AObj} {k : List Ent → Nat → Option β} {u : List Ent → Nat → Nat → Option β} {r : β} (h : mapU o k u = some r) : (∃ es clock, o = .map es clock ∧ k es clock = some r) ∨ ∃ es clock t, o = .umap es clock t ∧ u es clock t = some r := by
  cases o <;> first | (cases h; done) | exact .inl ⟨_, _, rfl, h⟩ | exact .inr ⟨_, _, _, rfl, h⟩
theorem iterU_some {β : Type} {o : AObj} {k : Option Nat → Nat → List Nat → Nat → Option β} {u : Nat → Nat → List Nat → Nat → Nat → Option β} {r : β} (h : iterU o k u = some r) : (∃ m a b c, o = .iter m a b c ∧ k m a b c = some r) ∨ ∃ m a b c t, o = .uiter m a b c t ∧ u m a b c t = some r := by
  cases o <;> first | (cases h; done) | exact .inl ⟨_, _, _, _, rfl, h⟩ | exact .inr ⟨_, _, _, _, _, rfl, h⟩
theorem perm_at {α : Type} : ∀ {l : List α} {j : Nat} {y : α}, l[j]? = some y → l.Perm (y :: l.eraseIdx j) ∧ ∀ g : α → α, (l.modify j g).Perm (g y :: l.eraseIdx j)
  | [], j, y, h => by simp at h
  | x :: l, 0, y, h => by
    simp at h; subst h
    exact ⟨.refl _, fun g => .refl _⟩
  | x :: l, j + 1, y, h => by
    obtain ⟨a, b⟩ := perm_at (l := l) (j := j) (y := y) (by simpa using h)
    exact ⟨(a.cons x).trans (.swap y x _), fun g => ((b g).cons x).trans (.swap (g y) x _)⟩
theorem perm_two {α : Type} {l m : List α} {j i : Nat} {y : α} (h : l.Perm m) (hj : l[j]? = some y) (hi : m[i]? = some y) : (l.eraseIdx j).Perm (m.eraseIdx i) ∧ ∀ g : α → α, (l.modify j g).Perm (m.modify i g) := by
  obtain ⟨a1, a2⟩ := perm_at hj
  obtain ⟨b1, b2⟩ := perm_at hi
  have e : (l.eraseIdx j).Perm (m.eraseIdx i) := ((a1.symm.trans h).trans b1).cons_inv
  exact ⟨e, fun g => (a2 g).trans ((e.cons (g y)).trans (b2 g).symm)⟩
theorem setE_born (k v : AV) : ∀ (j : Nat) (es : List Ent), (setE j k v es).map Ent.born = es.map Ent.born
  | j, [] => by cases j <;> rfl
  | 0, e :: es => rfl
  | j + 1, e :: es => by simp [setE, setE_born k v j es]
theorem delE_sub : ∀ (j : Nat) (es : List Ent), (delE j es).Sublist es
  | j, [] => by cases j <;> exact .slnil
  | 0, e :: es => List.sublist_cons_self ..
  | j + 1, e :: es => (delE_sub j es).cons_cons e
theorem setES_ok {S : Stamps} {k x : AV} {k' x' : Value} (hk : Rel E k k') (hx : Rel E x x') : ∀ (j : Nat) {es : List Ent} {l : List MapEntry}, RelS E S es l → RelS E S (setE j k x es) (l.modify j fun e => { e with key := k', val := x' })
  | _, _, _, .nil => by cases ‹Nat› <;> exact .nil
  | 0, _, _, .cons h1 h2 h3 t => .cons hk hx h3 t
  | j + 1, _, _, .cons h1 h2 h3 t => .cons h1 h2 h3 (setES_ok hk hx j t)
theorem delES_ok {S : Stamps} : ∀ (j : Nat) {es : List Ent} {l : List MapEntry}, RelS E S es l → RelS E S (delE j es) (l.eraseIdx j)
  | _, _, _, .nil => by cases ‹Nat› <;> exact .nil
  | 0, _, _, .cons h1 h2 h3 t => t
  | j + 1, _, _, .cons h1 h2 h3 t => .cons h1 h2 h3 (delES_ok j t)
theorem RelS.append {S : Stamps} : ∀ {a c : List Ent} {b d : List MapEntry}, RelS E S a b → RelS E S c d → RelS E S (a ++ c) (b ++ d)
  | _, _, _, _, .nil, k => k
  | _, _, _, _, .cons h1 h2 h3 t, k => .cons h1 h2 h3 (t.append k)
theorem AnyMap.set {es : List Ent} {K t : Nat} {a : Array MapEntry} {l : List MapEntry} (h : AnyMap E es K t a) (hp : l.Perm a.toList) (hl : RelS E (E.st t) es l) {j i : Nat} {y : MapEntry} (hj : l[j]? = some y) (hi : a.toList[i]? = some y) {k x : AV} {k' x' : Value} (hk : Rel E k k') (hx : Rel E x x') :
    AnyMap E (setE j k x es) K t (a.modify i fun e => { e with key := k', val := x' }) := by
  refine ⟨h.tag, h.le, fun e he => ?_, by rw [setE_born]; exact h.once, _, ?_, setES_ok hk hx j hl⟩
  · have : e.born ∈ (setE j k x es).map Ent.born := List.mem_map_of_mem he
    rw [setE_born] at this
    obtain ⟨e0, h0, h1⟩ := List.mem_map.1 this
    rw [← h1]; exact h.lt e0 h0
  · rw [Array.toList_modify]; exact (perm_two hp hj hi).2 _
theorem AnyMap.del {es : List Ent} {K t : Nat} {a : Array MapEntry} {l : List MapEntry} (h : AnyMap E es K t a) (hp : l.Perm a.toList) (hl : RelS E (E.st t) es l) {j i : Nat} {y : MapEntry} (hj : l[j]? = some y) (hi : a.toList[i]? = some y) :
    AnyMap E (delE j es) K t (a.eraseIdxIfInBounds i) := by
  refine ⟨h.tag, h.le, fun e he => h.lt e ((delE_sub j es).subset he), h.once.sublist ((delE_sub j es).map _), _, ?_, delES_ok j hl⟩
  rw [Array.toList_eraseIdxIfInBounds]; exact (perm_two hp hj hi).1
theorem AnyMap.push {es : List Ent} {K t : Nat} {a : Array MapEntry} (h : AnyMap E es K t a) {k x : AV} {k' x' : Value} (hk : Rel E k k') (hx : Rel E x x') :
    AnyMap E (es ++ [⟨k, x, K⟩]) (K + 1) t (a.push { key := k', val := x', born := (E.st t).f K }) := by
  obtain ⟨l, hp, hl⟩ := h.rel
  refine ⟨h.tag, Nat.le_succ_of_le h.le, fun e he => ?_, ?_, l ++ [{ key := k', val := x', born := (E.st t).f K }], ?_, hl.append (.cons hk hx rfl .nil)⟩
  · rcases List.mem_append.1 he with he | he
    · exact Nat.lt_succ_of_lt (h.lt e he)
    · rw [List.mem_singleton] at he; subst he; exact Nat.lt_succ_self K
  · rw [List.map_append, List.nodup_append]
    refine ⟨h.once, by simp, fun a ha b hb => ?_⟩
    simp at hb
    obtain ⟨e0, h0, h1⟩ := List.mem_map.1 ha
    have := h.lt e0 h0
    omega
  · rw [Array.toList_push]; exact hp.append_right _
theorem mapC_some {β : Type} {o : AObj} {k : List Ent → Nat → Option β} {r : β} (h : mapC o k = some r) : ∃ es clock, o = .map es clock ∧ k es clock = some r := by
  cases o <;> first | (cases h; done) | exact ⟨_, _, rfl, h⟩
theorem iterC_some {β : Type} {o : AObj} {k : Option Nat → Nat → List Nat → Nat → Option β} {r : β} (h : iterC o k = some r) : ∃ m a b c, o = .iter m a b c ∧ k m a b c = some r := by
  cases o <;> first | (cases h; done) | exact ⟨_, _, _, _, rfl, h⟩
theorem siterC_some {β : Type} {o : AObj} {k : List UInt8 → Nat → Option β} {r : β} (h : siterC o k = some r) : ∃ l pos, o = .siter l pos ∧ k l pos = some r := by
  cases o <;> first | (cases h; done) | exact ⟨_, _, rfl, h⟩
theorem ptrC_some {β : Type} {x : AV} {k : Nat → Nat → Option β} {r : β} (h : x.ptrC k = some r) : ∃ i off, x = .ptr i off ∧ k i off = some r := by
  cases x <;> first | (cases h; done) | exact ⟨_, _, rfl, h⟩

theorem lookupA_ok {t : TypeId} {m k : AV} {ok : Bool} (h : lookupA P t m k ok s = some (v, s')) :
    Step s s' ∧ ∀ {G B E w m' k'}, (∀ j, In s'.l j → G j) → Sat G B E s w → Rel E m m' → Rel E k k' → Ok1 P G B s' v E w (Instr.lookup t m' k' ok) := by
  unfold lookupA at h
  split at h
  case h_2 => cases h
  rename_i kt e hu
  split at h
  · obtain ⟨hk, h1⟩ := bc_some h
    clear h
    have hs' : s' = s := by
      unfold lookupFin at h1
      obtain ⟨z, _, h2⟩ := oc_some h1
      cases h2; rfl
    subst hs'
    refine ⟨Step.refl _, fun {G B E w m' k'} hG hs hm hkr => ?_⟩
    cases hm
    obtain ⟨_, v', hrun, hv⟩ := lookupFin_ok (P := P) (w := w) (E := E) (k' := k') (es' := []) h1 .none
    refine Ok1.pure hs (v' := v') ?_ hv
    have hck : (Instr.checkKey true 10000 kt k').run P w = .ok () w := by
      rcases Bool.or_eq_true _ _ ▸ hk with hk | hk
      · exact checkKey_plain hk hkr true 9999
      · exact checkKey_struct hk hkr true 9998
    have hfind : (Instr.findKey kt k' []).run P w = .ok none w := by
      simp only [Instr.findKey]
      cases hkt : P.underlying kt with
      | none =>
        rcases Bool.or_eq_true _ _ ▸ hk with hk | hk
        · unfold keyType at hk; rw [hkt] at hk; simp at hk
        · unfold plainKey at hk; rw [hkt] at hk; simp at hk
      | some d => simp [und_run hkt, Instr.findNow]
    simp only [Instr.lookup, Sem.run_bind, und_run hu, Result.andThen_ok, Sem.run_pure, List.isEmpty_toArray, List.isEmpty_nil, hck, hfind]
    simpa using hrun
  · rename_i i
    obtain ⟨hk, h1⟩ := bc_some h
    obtain ⟨o, ho, h2⟩ := oc_some h1
    rcases mapU_some h2 with ⟨es, clock, rfl, h3⟩ | ⟨es, K, t', rfl, h3⟩
    · skip
      obtain ⟨r, hr, h4⟩ := oc_some h3
      clear h h1 h2 h3
      have hs' : s' = s.see i := by
        unfold lookupFin at h4
        split at h4
        · cases h4; rfl
        · obtain ⟨z, _, h5⟩ := oc_some h4
          cases h5; rfl
      subst hs'
      refine ⟨Step.see _ _, fun {G B E w m' k'} hG hs hm hkr => ?_⟩
      cases hm
      rename_i b hb
      obtain ⟨C, a, he, hh, hes⟩ := hs.map (hG _ (in_see _ _)) ho hb
      obtain ⟨r', hfind, hrf⟩ := findKeyS_ok (P := P) (w := w) hs.orc hk hkr hr hes
      obtain ⟨_, v', hrun, hv⟩ := lookupFin_ok (P := P) (w := w) h4 hrf
      refine Ok1.pure (hs.seen i) (v' := v') ?_ hv
      have hget := run_getObj_of (P := P) hh (fun _ _ _ e => by cases e)
      have hck : ∀ emp, (Instr.checkKey emp 10000 kt k').run P w = .ok () w := fun emp => checkKeyS hk hkr emp
      simp only [Instr.lookup, Sem.run_bind, und_run hu, Result.andThen_ok, hget, Sem.run_pure, hck, hfind]
      cases r' <;> simpa using hrun
    · obtain ⟨hk, h3⟩ := bc_some h3
      obtain ⟨r, hr, h4⟩ := oc_some h3
      clear h h1 h2 h3
      have hs' : s' = s.see i := by
        unfold lookupFin at h4
        split at h4
        · cases h4; rfl
        · obtain ⟨z, _, h5⟩ := oc_some h4
          cases h5; rfl
      subst hs'
      refine ⟨Step.see _ _, fun {G B E w m' k'} hG hs hm hkr => ?_⟩
      cases hm
      rename_i b hb
      obtain ⟨C, a, he, hh, hes⟩ := hs.umap (hG _ (in_see _ _)) ho hb
      obtain ⟨l, hp, hl⟩ := hes.rel
      obtain ⟨r', hfind, hru⟩ := findKeyU_ok (P := P) (w := w) hs.orc hk hkr hr hl hp
      obtain ⟨r2, h42, hrf⟩ : ∃ r2, lookupFin P e ok r2 (s.see i) = some (v, s.see i) ∧ RelF E k' a.toList r2 r' := by
        cases hru with
        | none => exact ⟨none, h4, .none⟩
        | @some j i x y q1 q2 q3 q4 q5 => exact ⟨some (i, x.val), h4, .some q4 q3 q5⟩
      obtain ⟨_, v', hrun, hv⟩ := lookupFin_ok (P := P) (w := w) h42 hrf
      refine Ok1.pure (hs.seen i) (v' := v') ?_ hv
      have hget := run_getObj_of (P := P) hh (fun _ _ _ e => by cases e)
      have hck : ∀ emp, (Instr.checkKey emp 10000 kt k').run P w = .ok () w := fun emp => checkKey_plain hk hkr emp 9999
      simp only [Instr.lookup, Sem.run_bind, und_run hu, Result.andThen_ok, hget, Sem.run_pure, hck, hfind]
      cases r' <;> simpa using hrun
  · cases h
theorem RelE.get : ∀ {es : List Ent} {es' : List MapEntry}, RelE E es es' → es.length = es'.length
  | _, _, .nil => rfl
  | _, _, .cons _ _ _ t => by simp [t.get]
theorem RelE.append : ∀ {a c : List Ent} {b d : List MapEntry}, RelE E a b → RelE E c d → RelE E (a ++ c) (b ++ d)
  | _, _, _, _, .nil, k => k
  | _, _, _, _, .cons h1 h2 h3 t, k => .cons h1 h2 h3 (t.append k)
theorem setE_ok {k x : AV} {k' x' : Value} (hk : Rel E k k') (hx : Rel E x x') : ∀ (j : Nat) {es : List Ent} {es' : List MapEntry}, RelE E es es' → RelE E (setE j k x es) (es'.modify j fun e => { e with key := k', val := x' })
  | _, _, _, .nil => by cases ‹Nat› <;> exact .nil
  | 0, _, _, .cons h1 h2 h3 t => .cons hk hx h3 t
  | j + 1, _, _, .cons h1 h2 h3 t => .cons h1 h2 h3 (setE_ok hk hx j t)
theorem delE_ok : ∀ (j : Nat) {es : List Ent} {es' : List MapEntry}, RelE E es es' → RelE E (delE j es) (es'.eraseIdx j)
  | _, _, _, .nil => by cases ‹Nat› <;> exact .nil
  | 0, _, _, .cons h1 h2 h3 t => t
  | j + 1, _, _, .cons h1 h2 h3 t => .cons h1 h2 h3 (delE_ok j t)
theorem mapUpdateA_ok {t : TypeId} {m k x : AV} (h : mapUpdateA P t m k x s = some (v, s')) :
    Step s s' ∧ v = undefA ∧ ∀ {G B E w m' k' x'}, (∀ j, In s'.l j → G j) → Sat G B E s w → Rel E m m' → Rel E k k' → Rel E x x' → ∃ w', (Instr.mapUpdate t m' k' x').run P w = .ok () w' ∧ Sat G B E s' w' ∧ Ext B s'.w E E w w' := by
  unfold mapUpdateA at h
  split at h
  case h_2 => cases h
  rename_i kt e hu
  split at h
  case h_2 => cases h
  rename_i i
  obtain ⟨hk, h1⟩ := bc_some h
  obtain ⟨o, ho, h2⟩ := oc_some h1
  rcases mapU_some h2 with ⟨es, clock, rfl, h3⟩ | ⟨es, K, t', rfl, h3⟩
  · skip
    obtain ⟨r, hr, h4⟩ := oc_some h3
    clear h h1 h2 h3
    have key : ∀ {G B E w k' m'}, (G i) → Sat G B E s w → Rel E (.map i) m' → Rel E k k' → ∃ b C a r', m' = .map (some b) ∧ E i = .live b C ∧ w.heap[b]? = some (.map a clock) ∧ RelE E es a.toList ∧ (Instr.findKey kt k' a.toList).run P w = .ok r' w ∧ RelF E k' a.toList r r' ∧
        (getObj b).run P w = .ok (.map a clock) w ∧ (∀ emp, (Instr.checkKey emp 10000 kt k').run P w = .ok () w) := by
      intro G B E w k' m' hg hs hm hkr
      cases hm
      rename_i b hb
      obtain ⟨C, a, he, hh, hes⟩ := hs.map hg ho hb
      obtain ⟨r', hfind, hrf⟩ := findKeyS_ok (P := P) (w := w) hs.orc hk hkr hr hes
      exact ⟨b, C, a, r', rfl, he, hh, hes, hfind, hrf, run_getObj_of hh (fun _ _ _ e => by cases e), fun emp => checkKeyS hk hkr emp⟩
    split at h4
    · rename_i j vv
      cases h4
      refine ⟨Step.set _ _ _, rfl, fun {G B E w m' k' x'} hG hs hm hkr hx => ?_⟩
      have hgi := hG _ (in_set _ _ _)
      obtain ⟨b, C, a, r', rfl, he, hh, hes, hfind, hrf, hget, hck⟩ := key hgi hs hm hkr
      cases hrf with
      | some hv hej hsame =>
        rename_i v' e'
        have haj : a[j]? = some e' := by rw [← Array.getElem?_toList]; exact hej
        have hset : OkObj E i (.map (setE j k x es) clock) (.map (a.modify j fun e => { e with key := k', val := x' }) clock) := ⟨_, rfl, by
          have := setE_ok hkr hx j hes
          rwa [Array.toList_modify]⟩
        obtain ⟨k1, k2⟩ := hs.write hgi ho rfl he hset
        refine ⟨_, ?_, k1, k2⟩
        have hst := run_setObj_of (P := P) (.map (a.modify j fun e => { e with key := k', val := x' }) clock) hh (fun _ _ _ e => by cases e)
        simp only [Instr.mapUpdate, Sem.run_bind, und_run hu, Result.andThen_ok, hget, hck, hfind, haj, Option.map_some, Option.getD_some, Instr.keyThatStays, hsame, if_true, Sem.run_pure]
        exact hst
    · cases h4
      refine ⟨Step.set _ _ _, rfl, fun {G B E w m' k' x'} hG hs hm hkr hx => ?_⟩
      have hgi := hG _ (in_set _ _ _)
      obtain ⟨b, C, a, r', rfl, he, hh, hes, hfind, hrf, hget, hck⟩ := key hgi hs hm hkr
      cases hrf
      have hset : OkObj E i (.map (es ++ [⟨k, x, clock⟩]) (clock + 1)) (.map (a.push { key := k', val := x', born := clock }) (clock + 1)) := ⟨_, rfl, by
        rw [Array.toList_push]
        exact hes.append (.cons hkr hx rfl .nil)⟩
      obtain ⟨k1, k2⟩ := hs.write hgi ho rfl he hset
      refine ⟨_, ?_, k1, k2⟩
      have hst := run_setObj_of (P := P) (.map (a.push { key := k', val := x', born := clock }) (clock + 1)) hh (fun _ _ _ e => by cases e)
      simp only [Instr.mapUpdate, Sem.run_bind, und_run hu, Result.andThen_ok, hget, hck, hfind]
      exact hst
  · obtain ⟨hk, h3⟩ := bc_some h3
    obtain ⟨r, hr, h4⟩ := oc_some h3
    clear h h1 h2 h3
    have key : ∀ {G B E w k' m'}, (G i) → Sat G B E s w → Rel E (.map i) m' → Rel E k k' → ∃ b C a r' l, m' = .map (some b) ∧ E i = .live b C ∧ w.heap[b]? = some (.map a ((E.st t').f K)) ∧ AnyMap E es K t' a ∧ l.Perm a.toList ∧ RelS E (E.st t') es l ∧ (Instr.findKey kt k' a.toList).run P w = .ok r' w ∧ RelU E k' es l a.toList r r' ∧
        (getObj b).run P w = .ok (.map a ((E.st t').f K)) w ∧ (∀ emp, (Instr.checkKey emp 10000 kt k').run P w = .ok () w) := by
      intro G B E w k' m' hg hs hm hkr
      cases hm
      rename_i b hb
      obtain ⟨C, a, he, hh, hes⟩ := hs.umap hg ho hb
      obtain ⟨l, hp, hl⟩ := hes.rel
      obtain ⟨r', hfind, hru⟩ := findKeyU_ok (P := P) (w := w) hs.orc hk hkr hr hl hp
      exact ⟨b, C, a, r', l, rfl, he, hh, hes, hp, hl, hfind, hru, run_getObj_of hh (fun _ _ _ e => by cases e), fun emp => checkKey_plain hk hkr emp 9999⟩
    split at h4
    · rename_i j vv
      cases h4
      refine ⟨Step.set _ _ _, rfl, fun {G B E w m' k' x'} hG hs hm hkr hx => ?_⟩
      have hgi := hG _ (in_set _ _ _)
      obtain ⟨b, C, a, r', l, rfl, he, hh, hes, hp, hl, hfind, hru, hget, hck⟩ := key hgi hs hm hkr
      cases hru with
      | some hj hjl hjm hv hsame =>
        rename_i i' x0 e'
        have haj : a[i']? = some e' := by rw [← Array.getElem?_toList]; exact hjm
        have hset : OkObj E i (.umap (setE j k x es) K t') (.map (a.modify i' fun e => { e with key := k', val := x' }) ((E.st t').f K)) := ⟨_, rfl, hes.set hp hl hjl hjm hkr hx⟩
        obtain ⟨k1, k2⟩ := hs.write hgi ho rfl he hset
        refine ⟨_, ?_, k1, k2⟩
        have hst := run_setObj_of (P := P) (.map (a.modify i' fun e => { e with key := k', val := x' }) ((E.st t').f K)) hh (fun _ _ _ e => by cases e)
        simp only [Instr.mapUpdate, Sem.run_bind, und_run hu, Result.andThen_ok, hget, hck, hfind, haj, Option.map_some, Option.getD_some, Instr.keyThatStays, hsame, if_true, Sem.run_pure]
        exact hst
    · cases h4
      refine ⟨Step.set _ _ _, rfl, fun {G B E w m' k' x'} hG hs hm hkr hx => ?_⟩
      have hgi := hG _ (in_set _ _ _)
      obtain ⟨b, C, a, r', l, rfl, he, hh, hes, hp, hl, hfind, hru, hget, hck⟩ := key hgi hs hm hkr
      cases hru
      have hset : OkObj E i (.umap (es ++ [⟨k, x, K⟩]) (K + 1) t') (.map (a.push { key := k', val := x', born := (E.st t').f K }) ((E.st t').f K + 1)) := ⟨_, by rw [Stamps.succ _ hes.le], hes.push hkr hx⟩
      obtain ⟨k1, k2⟩ := hs.write hgi ho rfl he hset
      refine ⟨_, ?_, k1, k2⟩
      have hst := run_setObj_of (P := P) (.map (a.push { key := k', val := x', born := (E.st t').f K }) ((E.st t').f K + 1)) hh (fun _ _ _ e => by cases e)
      simp only [Instr.mapUpdate, Sem.run_bind, und_run hu, Result.andThen_ok, hget, hck, hfind]
      exact hst
theorem deleteA_ok {t : TypeId} {m k : AV} (h : deleteA P t m k s = some (v, s')) (ts : Array TypeId) (ty : TypeId) (hts : ts[0]? = some t) :
    Step s s' ∧ ∀ {G B E w m' k'}, (∀ j, In s'.l j → G j) → Sat G B E s w → Rel E m m' → Rel E k k' → Ok1 P G B s' v E w (Builtin.delete_ ts ty #[m', k']) := by
  unfold deleteA at h
  split at h
  case h_2 => cases h
  rename_i kt e hu
  split at h
  · obtain ⟨hk, h1⟩ := bc_some h
    cases h1
    refine ⟨Step.refl _, fun {G B E w m' k'} hG hs hm hkr => ?_⟩
    cases hm
    refine Ok1.pure hs (v' := .tuple #[]) ?_ (.tuple .nil)
    have hck := checkKey_plain (P := P) (w := w) hk hkr true 9999
    simp only [Builtin.delete_, hts, Sem.run_bind, und_run hu, Result.andThen_ok, List.getElem?_toArray, List.getElem?_cons_zero, List.getElem?_cons_succ, hck, Sem.run_pure]
  · rename_i i
    obtain ⟨hk, h1⟩ := bc_some h
    obtain ⟨o, ho, h2⟩ := oc_some h1
    rcases mapU_some h2 with ⟨es, clock, rfl, h3⟩ | ⟨es, K, t', rfl, h3⟩
    · skip
      obtain ⟨r, hr, h4⟩ := oc_some h3
      clear h h1 h2 h3
      have key : ∀ {G B E w k' m'}, (G i) → Sat G B E s w → Rel E (.map i) m' → Rel E k k' → ∃ b C a r', m' = .map (some b) ∧ E i = .live b C ∧ w.heap[b]? = some (.map a clock) ∧ RelE E es a.toList ∧ (Instr.findKey kt k' a.toList).run P w = .ok r' w ∧ RelF E k' a.toList r r' ∧
          (getObj b).run P w = .ok (.map a clock) w ∧ (∀ emp, (Instr.checkKey emp 10000 kt k').run P w = .ok () w) := by
        intro G B E w k' m' hg hs hm hkr
        cases hm
        rename_i b hb
        obtain ⟨C, a, he, hh, hes⟩ := hs.map hg ho hb
        obtain ⟨r', hfind, hrf⟩ := findKey_ok (P := P) (w := w) hs.orc hk hkr hr hes
        exact ⟨b, C, a, r', rfl, he, hh, hes, hfind, hrf, run_getObj_of hh (fun _ _ _ e => by cases e), fun emp => checkKey_plain hk hkr emp 9999⟩
      split at h4
      · rename_i j vv
        cases h4
        refine ⟨Step.set _ _ _, fun {G B E w m' k'} hG hs hm hkr => ?_⟩
        have hgi := hG _ (in_set _ _ _)
        obtain ⟨b, C, a, r', rfl, he, hh, hes, hfind, hrf, hget, hck⟩ := key hgi hs hm hkr
        cases hrf with
        | some hv hej hsame =>
          have hset : OkObj E i (.map (delE j es) clock) (.map (a.eraseIdxIfInBounds j) clock) := ⟨_, rfl, by
            have := delE_ok j hes
            rwa [Array.toList_eraseIdxIfInBounds]⟩
          obtain ⟨k1, k2⟩ := hs.write hgi ho rfl he hset
          refine ⟨E, .tuple #[], _, ?_, .tuple .nil, k1, k2⟩
          have hst := run_setObj_of (P := P) (.map (a.eraseIdxIfInBounds j) clock) hh (fun _ _ _ e => by cases e)
          simp only [Builtin.delete_, hts, Sem.run_bind, und_run hu, Result.andThen_ok, List.getElem?_toArray, List.getElem?_cons_zero, List.getElem?_cons_succ, hget, hck, hfind, hst, Sem.run_pure]
      · cases h4
        refine ⟨Step.set _ _ _, fun {G B E w m' k'} hG hs hm hkr => ?_⟩
        have hgi := hG _ (in_set _ _ _)
        obtain ⟨b, C, a, r', rfl, he, hh, hes, hfind, hrf, hget, hck⟩ := key hgi hs hm hkr
        cases hrf
        obtain ⟨k1, k2⟩ := hs.write (o' := .map es clock) (ob' := .map a clock) hgi ho rfl he ⟨a, rfl, hes⟩
        refine ⟨E, .tuple #[], _, ?_, .tuple .nil, k1, k2⟩
        have hst := run_setObj_of (P := P) (.map a clock) hh (fun _ _ _ e => by cases e)
        simp only [Builtin.delete_, hts, Sem.run_bind, und_run hu, Result.andThen_ok, List.getElem?_toArray, List.getElem?_cons_zero, List.getElem?_cons_succ, hget, hck, hfind, hst, Sem.run_pure]
    · skip
      obtain ⟨r, hr, h4⟩ := oc_some h3
      clear h h1 h2 h3
      have key : ∀ {G B E w k' m'}, (G i) → Sat G B E s w → Rel E (.map i) m' → Rel E k k' → ∃ b C a r' l, m' = .map (some b) ∧ E i = .live b C ∧ w.heap[b]? = some (.map a ((E.st t').f K)) ∧ AnyMap E es K t' a ∧ l.Perm a.toList ∧ RelS E (E.st t') es l ∧ (Instr.findKey kt k' a.toList).run P w = .ok r' w ∧ RelU E k' es l a.toList r r' ∧
          (getObj b).run P w = .ok (.map a ((E.st t').f K)) w ∧ (∀ emp, (Instr.checkKey emp 10000 kt k').run P w = .ok () w) := by
        intro G B E w k' m' hg hs hm hkr
        cases hm
        rename_i b hb
        obtain ⟨C, a, he, hh, hes⟩ := hs.umap hg ho hb
        obtain ⟨l, hp, hl⟩ := hes.rel
        obtain ⟨r', hfind, hru⟩ := findKeyU_ok (P := P) (w := w) hs.orc hk hkr hr hl hp
        exact ⟨b, C, a, r', l, rfl, he, hh, hes, hp, hl, hfind, hru, run_getObj_of hh (fun _ _ _ e => by cases e), fun emp => checkKey_plain hk hkr emp 9999⟩
      split at h4
      · rename_i j vv
        cases h4
        refine ⟨Step.set _ _ _, fun {G B E w m' k'} hG hs hm hkr => ?_⟩
        have hgi := hG _ (in_set _ _ _)
        obtain ⟨b, C, a, r', l, rfl, he, hh, hes, hp, hl, hfind, hru, hget, hck⟩ := key hgi hs hm hkr
        cases hru with
        | some hj hjl hjm hv hsame =>
          rename_i i' x0 e'
          have hset : OkObj E i (.umap (delE j es) K t') (.map (a.eraseIdxIfInBounds i') ((E.st t').f K)) := ⟨_, rfl, hes.del hp hl hjl hjm⟩
          obtain ⟨k1, k2⟩ := hs.write hgi ho rfl he hset
          refine ⟨E, .tuple #[], _, ?_, .tuple .nil, k1, k2⟩
          have hst := run_setObj_of (P := P) (.map (a.eraseIdxIfInBounds i') ((E.st t').f K)) hh (fun _ _ _ e => by cases e)
          simp only [Builtin.delete_, hts, Sem.run_bind, und_run hu, Result.andThen_ok, List.getElem?_toArray, List.getElem?_cons_zero, List.getElem?_cons_succ, hget, hck, hfind, hst, Sem.run_pure]
      · cases h4
        refine ⟨Step.set _ _ _, fun {G B E w m' k'} hG hs hm hkr => ?_⟩
        have hgi := hG _ (in_set _ _ _)
        obtain ⟨b, C, a, r', l, rfl, he, hh, hes, hp, hl, hfind, hru, hget, hck⟩ := key hgi hs hm hkr
        cases hru
        obtain ⟨k1, k2⟩ := hs.write (o' := .umap es K t') (ob' := .map a ((E.st t').f K)) hgi ho rfl he ⟨a, rfl, hes⟩
        refine ⟨E, .tuple #[], _, ?_, .tuple .nil, k1, k2⟩
        have hst := run_setObj_of (P := P) (.map a ((E.st t').f K)) hh (fun _ _ _ e => by cases e)
        simp only [Builtin.delete_, hts, Sem.run_bind, und_run hu, Result.andThen_ok, List.getElem?_toArray, List.getElem?_cons_zero, List.getElem?_cons_succ, hget, hck, hfind, hst, Sem.run_pure]
  · cases h
end
end Ev
end Go.Proofs.YtnjpdipombnigaaGreatDoor
