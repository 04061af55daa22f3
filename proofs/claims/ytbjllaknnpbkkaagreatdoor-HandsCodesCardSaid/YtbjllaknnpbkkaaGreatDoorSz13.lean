/-
  The evaluator: maps.
-/
import Derived.Test.YtbjllaknnpbkkaaGreatDoorSz12
namespace Go.Proofs.YtbjllaknnpbkkaaGreatDoor
namespace Ev
open Go.RowKit

section
variable {P : Program} {G : Nat → Prop} {B : Nat} {E : Env} {s s' : St} {w : World} {v : AV} {O : Orc}

theorem run_getObj_of {b : Nat} {o : Obj} (h : w.heap[b]? = some o) (hc : ∀ c e f, o ≠ .cells c e f) : (getObj b).run P w = .ok o w := by
  simp only [getObj, Sem.run, h]
  try (cases o <;> first | rfl | exact absurd rfl (hc _ _ _))
theorem run_setObj_of {b : Nat} {o : Obj} (o' : Obj) (h : w.heap[b]? = some o) (hc : ∀ c e f, o ≠ .cells c e f) : (setObj b o').run P w = .ok () (w.putObj b o') := by
  simp only [setObj, Sem.run, h]
  cases o <;> first | rfl | exact absurd rfl (hc _ _ _)

theorem bytes_beq (a b : List UInt8) : ((ByteArray.mk a.toArray) == (ByteArray.mk b.toArray)) = (a == b) := by
  show ByteArray.beq _ _ = _
  unfold ByteArray.beq
  simp
theorem keyEq_ok (ho : OrcOk O E.ρ) {x y : AV} {x' y' : Value} {b : Bool} {t : TypeId} {d : TypeDesc} (hd : P.underlying t = some d) (hk : keyType P t x = true) (h : keyEq O x y = some b) (hx : Rel E x x') (hy : Rel E y y') :
    Instr.sameNow d x' y' = some b ∧ (b = true → Instr.sameBits 10000 y' x' = true) := by
  unfold keyType at hk
  rw [hd] at hk
  cases hx <;> cases hy <;> simp only [keyEq] at h <;> first | (cases h; done) | skip
  · cases h
    cases d <;> simp at hk
    rename_i a c
    refine ⟨rfl, fun e => ?_⟩
    have : a = c := by simpa using e
    subst this; simp [Instr.sameBits]
  · rename_i k a k' c
    split at h
    · rename_i hkk
      subst hkk
      cases h
      cases d <;> simp at hk
      rw [eqA_eq]
      refine ⟨by simp [Instr.sameNow]; rfl, fun e => ?_⟩
      have : a = c := by simpa using e
      subst this; simp [Instr.sameBits]
    · cases h
  · split at h
    · rename_i hkk
      subst hkk
      have := ho.eq _ _ _ h
      subst this
      cases d <;> simp at hk
      refine ⟨by simp [Instr.sameNow, SE.val]; rfl, fun e => ?_⟩
      have e' := of_decide_eq_true e
      try simp only [SE.val] at e'
      simp [Instr.sameBits, SE.val, e']
    · cases h
  · split at h
    · rename_i hkk
      subst hkk
      have := ho.eq _ _ _ h
      subst this
      cases d <;> simp at hk
      refine ⟨by simp [Instr.sameNow, SE.val]; rfl, fun e => ?_⟩
      have e' := of_decide_eq_true e
      try simp only [SE.val] at e'
      simp [Instr.sameBits, SE.val, e']
    · cases h
  · split at h
    · rename_i hkk
      subst hkk
      have := ho.eq _ _ _ h
      subst this
      cases d <;> simp at hk
      refine ⟨by simp [Instr.sameNow, SE.val]; rfl, fun e => ?_⟩
      have e' := of_decide_eq_true e
      try simp only [SE.val] at e'
      simp [Instr.sameBits, SE.val, e']
    · cases h
  · rename_i a c
    cases h
    cases d <;> simp at hk
    rw [bytesEq_eq]
    refine ⟨by simp only [Instr.sameNow, bytes_beq], fun e => ?_⟩
    have : a = c := by simpa using e
    subst this; simp [Instr.sameBits, bytes_beq]
/-- What is found. -/
inductive RelF (E : Env) (k' : Value) (es' : List MapEntry) : Option (Nat × AV) → Option (Nat × Value) → Prop
  | none : RelF E k' es' none none
  | some {j : Nat} {v : AV} {v' : Value} {e' : MapEntry} (h : Rel E v v') (he : es'[j]? = some e') (hb : Instr.sameBits 10000 e'.key k' = true) : RelF E k' es' (some (j, v)) (some (j, v'))
theorem findE_ok (ho : OrcOk O E.ρ) {t : TypeId} {d : TypeDesc} (hd : P.underlying t = some d) {k : AV} {k' : Value} (hk : keyType P t k = true) (hr : Rel E k k') (all : List MapEntry) : ∀ (es : List Ent) {es' : List MapEntry} {n : Nat} {r : Option (Nat × AV)},
    findE O k es n = some r → RelE E es es' → all.drop n = es' → ∃ r', Instr.findNow d k' es' n = some r' ∧ RelF E k' all r r' := by
  intro es
  induction es with
  | nil => intro es' n r h hes _; cases hes; cases h; exact ⟨none, rfl, .none⟩
  | cons e es ih =>
    intro es' n r h hes hall
    cases hes with
    | cons hkey hval hborn ht =>
      rename_i y m
      simp only [findE] at h
      split at h
      · rename_i hq
        cases h
        obtain ⟨h1, h2⟩ := keyEq_ok ho hd hk hq hr hkey
        refine ⟨some (n, y.val), by simp [Instr.findNow, h1], .some hval (e' := y) ?_ (h2 rfl)⟩
        have := congrArg (fun l => l[0]?) hall
        simpa using this
      · rename_i hq
        obtain ⟨h1, _⟩ := keyEq_ok ho hd hk hq hr hkey
        obtain ⟨r', h3, h4⟩ := ih h ht (by rw [← List.drop_drop, hall]; rfl)
        exact ⟨r', by simp [Instr.findNow, h1, h3], h4⟩
      · cases h
theorem checkKey_plain {t : TypeId} {k : AV} {k' : Value} (hk : keyType P t k = true) (hr : Rel E k k') (emp : Bool) : ∀ n, (Instr.checkKey emp (n + 1) t k').run P w = .ok () w := by
  intro n
  unfold keyType at hk
  cases hu : P.underlying t with
  | none => rw [hu] at hk; simp at hk
  | some d =>
    rw [hu] at hk
    cases hr <;> cases d <;> simp at hk <;> simp [Instr.checkKey, und_run hu]
theorem findKey_ok (ho : OrcOk O E.ρ) {t : TypeId} {k : AV} {k' : Value} (hk : keyType P t k = true) (hr : Rel E k k') {es : List Ent} {es' : List MapEntry} {r : Option (Nat × AV)} (h : findE O k es 0 = some r) (hes : RelE E es es') :
    ∃ r', (Instr.findKey t k' es').run P w = .ok r' w ∧ RelF E k' es' r r' := by
  cases hu : P.underlying t with
  | none => unfold keyType at hk; rw [hu] at hk; simp at hk
  | some d =>
    obtain ⟨r', h1, h2⟩ := findE_ok ho hu hk hr es' es h hes rfl
    exact ⟨r', by simp [Instr.findKey, und_run hu, h1], h2⟩
theorem RelS.at : ∀ {S : Stamps} {es : List Ent} {l : List MapEntry}, RelS E S es l → ∀ (j : Nat), (∀ x, es[j]? = some x → ∃ y, l[j]? = some y ∧ Rel E x.key y.key ∧ Rel E x.val y.val ∧ y.born = S.f x.born) ∧ (∀ y, l[j]? = some y → ∃ x, es[j]? = some x ∧ Rel E x.key y.key ∧ Rel E x.val y.val ∧ y.born = S.f x.born)
  | _, _, _, .nil, j => ⟨fun x h => by simp at h, fun x h => by simp at h⟩
  | _, _, _, .cons (x := x) (y := y) h1 h2 h3 t, 0 => ⟨fun x h => by simp at h; subst h; exact ⟨y, rfl, h1, h2, h3⟩, fun z h => by simp at h; subst h; exact ⟨x, rfl, h1, h2, h3⟩⟩
  | _, _, _, .cons h1 h2 h3 t, j + 1 => ⟨fun x h => (t.at j).1 x (by simpa using h), fun x h => (t.at j).2 x (by simpa using h)⟩
theorem findNow_any {d : TypeDesc} {k' : Value} : ∀ (m : List MapEntry) (n : Nat), (∀ e ∈ m, ∃ b, Instr.sameNow d k' e.key = some b) →
    (Instr.findNow d k' m n = some none ∧ ∀ e ∈ m, Instr.sameNow d k' e.key = some false) ∨ ∃ i e, m[i]? = some e ∧ Instr.sameNow d k' e.key = some true ∧ Instr.findNow d k' m n = some (some (n + i, e.val))
  | [], _, _ => .inl ⟨rfl, fun _ h => (by cases h)⟩
  | e :: m, n, h => by
    obtain ⟨b, hb⟩ := h e (List.mem_cons_self ..)
    cases b with
    | true => exact .inr ⟨0, e, rfl, hb, by simp [Instr.findNow, hb]⟩
    | false =>
      rcases findNow_any m (n + 1) (fun x hx => h x (List.mem_cons_of_mem _ hx)) with ⟨h1, h2⟩ | ⟨i, x, h1, h2, h3⟩
      · exact .inl ⟨by simp [Instr.findNow, hb, h1], fun x hx => by
          rcases List.mem_cons.1 hx with rfl | hx
          · exact hb
          · exact h2 x hx⟩
      · exact .inr ⟨i + 1, x, by simpa using h1, h2, by simp only [Instr.findNow, hb, h3]; rw [show n + (i + 1) = n + 1 + i by omega]⟩
theorem noneE_ok (ho : OrcOk O E.ρ) {t : TypeId} {d : TypeDesc} (hd : P.underlying t = some d) {k : AV} {k' : Value} (hk : keyType P t k = true) (hr : Rel E k k') : ∀ {S : Stamps} {es : List Ent} {l : List MapEntry}, noneE O k es = true → RelS E S es l → ∀ e ∈ l, Instr.sameNow d k' e.key = some false
  | _, _, _, _, .nil => fun e h => (by cases h)
  | _, _, _, h, .cons h1 h2 h3 t => by
    simp only [noneE] at h
    split at h
    · rename_i hq
      intro e he
      rcases List.mem_cons.1 he with rfl | he
      · exact (keyEq_ok ho hd hk hq hr h1).1
      · exact noneE_ok ho hd hk hr h t e he
    · cases h
theorem findU_some (ho : OrcOk O E.ρ) {t : TypeId} {d : TypeDesc} (hd : P.underlying t = some d) {k : AV} {k' : Value} (hk : keyType P t k = true) (hr : Rel E k k') : ∀ {S : Stamps} {es : List Ent} {l : List MapEntry} {n : Nat} {r : Option (Nat × AV)}, findU O k es n = some r → RelS E S es l →
    (∀ e ∈ l, ∃ b, Instr.sameNow d k' e.key = some b) ∧ ((r = none ∧ ∀ e ∈ l, Instr.sameNow d k' e.key = some false) ∨ ∃ j x y, r = some (n + j, x.val) ∧ es[j]? = some x ∧ l[j]? = some y ∧ Rel E x.val y.val ∧ Instr.sameBits 10000 y.key k' = true ∧ Instr.sameNow d k' y.key = some true ∧ ∀ e ∈ l, Instr.sameNow d k' e.key = some true → e = y) := by
  intro S es l n r h hes
  induction hes generalizing n r with
  | nil => cases h; exact ⟨fun e h => (by cases h), .inl ⟨rfl, fun e h => (by cases h)⟩⟩
  | @cons x y es l h1 h2 h3 t ih =>
    simp only [findU] at h
    split at h
    · rename_i hq
      obtain ⟨hn, h'⟩ := bc_some h
      cases h'
      obtain ⟨q1, q2⟩ := keyEq_ok ho hd hk hq hr h1
      have hno := noneE_ok ho hd hk hr hn t
      refine ⟨fun e he => ?_, .inr ⟨0, x, y, rfl, rfl, rfl, h2, q2 rfl, q1, fun e he hs => ?_⟩⟩
      · rcases List.mem_cons.1 he with rfl | he
        · exact ⟨_, q1⟩
        · exact ⟨_, hno e he⟩
      · rcases List.mem_cons.1 he with rfl | he
        · rfl
        · rw [hno e he] at hs; cases hs
    · rename_i hq
      have q1 := (keyEq_ok ho hd hk hq hr h1).1
      obtain ⟨p1, p2⟩ := ih h
      refine ⟨fun e he => ?_, ?_⟩
      · rcases List.mem_cons.1 he with rfl | he
        · exact ⟨_, q1⟩
        · exact p1 e he
      · rcases p2 with ⟨rfl, p2⟩ | ⟨j, u, v, rfl, p3, p4, p5, p6, p7, p8⟩
        · refine .inl ⟨rfl, fun e he => ?_⟩
          rcases List.mem_cons.1 he with rfl | he
          · exact q1
          · exact p2 e he
        · refine .inr ⟨j + 1, u, v, by rw [Nat.add_assoc, Nat.add_comm 1 j], by simpa using p3, by simpa using p4, p5, p6, p7, fun e he hs => ?_⟩
          rcases List.mem_cons.1 he with rfl | he
          · rw [q1] at hs; cases hs
          · exact p8 e he hs
    · cases h
/-- What is found where no order is known. -/
inductive RelU (E : Env) (k' : Value) (es : List Ent) (l m : List MapEntry) : Option (Nat × AV) → Option (Nat × Value) → Prop
  | none : RelU E k' es l m none none
  | some {j i : Nat} {x : Ent} {y : MapEntry} (hj : es[j]? = some x) (hl : l[j]? = some y) (hm : m[i]? = some y) (h : Rel E x.val y.val) (hb : Instr.sameBits 10000 y.key k' = true) : RelU E k' es l m (some (j, x.val)) (some (i, y.val))
theorem findKeyU_ok (ho : OrcOk O E.ρ) {t : TypeId} {k : AV} {k' : Value} (hk : keyType P t k = true) (hr : Rel E k k') {S : Stamps} {es : List Ent} {l m : List MapEntry} {r : Option (Nat × AV)} (h : findU O k es 0 = some r) (hes : RelS E S es l) (hp : l.Perm m) :
    ∃ r', (Instr.findKey t k' m).run P w = .ok r' w ∧ RelU E k' es l m r r' := by
  cases hu : P.underlying t with
  | none => unfold keyType at hk; rw [hu] at hk; simp at hk
  | some d =>
    obtain ⟨h1, h2⟩ := findU_some ho hu hk hr h hes
    have h1' : ∀ e ∈ m, ∃ b, Instr.sameNow d k' e.key = some b := fun e he => h1 e (hp.mem_iff.2 he)
    rcases findNow_any m 0 h1' with ⟨q1, q2⟩ | ⟨i, e, q1, q2, q3⟩
    · rcases h2 with ⟨rfl, _⟩ | ⟨j, x, y, rfl, p3, p4, p5, p6, p7, p8⟩
      · exact ⟨none, by simp [Instr.findKey, und_run hu, q1], .none⟩
      · have := q2 y (hp.mem_iff.1 (List.mem_of_getElem? p4))
        rw [p7] at this; cases this
    · rcases h2 with ⟨rfl, hno⟩ | ⟨j, x, y, rfl, p3, p4, p5, p6, p7, p8⟩
      · have := hno e (hp.mem_iff.2 (List.mem_of_getElem? q1))
        rw [q2] at this; cases this
      · obtain rfl := p8 e (hp.mem_iff.2 (List.mem_of_getElem? q1)) q2
        rw [Nat.zero_add] at q3 ⊢
        exact ⟨some (i, e.val), by simp [Instr.findKey, und_run hu, q3], .some p3 p4 q1 p5 p6⟩
theorem checkKey_fields {fs : List Field} {l : List AV} {a : Array Value} (emp : Bool) (n : Nat) (h : plainFields P l fs = true) (hr : RelL E l a.toList) :
    (forIn fs PUnit.unit (fun f _ => (do
      if f.name ≠ "_" then Instr.checkKey emp (n + 1) f.type (← part f.type a f.offset)
      pure (ForInStep.yield PUnit.unit) : Sem (ForInStep PUnit)))).run P w = .ok PUnit.unit w := by
  induction fs with
  | nil => rfl
  | cons f fs ih =>
    simp only [plainFields, Bool.and_eq_true] at h
    obtain ⟨⟨h1, h2⟩, h3⟩ := h
    have hstep : (do
      if f.name ≠ "_" then Instr.checkKey emp (n + 1) f.type (← part f.type a f.offset)
      pure (ForInStep.yield PUnit.unit) : Sem (ForInStep PUnit)).run P w = .ok (ForInStep.yield PUnit.unit) w := by
      cases hx : nth l f.offset with
      | none => rw [hx] at h2; cases h2
      | some x =>
        rw [nth_get] at hx
        obtain ⟨x', hx', hrx⟩ := hr.nth hx
        rw [Array.getElem?_toList] at hx'
        unfold plainT at h1
        cases hu : P.underlying f.type with
        | none => rw [hu] at h1; cases h1
        | some d =>
          rw [hu] at h1
          have hpart : (part f.type a f.offset).run P w = .ok x' w := by
            cases d <;> simp at h1 <;> simp [part, isAgg, und_run hu, hx']
          have hck : (Instr.checkKey emp (n + 1) f.type x').run P w = .ok () w := by
            cases d <;> simp at h1 <;> simp [Instr.checkKey, und_run hu]
          by_cases hn : f.name = "_"
          · simp [hn]
          · simp [hn, hpart, hck]
    simp only [List.forIn_cons, Sem.run_bind, hstep, Result.andThen_ok]
    exact ih h3
theorem checkKey_struct {t : TypeId} {k : AV} {k' : Value} (hk : plainKey P t k = true) (hr : Rel E k k') (emp : Bool) : ∀ n, (Instr.checkKey emp (n + 1 + 1) t k').run P w = .ok () w := by
  intro n
  unfold plainKey at hk
  split at hk
  · rename_i fs l hu
    cases hr
    rename_i a ha
    have := checkKey_fields (P := P) (w := w) emp n hk ha
    generalize n + 1 = m at this ⊢
    simp only [Instr.checkKey, Sem.run_bind, und_run hu, Result.andThen_ok]
    rw [← Array.forIn_toList]
    simp at this ⊢
    rw [this]; rfl
  · cases hk
theorem lookupFin_ok {e : TypeId} {ok : Bool} {r : Option (Nat × AV)} {r' : Option (Nat × Value)} {k' : Value} {es' : List MapEntry} (h : lookupFin P e ok r s = some (v, s')) (hr : RelF E k' es' r r') :
    s' = s ∧ ∃ v', ((match r' with | some (_, v) => pure (v, true) | none => do pure (← zeroValue e, false) : Sem (Value × Bool)) >>= fun p => pure (if ok then .tuple #[p.1, .bool p.2] else p.1)).run P w = .ok v' w ∧ Rel E v v' := by
  cases hr with
  | none =>
    obtain ⟨z, hz, h⟩ := oc_some h
    cases h
    obtain ⟨zv, hzr, hzrel⟩ := zeroOf_run hz
    refine ⟨rfl, ?_⟩
    cases ok with
    | true => exact ⟨_, by simp [hzr], .tuple (.cons (hzrel E) (.cons (.bool _) .nil))⟩
    | false => exact ⟨_, by simp [hzr], hzrel E⟩
  | some hv he hb =>
    cases h
    refine ⟨rfl, ?_⟩
    cases ok with
    | true => exact ⟨_, by simp, .tuple (.cons hv (.cons (.bool _) .nil))⟩
    | false => exact ⟨_, by simp, hv⟩
end
end Ev
end Go.Proofs.YtbjllaknnpbkkaaGreatDoor
