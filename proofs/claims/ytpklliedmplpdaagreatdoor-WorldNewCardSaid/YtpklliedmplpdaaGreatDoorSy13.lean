/-
  The evaluator: maps.
-/
import Derived.Test.YtpklliedmplpdaaGreatDoorSy12
namespace Go.Proofs.YtpklliedmplpdaaGreatDoor
namespace Ev
open Go.RowKit

section
variable {P : Program} {G : Nat → Prop} {B : Nat} {E : Env} {s s' : St} {w : World} {v : AV} {O : Orc}

theorem run_getObj_of {b : Nat} {o : Obj} (h : w.heap[b]? = some o) (hc : ∀ c e f, o ≠ .cells c e f) : (getObj b).run P w = .ok o w := by
  simp only [getObj, Sem.run, h]
  try (cases o <;> first | rfl | exact absurd rfl (hc _ _ _))
theorem run_setObj_of {b : Nat} {o : Obj} (o' : Obj) (h : w.heap[b]? = some o) (hc : ∀ c e f, o ≠ .cells c e f) : (setObj b o').run P w = .ok () (w.putObj b o') := by
  simp only [setObj, Sem.run, h]
  cases o <;> first | rfl | exact absurd rfl (hc _ _ _)

theorem bytes_beq (a b : List UInt8) : ((ByteArray.mk a.toArray) == (ByteArray.mk b.toArray)) = (a == b) := by
  show ByteArray.beq _ _ = _
  unfold ByteArray.beq
  simp
theorem keyEq_ok (ho : OrcOk O E.ρ) {x y : AV} {x' y' : Value} {b : Bool} {t : TypeId} {d : TypeDesc} (hd : P.underlying t = some d) (hk : keyType P t x = true) (h : keyEq O x y = some b) (hx : Rel E x x') (hy : Rel E y y') :
    Instr.sameNow d x' y' = some b ∧ (b = true → Instr.sameBits 10000 y' x' = true) := by
  unfold keyType at hk
  rw [hd] at hk
  cases hx <;> cases hy <;> simp only [keyEq] at h <;> first | (cases h; done) | skip
  · cases h
    cases d <;> simp at hk
    rename_i a c
    refine ⟨rfl, fun e => ?_⟩
    have : a = c := by simpa using e
    subst this; simp [Instr.sameBits]
  · rename_i k a k' c
    split at h
    · rename_i hkk
      subst hkk
      cases h
      cases d <;> simp at hk
      rw [eqA_eq]
      refine ⟨by simp [Instr.sameNow]; rfl, fun e => ?_⟩
      have : a = c := by simpa using e
      subst this; simp [Instr.sameBits]
    · cases h
  · split at h
    · rename_i hkk
      subst hkk
      have := ho.eq _ _ _ h
      subst this
      cases d <;> simp at hk
      refine ⟨by simp [Instr.sameNow, SE.val]; rfl, fun e => ?_⟩
      have e' := of_decide_eq_true e
      try simp only [SE.val] at e'
      simp [Instr.sameBits, SE.val, e']
    · cases h
  · split at h
    · rename_i hkk
      subst hkk
      have := ho.eq _ _ _ h
      subst this
      cases d <;> simp at hk
      refine ⟨by simp [Instr.sameNow, SE.val]; rfl, fun e => ?_⟩
      have e' := of_decide_eq_true e
      try simp only [SE.val] at e'
      simp [Instr.sameBits, SE.val, e']
    · cases h
  · split at h
    · rename_i hkk
      subst hkk
      have := ho.eq _ _ _ h
      subst this
      cases d <;> simp at hk
      refine ⟨by simp [Instr.sameNow, SE.val]; rfl, fun e => ?_⟩
      have e' := of_decide_eq_true e
      try simp only [SE.val] at e'
      simp [Instr.sameBits, SE.val, e']
    · cases h
  · rename_i a c
    cases h
    cases d <;> simp at hk
    rw [bytesEq_eq]
    refine ⟨by simp only [Instr.sameNow, bytes_beq], fun e => ?_⟩
    have : a = c := by simpa using e
    subst this; simp [Instr.sameBits, bytes_beq]
/-- What is found. -/
inductive RelF (E : Env) (k' : Value) (es' : List MapEntry) : Option (Nat × AV) → Option (Nat × Value) → Prop
  | none : RelF E k' es' none none
  | some {j : Nat} {v : AV} {v' : Value} {e' : MapEntry} (h : Rel E v v') (he : es'[j]? = some e') (hb : Instr.sameBits 10000 e'.key k' = true) : RelF E k' es' (some (j, v)) (some (j, v'))
theorem findE_ok (ho : OrcOk O E.ρ) {t : TypeId} {d : TypeDesc} (hd : P.underlying t = some d) {k : AV} {k' : Value} (hk : keyType P t k = true) (hr : Rel E k k') (all : List MapEntry) : ∀ (es : List Ent) {es' : List MapEntry} {n : Nat} {r : Option (Nat × AV)},
    findE O k es n = some r → RelE E es es' → all.drop n = es' → ∃ r', Instr.findNow d k' es' n = some r' ∧ RelF E k' all r r' := by
  intro es
  induction es with
  | nil => intro es' n r h hes _; cases hes; cases h; exact ⟨none, rfl, .none⟩
  | cons e es ih =>
    intro es' n r h hes hall
    cases hes with
    | cons hkey hval hborn ht =>
      rename_i y m
      simp only [findE] at h
      split at h
      · rename_i hq
        cases h
        obtain ⟨h1, h2⟩ := keyEq_ok ho hd hk hq hr hkey
        refine ⟨some (n, y.val), by simp [Instr.findNow, h1], .some hval (e' := y) ?_ (h2 rfl)⟩
        have := congrArg (fun l => l[0]?) hall
        simpa using this
      · rename_i hq
        obtain ⟨h1, _⟩ := keyEq_ok ho hd hk hq hr hkey
        obtain ⟨r', h3, h4⟩ := ih h ht (by rw [← List.drop_drop, hall]; rfl)
        exact ⟨r', by simp [Instr.findNow, h1, h3], h4⟩
      · cases h
theorem checkKey_plain {t : TypeId} {k : AV} {k' : Value} (hk : keyType P t k = true) (hr : Rel E k k') (emp : Bool) : ∀ n, (Instr.checkKey emp (n + 1) t k').run P w = .ok () w := by
  intro n
  unfold keyType at hk
  cases hu : P.underlying t with
  | none => rw [hu] at hk; simp at hk
  | some d =>
    rw [hu] at hk
    cases hr <;> cases d <;> simp at hk <;> simp [Instr.checkKey, und_run hu]
theorem findKey_ok (ho : OrcOk O E.ρ) {t : TypeId} {k : AV} {k' : Value} (hk : keyType P t k = true) (hr : Rel E k k') {es : List Ent} {es' : List MapEntry} {r : Option (Nat × AV)} (h : findE O k es 0 = some r) (hes : RelE E es es') :
    ∃ r', (Instr.findKey t k' es').run P w = .ok r' w ∧ RelF E k' es' r r' := by
  cases hu : P.underlying t with
  | none => unfold keyType at hk; rw [hu] at hk; simp at hk
  | some d =>
    obtain ⟨r', h1, h2⟩ := findE_ok ho hu hk hr es' es h hes rfl
    exact ⟨r', by simp [Instr.findKey, und_run hu, h1], h2⟩
theorem checkKey_fields {fs : List Field} {l : List AV} {a : Array Value} (emp : Bool) (n : Nat) (h : plainFields P l fs = true) (hr : RelL E l a.toList) :
    (forIn fs PUnit.unit (fun f _ => (do
      if f.name ≠ "_" then Instr.checkKey emp (n + 1) f.type (← part f.type a f.offset)
      pure (ForInStep.yield PUnit.unit) : Sem (ForInStep PUnit)))).run P w = .ok PUnit.unit w := by
  induction fs with
  | nil => rfl
  | cons f fs ih =>
    simp only [plainFields, Bool.and_eq_true] at h
    obtain ⟨⟨h1, h2⟩, h3⟩ := h
    have hstep : (do
      if f.name ≠ "_" then Instr.checkKey emp (n + 1) f.type (← part f.type a f.offset)
      pure (ForInStep.yield PUnit.unit) : Sem (ForInStep PUnit)).run P w = .ok (ForInStep.yield PUnit.unit) w := by
      cases hx : nth l f.offset with
      | none => rw [hx] at h2; cases h2
      | some x =>
        rw [nth_get] at hx
        obtain ⟨x', hx', hrx⟩ := hr.nth hx
        rw [Array.getElem?_toList] at hx'
        unfold plainT at h1
        cases hu : P.underlying f.type with
        | none => rw [hu] at h1; cases h1
        | some d =>
          rw [hu] at h1
          have hpart : (part f.type a f.offset).run P w = .ok x' w := by
            cases d <;> simp at h1 <;> simp [part, isAgg, und_run hu, hx']
          have hck : (Instr.checkKey emp (n + 1) f.type x').run P w = .ok () w := by
            cases d <;> simp at h1 <;> simp [Instr.checkKey, und_run hu]
          by_cases hn : f.name = "_"
          · simp [hn]
          · simp [hn, hpart, hck]
    simp only [List.forIn_cons, Sem.run_bind, hstep, Result.andThen_ok]
    exact ih h3
theorem checkKey_struct {t : TypeId} {k : AV} {k' : Value} (hk : plainKey P t k = true) (hr : Rel E k k') (emp : Bool) : ∀ n, (Instr.checkKey emp (n + 1 + 1) t k').run P w = .ok () w := by
  intro n
  unfold plainKey at hk
  split at hk
  · rename_i fs l hu
    cases hr
    rename_i a ha
    have := checkKey_fields (P := P) (w := w) emp n hk ha
    generalize n + 1 = m at this ⊢
    simp only [Instr.checkKey, Sem.run_bind, und_run hu, Result.andThen_ok]
    rw [← Array.forIn_toList]
    simp at this ⊢
    rw [this]; rfl
  · cases hk
theorem lookupFin_ok {e : TypeId} {ok : Bool} {r : Option (Nat × AV)} {r' : Option (Nat × Value)} {k' : Value} {es' : List MapEntry} (h : lookupFin P e ok r s = some (v, s')) (hr : RelF E k' es' r r') :
    s' = s ∧ ∃ v', ((match r' with | some (_, v) => pure (v, true) | none => do pure (← zeroValue e, false) : Sem (Value × Bool)) >>= fun p => pure (if ok then .tuple #[p.1, .bool p.2] else p.1)).run P w = .ok v' w ∧ Rel E v v' := by
  cases hr with
  | none =>
    obtain ⟨z, hz, h⟩ := oc_some h
    cases h
    obtain ⟨zv, hzr, hzrel⟩ := zeroOf_run hz
    refine ⟨rfl, ?_⟩
    cases ok with
    | true => exact ⟨_, by simp [hzr], .tuple (.cons (hzrel E) (.cons (.bool _) .nil))⟩
    | false => exact ⟨_, by simp [hzr], hzrel E⟩
  | some hv he hb =>
    cases h
    refine ⟨rfl, ?_⟩
    cases ok with
    | true => exact ⟨_, by simp, .tuple (.cons hv (.cons (.bool _) .nil))⟩
    | false => exact ⟨_, by simp, hv⟩
end
end Ev
end Go.Proofs.YtpklliedmplpdaaGreatDoor
