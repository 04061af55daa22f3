/-
  The evaluator: operations that touch no block, on.
  The evaluator: slices of slices; loads and stores; new blocks.
  The evaluator: loads, stores, new blocks, literals.
-/
import Derived.Test.YtnjpdipombnigaaGreatDoorYb
namespace Go.Proofs.YtnjpdipombnigaaGreatDoor
namespace Ev
open Go.RowKit

section
variable {P : Program} {E : Env} {O : Orc}

theorem kindEq_ok {a b : IntKind} (h : kindEq a b = true) : a = b := by
  cases a <;> cases b <;> first | rfl | (exact absurd h (by decide))
theorem opEq_ok {a b : BinOp} (h : opEq a b = true) : a = b := by
  cases a <;> cases b <;> first | rfl | (exact absurd h (by decide))
theorem linEq_ok : ∀ {l m : List (Nat × Int)}, linEq l m = true → l = m
  | [], [], _ => rfl
  | p :: l, q :: m, h => by
    simp only [linEq, Bool.and_eq_true] at h
    obtain ⟨h1, h2, h3⟩ := h
    have e1 : p.1 = q.1 := Nat.eq_of_beq_eq_true h1
    rw [eqA_eq] at h2
    have e2 : p.2 = q.2 := of_decide_eq_true h2
    rw [linEq_ok h3, show p = q from Prod.ext e1 e2]
  | [], _ :: _, h => by cases h
  | _ :: _, [], h => by cases h
theorem seEq_ok : ∀ {a b : SE}, seEq a b = true → a = b := by
  intro a
  induction a with
  | var i =>
    intro b h
    cases b <;> first | (cases h; done) | skip
    rw [show i = _ from Nat.eq_of_beq_eq_true h]
  | lit m =>
    intro b h
    cases b <;> first | (cases h; done) | skip
    have h' : eqA m _ = true := h
    rw [eqA_eq] at h'
    rw [of_decide_eq_true h']
  | wrap k a ih =>
    intro b h
    cases b <;> first | (cases h; done) | skip
    rename_i q b
    have h' : (kindEq k q && seEq a b) = true := h
    rw [Bool.and_eq_true] at h'
    rw [kindEq_ok h'.1, ih h'.2]
  | bin o k a c ih1 ih2 =>
    intro b h
    cases b <;> first | (cases h; done) | skip
    rename_i p q b d
    have h' : (opEq o p && (kindEq k q && (seEq a b && seEq c d))) = true := h
    simp only [Bool.and_eq_true] at h'
    rw [opEq_ok h'.1, kindEq_ok h'.2.1, ih1 h'.2.2.1, ih2 h'.2.2.2]
  | fn i a c ih1 ih2 =>
    intro b h
    cases b <;> first | (cases h; done) | skip
    rename_i j b d
    have h' : (Nat.beq i j && (seEq a b && seEq c d)) = true := h
    simp only [Bool.and_eq_true] at h'
    rw [Nat.eq_of_beq_eq_true h'.1, ih1 h'.2.1, ih2 h'.2.2]
  | lin m l =>
    intro b h
    cases b <;> first | (cases h; done) | skip
    rename_i n k
    have h' : (eqA m n && linEq l k) = true := h
    rw [Bool.and_eq_true, eqA_eq] at h'
    rw [of_decide_eq_true h'.1, linEq_ok h'.2]

theorem bi_nil {q b : Bool} (h : bi q none (some false) = some b) : b = false := by
  cases q with
  | true => cases h
  | false => exact (Option.some.inj h).symm
set_option maxHeartbeats 2000000 in
theorem nilEq_ok {x y : AV} {x' y' : Value} {b : Bool} {t : TypeId} (ht : nilType P t x = true) (h : nilEq x y = some b) (hx : Rel E x x') (hy : Rel E y y') (w : World) :
    (Op.equal t x' y').run P w = .ok b w ∧ (∀ op ox oy, eqGuard op t ox oy x' y' = pure ()) ∧ (binOp .eql t x' y' = do pure (.bool (← Op.equal t x' y'))) ∧ (binOp .neq t x' y' = do pure (.bool (!(← Op.equal t x' y')))) := by
  cases hx <;> cases hy <;> simp only [nilEq] at h <;> first | (cases h; done) | skip
  all_goals
    simp only [nilType] at ht
    split at ht <;> first | (cases ht; done) | skip
    rename_i hu
    first | cases h | exact absurd (show (none : Option Bool) = some b from h) (by simp) | obtain rfl := bi_nil h
    refine ⟨?_, fun op ox oy => by cases op <;> rfl, rfl, rfl⟩
    refine (fun key : ∀ d, (Op.equalIn (d + 1) t _ _).run P w = _ => key 9999) fun d => ?_
    simp [Op.equalIn, und_run hu]
theorem bytes_beq6 (a b : List UInt8) : ((ByteArray.mk a.toArray) == (ByteArray.mk b.toArray)) = (a == b) := by
  show ByteArray.beq _ _ = _
  unfold ByteArray.beq
  simp
theorem keyEq_eq (ho : OrcOk O E.ρ) {x y : AV} {x' y' : Value} {b : Bool} {t : TypeId} (hk : keyType P t x = true) (h : keyEq O x y = some b) (hx : Rel E x x') (hy : Rel E y y') (d : Nat) (w : World) : (Op.equalIn (d + 1) t x' y').run P w = .ok b w := by
  unfold keyType at hk
  cases hu : P.underlying t with
  | none => rw [hu] at hk; simp at hk
  | some ds =>
    rw [hu] at hk
    cases hx <;> cases hy <;> simp only [keyEq] at h <;> first | (cases h; done) | skip
    · cases h
      cases ds <;> simp at hk
      simp [Op.equalIn, und_run hu]
    · rename_i k a k' c
      split at h
      · rename_i hkk
        subst hkk
        cases h
        cases ds <;> simp at hk
        rw [eqA_eq]
        simp [Op.equalIn, und_run hu]
        rfl
      · cases h
    · split at h
      · rename_i hkk
        subst hkk
        have := ho.eq _ _ _ h
        subst this
        cases ds <;> simp at hk
        simp [Op.equalIn, und_run hu, SE.val]
        rfl
      · cases h
    · split at h
      · rename_i hkk
        subst hkk
        have := ho.eq _ _ _ h
        subst this
        cases ds <;> simp at hk
        simp [Op.equalIn, und_run hu, SE.val]
        rfl
      · cases h
    · split at h
      · rename_i hkk
        subst hkk
        have := ho.eq _ _ _ h
        subst this
        cases ds <;> simp at hk
        simp [Op.equalIn, und_run hu, SE.val]
        rfl
      · cases h
    · cases h
      cases ds <;> simp at hk
      rw [bytesEq_eq]
      simp [Op.equalIn, und_run hu, bytes_beq6]
theorem plainT_agg {t : TypeId} (h : plainT P t = true) : isAggB P t = some false := by
  unfold plainT at h
  split at h <;> first | (cases h; done) | skip
  all_goals (rename_i hu; simp [isAggB, hu])
theorem RelL_nth {l : List AV} {m : List Value} (h : RelL E l m) : ∀ {n : Nat} {v : AV}, nth l n = some v → ∃ v', m[n]? = some v' ∧ Rel E v v' := by
  induction h using RelL.rec (motive_1 := fun _ _ _ => True) with
  | nil => intro n v hv; cases hv
  | cons h t ih1 ih =>
    intro n v hv
    cases n with
    | zero => cases hv; exact ⟨_, rfl, h⟩
    | succ n => exact ih hv
  | _ => trivial
theorem eqFlds_ok (ho : OrcOk O E.ρ) {a b : List AV} {xs ys : Array Value} (hx : RelL E a xs.toList) (hy : RelL E b ys.toList) (d : Nat) (w : World) : ∀ (fs : List Field) {q : Bool}, eqFlds O P a b fs = some q → (Op.eqFields (d + 1) xs ys fs).run P w = .ok q w
  | [], q, h => by cases h; simp [Op.eqFields]
  | f :: r, q, h => by
    obtain ⟨h1, h⟩ := bc_some h
    obtain ⟨h2, h⟩ := bc_some h
    obtain ⟨x, h3, h⟩ := oc_some h
    obtain ⟨y, h4, h⟩ := oc_some h
    obtain ⟨h5, h⟩ := bc_some h
    obtain ⟨e, h6, h⟩ := oc_some h
    obtain ⟨x', hx1, hx2⟩ := RelL_nth hx h3
    obtain ⟨y', hy1, hy2⟩ := RelL_nth hy h4
    rw [Array.getElem?_toList] at hx1 hy1
    have hq := keyEq_eq ho h5 h6 hx2 hy2 d w
    have hn : f.name ≠ "_" := by simpa using h1
    simp only [Op.eqFields, hn, ne_eq, not_false_eq_true, if_true, Sem.run_bind, part, isAggB_run (plainT_agg h2), Result.andThen_ok, Bool.false_eq_true, if_false, hx1, hy1, Sem.run_pure, hq]
    cases e with
    | true => rw [bi_true] at h; simpa using eqFlds_ok ho hx hy d w r h
    | false => rw [bi_false] at h; cases h; simp
theorem eqAgg_ok (ho : OrcOk O E.ρ) {t : TypeId} {a b : List AV} {xs ys : Array Value} {q : Bool} (h : eqAgg O P t a b = some q) (hx : RelL E a xs.toList) (hy : RelL E b ys.toList) (w : World) :
    (Op.equal t (.agg xs) (.agg ys)).run P w = .ok q w ∧ ∀ op ox oy, (eqGuard op t ox oy (.agg xs) (.agg ys)).run P w = .ok () w := by
  unfold eqAgg at h
  split at h
  · rename_i fs hu
    obtain ⟨h1, h⟩ := bc_some h
    obtain ⟨h2, h⟩ := bc_some h
    have h1' : P.stoodInHeld t = false := by simpa using h1
    have h2' : P.eqGuardType P.depth t = false := by simpa using h2
    have hf : P.fieldsOf t = fs := by simp [Program.fieldsOf, hu]
    refine ⟨?_, fun op ox oy => by cases op <;> simp [eqGuard, h2']⟩
    show (Op.equalIn (9999 + 1) t (.agg xs) (.agg ys)).run P w = _
    rw [run_equalIn_struct w 9999 t xs ys (by rw [hf]; exact hu) h1', hf]
    exact eqFlds_ok ho hx hy 9998 w _ h
  · cases h
theorem nz_ok {O : Orc} {ρ : Nat → Int} (ho : OrcOk O ρ) {b : SE} (h : nz O b = true) : b.val ρ ≠ 0 := by
  unfold nz at h
  split at h
  · rename_i n
    rw [eqA_eq] at h
    simpa [SE.val] using h
  · split at h
    · rename_i hq
      have := ho.eq _ _ _ hq
      exact of_decide_eq_false this.symm
    · cases h
theorem symOp_ok (ho : OrcOk O E.ρ) {op : BinOp} {t : TypeId} {k k' : IntKind} {a b : SE} {v : AV} (h : symOp O op k k' a b = some v) (w : World) :
    ∃ v', (binOp op t (.int k (a.val E.ρ)) (.int k' (b.val E.ρ))).run P w = .ok v' w ∧ Rel E v v' ∧ ∀ ox oy, (eqGuard op t ox oy (.int k (a.val E.ρ)) (.int k' (b.val E.ρ))).run P w = .ok () w := by
  unfold symOp at h
  split at h
  case isFalse => cases h
  rename_i hk
  subst hk
  have hgu : ∀ ox oy, (eqGuard op t ox oy (.int k (a.val E.ρ)) (.int k (b.val E.ρ))).run P w = .ok () w := fun ox oy => by cases op <;> rfl
  have arith : (∃ n, intOp op k (a.val E.ρ) (b.val E.ρ) = some (.int k n) ∧ opVal op k (a.val E.ρ) (b.val E.ρ) = n) → op ≠ .shl → op ≠ .shr → ∃ v', (binOp op t (.int k (a.val E.ρ)) (.int k (b.val E.ρ))).run P w = .ok v' w ∧ Rel E (.sint k (O.bin op k a b)) v' ∧ ∀ ox oy, (eqGuard op t ox oy (.int k (a.val E.ρ)) (.int k (b.val E.ρ))).run P w = .ok () w := by
    rintro ⟨n, h1, h2⟩ h3 h4
    obtain ⟨v', h5, h6⟩ := intOp_ok (P := P) (E := E) t h3 h4 h1 w
    cases h6
    refine ⟨.int k n, h5, ?_, hgu⟩
    rw [← h2, ← ho.bin]
    exact .sint k (O.bin op k a b)
  have cmp : ∀ q, intOp op k (a.val E.ρ) (b.val E.ρ) = some (.bool q) → op ≠ .shl → op ≠ .shr → ∃ v', (binOp op t (.int k (a.val E.ρ)) (.int k (b.val E.ρ))).run P w = .ok v' w ∧ Rel E (.bool q) v' ∧ ∀ ox oy, (eqGuard op t ox oy (.int k (a.val E.ρ)) (.int k (b.val E.ρ))).run P w = .ok () w := by
    intro q h1 h3 h4
    obtain ⟨v', h5, h6⟩ := intOp_ok (P := P) (E := E) t h3 h4 h1 w
    exact ⟨v', h5, h6, hgu⟩
  cases op <;> first | (cases h; done) | skip
  case quo =>
    obtain ⟨hz, h'⟩ := bc_some h
    cases h'
    have hn := nz_ok ho hz
    exact arith ⟨wrapA k ((a.val E.ρ).tdiv (b.val E.ρ)), by simp only [intOp, hn, if_false], by simp only [opVal, wrapA_eq]⟩ (by simp) (by simp)
  case rem =>
    obtain ⟨hz, h'⟩ := bc_some h
    cases h'
    have hn := nz_ok ho hz
    exact arith ⟨(a.val E.ρ).tmod (b.val E.ρ), by simp only [intOp, hn, if_false], by simp only [opVal]⟩ (by simp) (by simp)
  all_goals first
    | (cases h; exact arith ⟨_, rfl, by simp [opVal, wrapA_eq]⟩ (by simp) (by simp))
    | (obtain ⟨q, hq, rfl⟩ := Option.map_eq_some_iff.1 h
       first
         | (have := ho.eq _ _ _ hq; subst this; exact cmp _ (by simp [intOp, eqA_eq]) (by simp) (by simp))
         | (have := ho.lt _ _ _ hq; subst this; exact cmp _ (by simp [intOp, ltA_eq]) (by simp) (by simp)))
theorem psVal_cat (ρ : Nat → Int) : ∀ (a b : List Pc), psVal ρ (catP a b) = psVal ρ a ++ psVal ρ b
  | [], b => rfl
  | p :: a, b => by
    have ih := psVal_cat ρ a b
    unfold catP
    split
    · simp [psVal, Pc.val]
    · simp only [psVal, ih, List.append_assoc]
theorem symShift_ok (ho : OrcOk O E.ρ) {op : BinOp} {t : TypeId} {k k' : IntKind} {a : SE} {n : Int} {v : AV} (h : symShift O op k a n = some v) (w : World) :
    ∃ v', (binOp op t (.int k (a.val E.ρ)) (.int k' n)).run P w = .ok v' w ∧ Rel E v v' := by
  have h' : bi (ltA n 0) none (match op with
    | .shl => some (AV.sint k (O.bin .shl k a (.lit n)))
    | .shr => some (AV.sint k (O.bin .shr k a (.lit n)))
    | _ => none) = some v := h
  cases hn : ltA n 0 <;> rw [hn] at h'
  case true => cases h'
  rw [ltA_eq] at hn
  have hn' : ¬ n < 0 := of_decide_eq_false hn
  rw [bi_false] at h'
  split at h' <;> cases h'
  · obtain ⟨v', h1, h2⟩ := shiftOp_ok (P := P) (E := E) (op := .shl) (k := k) (k' := k') (x := a.val E.ρ) (y := n) t (.inl rfl) (by simp only [shiftOp]; rw [if_neg hn']) w
    cases h2
    refine ⟨_, h1, ?_⟩
    have := Rel.sint (E := E) k (O.bin .shl k a (.lit n))
    rw [ho.bin] at this
    exact this
  · obtain ⟨v', h1, h2⟩ := shiftOp_ok (P := P) (E := E) (op := .shr) (k := k) (k' := k') (x := a.val E.ρ) (y := n) t (.inr rfl) (by simp only [shiftOp]; rw [if_neg hn']) w
    cases h2
    refine ⟨_, h1, ?_⟩
    have := Rel.sint (E := E) k (O.bin .shr k a (.lit n))
    rw [ho.bin] at this
    exact this
theorem psVal_max (ρ : Nat → Int) : ∀ (a : List Pc), (psVal ρ a).length ≤ pcsMax a
  | [] => Nat.le_refl _
  | .lit l :: r => by
    have ih := psVal_max ρ r
    show (l ++ psVal ρ r).length ≤ l.length + pcsMax r
    rw [List.length_append]; omega
  | .dec e :: r => by
    have ih := psVal_max ρ r
    show (((Lib.itoa (e.val ρ)).take 32) ++ psVal ρ r).length ≤ 32 + pcsMax r
    rw [List.length_append, List.length_take]; omega
  | .byt e :: r => by
    have ih := psVal_max ρ r
    show ([UInt8.ofNat (e.val ρ).toNat] ++ psVal ρ r).length ≤ 1 + pcsMax r
    rw [List.length_append, List.length_singleton]; omega
  | .opq b n m :: r => by
    have ih := psVal_max ρ r
    show (((List.range (min (n.val ρ).toNat m)).map fun j => UInt8.ofNat (ρ (b + j)).toNat) ++ psVal ρ r).length ≤ m + pcsMax r
    rw [List.length_append, List.length_map, List.length_range]; omega
theorem pcsPos_ok (ρ : Nat → Int) : ∀ {a : List Pc}, pcsPos a = true → 0 < (psVal ρ a).length
  | .lit (_ :: _) :: _, _ => by simp [psVal, Pc.val]
  | .lit [] :: r, h => by simpa [psVal, Pc.val] using pcsPos_ok ρ (a := r) h
  | .dec _ :: r, h => by
    have := pcsPos_ok ρ (a := r) h
    simp only [psVal, List.length_append]; omega
  | .byt _ :: _, _ => by simp [psVal, Pc.val]
  | .opq _ _ _ :: r, h => by
    have := pcsPos_ok ρ (a := r) h
    simp only [psVal, List.length_append]; omega
theorem pcsEq_ok (ρ : Nat → Int) : ∀ {a b : List Pc}, pcsEq a b = true → psVal ρ a = psVal ρ b := by
  intro a
  induction a with
  | nil =>
    intro b h
    cases b with
    | nil => rfl
    | cons q y => cases h
  | cons p x ih =>
    intro b h
    cases b with
    | nil => cases p <;> cases h
    | cons q y =>
      cases p <;> cases q <;> first | (cases h; done) | skip
      case lit.lit a b =>
        have h : (bytesEq a b && pcsEq x y) = true := h
        rw [Bool.and_eq_true, bytesEq_eq] at h
        have h1 : a = b := by simpa using h.1
        subst h1
        simp only [psVal, ih h.2]
      case dec.dec a b =>
        have h : (seEq a b && pcsEq x y) = true := h
        rw [Bool.and_eq_true] at h
        rw [seEq_ok h.1]
        simp only [psVal, ih h.2]
      case byt.byt a b =>
        have h : (seEq a b && pcsEq x y) = true := h
        rw [Bool.and_eq_true] at h
        rw [seEq_ok h.1]
        simp only [psVal, ih h.2]
      case opq.opq i n m j k q =>
        have h : (Nat.beq i j && (seEq n k && (Nat.beq m q && pcsEq x y))) = true := h
        rw [Bool.and_eq_true, Bool.and_eq_true, Bool.and_eq_true] at h
        have h1 : i = j := by simpa using h.1
        have h2 : m = q := by simpa using h.2.2.1
        rw [h1, h2, seEq_ok h.2.1]
        simp only [psVal, ih h.2.2.2]
theorem leO_ok {ρ : Nat → Int} (ho : OrcOk O ρ) {a b : SE} (h : leO O a b = true) : a.val ρ ≤ b.val ρ := by
  unfold leO at h
  split at h
  · rename_i heq
    have := ho.lt _ _ _ heq
    have := of_decide_eq_false this.symm
    omega
  · cases h
theorem addE_ok {ρ : Nat → Int} (ho : OrcOk O ρ) {a b : SE} {m n : Nat} (h1 : a.val ρ = (m : Int)) (h2 : b.val ρ = (n : Int)) (h : m + n ≤ 1000000) : (addE O a b).val ρ = ((m + n : Nat) : Int) := by
  have key : (O.bin .add .i64 a b).val ρ = ((m + n : Nat) : Int) := by
    rw [ho.bin]
    show IntKind.i64.wrap (a.val ρ + b.val ρ) = _
    rw [h1, h2, IntKind.wrap_i64]
    omega
  cases a <;> first | exact key | skip
  cases b <;> first | exact key | skip
  show _ + _ = _
  simp only [SE.val] at h1 h2
  omega
theorem pcsMax_cons (p : Pc) (r : List Pc) : pcsMax r ≤ pcsMax (p :: r) := by cases p <;> exact Nat.le_add_left _ _
theorem pcLen_ok {ρ : Nat → Int} (ho : OrcOk O ρ) {p : Pc} {e : SE} (h : pcLen O p = some e) : e.val ρ = ((p.val ρ).length : Int) := by
  cases p with
  | lit l => cases h; rfl
  | dec e => cases h
  | byt e => cases h; rfl
  | opq b n m =>
    obtain ⟨h1, h2⟩ := bc_some (show bc (leO O (.lit 0) n) (bc (leO O n (.lit (Int.ofNat m))) (some n)) = some e from h)
    obtain ⟨h3, h4⟩ := bc_some h2
    have he : n = e := Option.some.inj h4
    subst he
    have h1 : (0 : Int) ≤ n.val ρ := leO_ok ho h1
    have h3 : n.val ρ ≤ (m : Int) := leO_ok ho h3
    simp only [Pc.val, List.length_map, List.length_range]
    omega
theorem pcsLen_ok {ρ : Nat → Int} (ho : OrcOk O ρ) : ∀ {ps : List Pc} {e : SE}, pcsLen O ps = some e → pcsMax ps ≤ 1000000 → e.val ρ = ((psVal ρ ps).length : Int)
  | [], e, h, _ => by cases h; rfl
  | p :: r, e, h, hm => by
    obtain ⟨a, h1, h2⟩ := oc_some (show oc (pcLen O p) (fun a => oc (pcsLen O r) fun b => some (addE O a b)) = some e from h)
    obtain ⟨b, h3, h4⟩ := oc_some h2
    cases h4
    have k1 := pcLen_ok ho h1
    have k2 := pcsLen_ok ho h3 (Nat.le_trans (pcsMax_cons p r) hm)
    have k3 := psVal_max ρ (p :: r)
    simp only [psVal, List.length_append] at k3
    rw [addE_ok ho k1 k2 (by omega)]
    simp [psVal]
theorem numV_ok {e : SE} {n : Int} (h : e.val E.ρ = n) : Rel E (numV e) (.int .i64 n) := by
  unfold numV
  split
  · have h : _ = n := h
    subst h
    exact .int _ _
  · rw [← h]; exact .sint _ _
theorem oneLen_ok (ho : OrcOk O E.ρ) {ps : List Pc} {e : SE} (h : oneLen O ps = some e) : e.val E.ρ = ((psVal E.ρ ps).length : Int) := by
  unfold oneLen at h
  split at h
  · have := pcLen_ok ho h
    rw [this]
    simp only [psVal, List.append_nil]
  · cases h
theorem lenV_ok (ho : OrcOk O E.ρ) (ps : List Pc) : Rel E (lenV O ps) (.int .i64 ((psVal E.ρ ps).length : Nat)) := by
  unfold lenV
  split
  · rename_i e he
    exact numV_ok (oneLen_ok ho he)
  split
  · rename_i e he
    cases hb : Nat.ble (pcsMax ps) (nat_lit 1000000) with
    | false => rw [hb] at he; cases he
    | true =>
      rw [hb, bi_true] at he
      have hm : pcsMax ps ≤ 1000000 := by simpa using hb
      exact numV_ok (pcsLen_ok ho he hm)
  · exact .plen _
theorem byte_ne {n : Int} {x : UInt8} (h0 : 0 ≤ n) (h1 : n ≤ 255) (h : n ≠ Int.ofNat x.toNat) : UInt8.ofNat n.toNat ≠ x := by
  intro e
  apply h
  have := congrArg UInt8.toNat e
  rw [UInt8.toNat_ofNat'] at this
  have h2 : n.toNat % 2 ^ 8 = n.toNat := Nat.mod_eq_of_lt (by omega)
  rw [h2] at this
  show n = (x.toNat : Int)
  omega
theorem range_map_succ (f : Nat → UInt8) (n : Nat) : (List.range (n + 1)).map f = f 0 :: (List.range n).map fun j => f (j + 1) := by
  rw [List.range_succ_eq_map]
  simp
theorem bytesO_ok {ρ : Nat → Int} (ho : OrcOk O ρ) : ∀ {l : List UInt8} {b : Nat} {q : Bool}, bytesO O b l = some q → q = decide (((List.range l.length).map fun j => UInt8.ofNat (ρ (b + j)).toNat) = l)
  | [], b, q, h => by cases h; rfl
  | x :: r, b, q, h => by
    unfold bytesO at h
    rw [List.length_cons, range_map_succ]
    split at h
    · rename_i heq
      have e := of_decide_eq_true (ho.eq _ _ _ heq).symm
      have e : ρ b = Int.ofNat x.toNat := e
      rw [bytesO_ok ho h]
      have e2 : UInt8.ofNat (ρ (b + 0)).toNat = x := by
        rw [Nat.add_zero, e]
        show UInt8.ofNat x.toNat = x
        simp
      rw [e2]
      have e3 : (fun j => UInt8.ofNat (ρ (Nat.succ b + j)).toNat) = fun j => UInt8.ofNat (ρ (b + (j + 1))).toNat := by
        funext j
        rw [show Nat.succ b + j = b + (j + 1) by omega]
      rw [e3]
      simp
    · rename_i heq
      obtain ⟨h1, h⟩ := bc_some h
      obtain ⟨h2, h⟩ := bc_some h
      cases h
      have e := of_decide_eq_false (ho.eq _ _ _ heq).symm
      have h1 : (0 : Int) ≤ ρ b := leO_ok ho h1
      have h2 : ρ b ≤ 255 := leO_ok ho h2
      have := byte_ne h1 h2 e
      symm
      apply decide_eq_false
      intro k
      exact this (List.cons.inj k).1
    · cases h
theorem opqLit_ok {ρ : Nat → Int} (ho : OrcOk O ρ) {b m : Nat} {n : SE} {l : List UInt8} {q : Bool} (h : opqLit O b n m l = some q) : q = decide (Pc.val ρ (.opq b n m) = l) := by
  obtain ⟨h1, h⟩ := bc_some h
  obtain ⟨h2, h⟩ := bc_some h
  have h1 : (0 : Int) ≤ n.val ρ := leO_ok ho h1
  have h2 : n.val ρ ≤ (m : Int) := leO_ok ho h2
  split at h
  · rename_i heq
    have e := of_decide_eq_true (ho.eq _ _ _ heq).symm
    have e : n.val ρ = (l.length : Int) := e
    rw [bytesO_ok ho h]
    have : min (n.val ρ).toNat m = l.length := by omega
    simp only [Pc.val, this]
  · rename_i heq
    have e := of_decide_eq_false (ho.eq _ _ _ heq).symm
    have e : ¬ n.val ρ = (l.length : Int) := e
    cases h
    symm
    apply decide_eq_false
    intro k
    have := congrArg List.length k
    simp only [Pc.val, List.length_map, List.length_range] at this
    omega
  · cases h
theorem litNil_ok (ρ : Nat → Int) {a : List Pc} (h : litNil a = true) : psVal ρ a = [] := by
  unfold litNil at h
  split at h
  · rfl
  · rfl
  · cases h
theorem pcsDiff_ok {ρ : Nat → Int} (ho : OrcOk O ρ) {a b : List Pc} (h : pcsDiff O a b = true) : psVal ρ a ≠ psVal ρ b := by
  unfold pcsDiff at h
  cases hb : (Nat.ble (pcsMax a) (nat_lit 1000000) && Nat.ble (pcsMax b) (nat_lit 1000000)) with
  | false => rw [hb, bi_false] at h; cases h
  | true =>
    rw [hb, bi_true] at h
    rw [Bool.and_eq_true] at hb
    have m1 : pcsMax a ≤ 1000000 := by simpa using hb.1
    have m2 : pcsMax b ≤ 1000000 := by simpa using hb.2
    split at h
    · rename_i x y h1 h2
      split at h
      · rename_i heq
        have e := of_decide_eq_false (ho.eq _ _ _ heq).symm
        rw [pcsLen_ok ho h1 m1, pcsLen_ok ho h2 m2] at e
        intro k
        rw [k] at e
        exact e rfl
      · cases h
    · cases h
theorem psVal_lone (ρ : Nat → Int) (p : Pc) : psVal ρ [p] = p.val ρ := by simp [psVal]
theorem eqBytes_ok {ρ : Nat → Int} (ho : OrcOk O ρ) : ∀ {a : List Pc} {l : List UInt8} {q : Bool}, eqBytes O a l = some q → q = decide (psVal ρ a = l)
  | [], [], q, h => by cases h; rfl
  | .byt e :: r, x :: l, q, h => by
    have hv : psVal ρ (.byt e :: r) = UInt8.ofNat (e.val ρ).toNat :: psVal ρ r := rfl
    have hb : ∀ {p : Bool}, O.eq (byteE e) (.lit (Int.ofNat x.toNat)) = some p → p = decide (UInt8.ofNat (e.val ρ).toNat = x) := by
      intro p hp
      have := ho.eq _ _ _ hp
      rw [this, byteE_val]
      refine decide_eq_decide.2 ⟨fun k => ?_, fun k => by rw [k]; rfl⟩
      have k : (UInt8.ofNat (e.val ρ).toNat).toNat = x.toNat := Int.ofNat.inj k
      exact UInt8.toNat_inj.1 k
    rw [hv]
    unfold eqBytes at h
    split at h
    · rename_i hp
      have h1 := of_decide_eq_true (hb hp).symm
      rw [eqBytes_ok ho h]
      refine decide_eq_decide.2 ⟨fun k => by rw [h1, k], fun k => (List.cons.inj k).2⟩
    · rename_i hp
      cases h
      have h1 := of_decide_eq_false (hb hp).symm
      exact (decide_eq_false fun k => h1 (List.cons.inj k).1).symm
    · cases h
  | [], _ :: _, _, h => by cases h
  | .lit _ :: _, _, _, h => by unfold eqBytes at h; cases h
  | .dec _ :: _, _, _, h => by unfold eqBytes at h; cases h
  | .opq _ _ _ :: _, _, _, h => by unfold eqBytes at h; cases h
  | .byt _ :: _, [], _, h => by unfold eqBytes at h; cases h
theorem bytesEqO_ok {ρ : Nat → Int} (ho : OrcOk O ρ) {a b : List Pc} {q : Bool} (h : bytesEqO O a b = some q) : q = decide (psVal ρ a = psVal ρ b) := by
  unfold bytesEqO at h
  split at h
  · rw [eqBytes_ok ho h, psVal_lone]
    rfl
  · rw [eqBytes_ok ho h, psVal_lone]
    exact decide_eq_decide.2 ⟨Eq.symm, Eq.symm⟩
  · cases h
theorem pcsEqO_ok {ρ : Nat → Int} (ho : OrcOk O ρ) {a b : List Pc} {q : Bool} (h : pcsEqO O a b = some q) : q = decide (psVal ρ a = psVal ρ b) := by
  unfold pcsEqO at h
  cases h1 : pcsEq a b with
  | true =>
    rw [h1, bi_true] at h
    cases h
    exact (decide_eq_true (pcsEq_ok ρ h1)).symm
  | false =>
    rw [h1, bi_false] at h
    cases h2 : ((litNil a && pcsPos b) || (litNil b && pcsPos a)) with
    | true =>
      rw [h2, bi_true] at h
      cases h
      symm
      apply decide_eq_false
      intro k
      rw [Bool.or_eq_true, Bool.and_eq_true, Bool.and_eq_true] at h2
      rcases h2 with ⟨h3, h4⟩ | ⟨h3, h4⟩
      · have := pcsPos_ok ρ h4
        rw [← k, litNil_ok ρ h3] at this
        simp at this
      · have := pcsPos_ok ρ h4
        rw [k, litNil_ok ρ h3] at this
        simp at this
    | false =>
      rw [h2, bi_false] at h
      split at h
      · have := opqLit_ok ho h
        rw [psVal_lone, psVal_lone]
        exact this
      · have := opqLit_ok ho h
        rw [psVal_lone, psVal_lone, this]
        exact decide_eq_decide.2 ⟨Eq.symm, Eq.symm⟩
      · cases h3 : pcsDiff O a b with
        | false => rw [h3, bi_false] at h; exact bytesEqO_ok ho h
        | true =>
          rw [h3, bi_true] at h
          cases h
          exact (decide_eq_false (pcsDiff_ok ho h3)).symm
theorem pstrOp_ok (ho : OrcOk O E.ρ) {op : BinOp} {a b : List Pc} {v : AV} (t : TypeId) (h : pstrOp O op a b = some v) (w : World) :
    ∃ v', (binOp op t (.string ⟨(psVal E.ρ a).toArray⟩) (.string ⟨(psVal E.ρ b).toArray⟩)).run P w = .ok v' w ∧ Rel E v v' := by
  cases op <;> simp only [pstrOp] at h <;> first | (cases h; done) | skip
  case add =>
    obtain ⟨hl, h1⟩ := bc_some h
    cases h1
    have hl' : pcsMax a + pcsMax b ≤ 1000000 := by simpa using hl
    have h1 := psVal_max E.ρ a
    have h2 := psVal_max E.ρ b
    obtain ⟨v', h3, h4⟩ := strOp_ok (P := P) (E := E) (op := .add) (x := psVal E.ρ a) (y := psVal E.ρ b) t (by simp only [strOp]; rw [if_neg (by omega)]) w
    cases h4
    exact ⟨_, h3, by rw [← psVal_cat]; exact .pstr _⟩
  case eql =>
    obtain ⟨q, hq, rfl⟩ := Option.map_eq_some_iff.1 h
    have := pcsEqO_ok ho hq
    obtain ⟨v', h3, h4⟩ := strOp_ok (P := P) (E := E) (op := .eql) (x := psVal E.ρ a) (y := psVal E.ρ b) t rfl w
    rw [bytesEq_eq, show (psVal E.ρ a == psVal E.ρ b) = q from by rw [this]; exact Bool.eq_iff_iff.2 (by simp)] at h4
    exact ⟨v', h3, h4⟩
  case neq =>
    obtain ⟨q, hq, rfl⟩ := Option.map_eq_some_iff.1 h
    have := pcsEqO_ok ho hq
    obtain ⟨v', h3, h4⟩ := strOp_ok (P := P) (E := E) (op := .neq) (x := psVal E.ρ a) (y := psVal E.ρ b) t rfl w
    rw [bytesEq_eq, show (psVal E.ρ a == psVal E.ρ b) = q from by rw [this]; exact Bool.eq_iff_iff.2 (by simp)] at h4
    exact ⟨v', h3, h4⟩
theorem psVal_one (ρ : Nat → Int) (l : List UInt8) : psVal ρ [.lit l] = l := by simp [psVal, Pc.val]
theorem binA_ok (ho : OrcOk O E.ρ) {op : BinOp} {t : TypeId} {x y v : AV} {x' y' : Value} (h : binA O P op t x y = some v) (hx : Rel E x x') (hy : Rel E y y') (w : World) :
    ∃ v', (binOp op t x' y').run P w = .ok v' w ∧ Rel E v v' ∧ ∀ ox oy, (eqGuard op t ox oy x' y').run P w = .ok () w := by
  unfold binA at h
  split at h
  · rename_i k a k' b
    cases hx
    cases hy
    have hgu : ∀ ox oy, (eqGuard op t ox oy (.int k a) (.int k' b)).run P w = .ok () w := fun ox oy => by cases op <;> rfl
    split at h
    · obtain ⟨v', h1, h2⟩ := shiftOp_ok (P := P) (E := E) (k' := k') t (.inl rfl) h w
      exact ⟨v', h1, h2, hgu⟩
    · obtain ⟨v', h1, h2⟩ := shiftOp_ok (P := P) (E := E) (k' := k') t (.inr rfl) h w
      exact ⟨v', h1, h2, hgu⟩
    · rename_i hn1 hn2
      split at h
      · rename_i hk
        subst hk
        obtain ⟨v', h1, h2⟩ := intOp_ok (P := P) (E := E) t (by simpa using hn1) (by simpa using hn2) h w
        exact ⟨v', h1, h2, hgu⟩
      · cases h
  · cases hx
    cases hy
    obtain ⟨v', h1, h2⟩ := strOp_ok (P := P) (E := E) t h w
    exact ⟨v', h1, h2, fun ox oy => by cases op <;> rfl⟩
  · cases hx
    rename_i xs hx
    cases hy
    rename_i ys hy
    split at h
    · obtain ⟨q, hq, rfl⟩ := Option.map_eq_some_iff.1 h
      obtain ⟨h1, h2⟩ := eqAgg_ok ho hq hx hy w
      exact ⟨.bool q, by simp [show binOp .eql t (.agg xs) (.agg ys) = (do pure (.bool (← Op.equal t (.agg xs) (.agg ys)))) from rfl, h1], .bool _, h2 _⟩
    · obtain ⟨q, hq, rfl⟩ := Option.map_eq_some_iff.1 h
      obtain ⟨h1, h2⟩ := eqAgg_ok ho hq hx hy w
      exact ⟨.bool !q, by simp [show binOp .neq t (.agg xs) (.agg ys) = (do pure (.bool (!(← Op.equal t (.agg xs) (.agg ys))))) from rfl, h1], .bool _, h2 _⟩
    · cases h
  · cases hx
    cases hy
    split at h
    · obtain ⟨v', h1, h2⟩ := symShift_ok (P := P) ho h w
      exact ⟨v', h1, h2, fun ox oy => by rfl⟩
    · obtain ⟨v', h1, h2⟩ := symShift_ok (P := P) ho h w
      exact ⟨v', h1, h2, fun ox oy => by rfl⟩
    · exact symOp_ok ho h w
  · cases hx
    cases hy
    exact symOp_ok ho h w
  · cases hx
    cases hy
    exact symOp_ok ho h w
  · rename_i a b
    cases hx
    cases hy
    obtain ⟨v', h1, h2⟩ := pstrOp_ok (P := P) (E := E) ho t h w
    rw [psVal_one] at h1
    exact ⟨v', h1, h2, fun ox oy => by cases op <;> rfl⟩
  · rename_i a b
    cases hx
    cases hy
    obtain ⟨v', h1, h2⟩ := pstrOp_ok (P := P) (E := E) ho t h w
    rw [psVal_one] at h1
    exact ⟨v', h1, h2, fun ox oy => by cases op <;> rfl⟩
  · rename_i a b
    cases hx
    cases hy
    obtain ⟨v', h1, h2⟩ := pstrOp_ok (P := P) (E := E) ho t h w
    exact ⟨v', h1, h2, fun ox oy => by cases op <;> rfl⟩
  · split at h
    · rename_i ht
      split at h
      · cases hb : nilEq x y with
        | none => rw [hb] at h; cases h
        | some b =>
          rw [hb] at h; cases h
          obtain ⟨h1, h2, h3, _⟩ := nilEq_ok ht hb hx hy w
          exact ⟨.bool b, by rw [h3]; simp [h1], .bool b, fun ox oy => by rw [h2]; rfl⟩
      · cases hb : nilEq x y with
        | none => rw [hb] at h; cases h
        | some b =>
          rw [hb] at h; cases h
          obtain ⟨h1, h2, _, h3⟩ := nilEq_ok ht hb hx hy w
          exact ⟨.bool !b, by rw [h3]; simp [h1], .bool _, fun ox oy => by rw [h2]; rfl⟩
      · cases h
    · cases h
theorem unA_ok (ho : OrcOk O E.ρ) {op : UnOp} {x v : AV} {x' : Value} (h : unA O op x = some v) (hx : Rel E x x') (w : World) : ∃ v', (Op.unary op x').run P w = .ok v' w ∧ Rel E v v' := by
  unfold unA at h
  split at h
  · rename_i k e
    cases h; cases hx
    refine ⟨.int k (k.wrap (0 - e.val E.ρ)), rfl, ?_⟩
    have := Rel.sint (E := E) k (O.bin .sub k (.lit 0) e)
    rw [ho.bin] at this
    exact this
  · cases h; cases hx; exact ⟨_, rfl, .bool _⟩
  · cases h; cases hx; rw [wrapA_eq]; exact ⟨_, rfl, .int _ _⟩
  · cases h; cases hx; exact ⟨_, rfl, .int _ _⟩
  · cases h
theorem addr_add (b off n : Nat) : (⟨b, off, none⟩ : Addr).add n = ⟨b, off + n, none⟩ := by unfold Addr.add; split <;> simp_all
theorem natOf_some {n : Int} {m : Nat} (h : natOf n = some m) : n = (m : Int) := by
  cases n with
  | ofNat k => cases h; rfl
  | negSucc k => cases h
theorem concF_ok {ρ : Nat → Int} (ho : OrcOk O ρ) {e : SE} : ∀ {m i : Nat} {n : Int}, concF O e m i = some n → e.val ρ = n
  | 0, _, _, h => by cases h
  | m + 1, i, n, h => by
    unfold concF at h
    split at h
    · rename_i heq
      cases h
      exact of_decide_eq_true (ho.eq _ _ _ heq).symm
    · exact concF_ok ho h
    · cases h
theorem concA_ok (ho : OrcOk O E.ρ) {n : Nat} {ix i : AV} {v : Value} (h : concA O n ix = some i) (hr : Rel E ix v) : Rel E i v := by
  unfold concA at h
  split at h
  · rename_i k e
    obtain ⟨j, h1, rfl⟩ := Option.map_eq_some_iff.1 h
    cases hr
    rw [concF_ok ho h1]
    exact .int _ _
  · cases h
    exact hr
theorem indexAtA_ok {t : TypeId} {x ix v : AV} {x' ix' : Value} (h : indexAtA P t x ix = some v) (hx : Rel E x x') (hi : Rel E ix ix') (w : World) :
    ∃ v', (Instr.indexAt t x' ix').run P w = .ok v' w ∧ Rel E v v' := by
  cases hi <;> simp only [indexAtA, AV.intC] at h <;> first | (cases h; done) | skip
  rename_i k n
  obtain ⟨m, hm, h'⟩ := oc_some h
  clear h
  have hn := natOf_some hm
  subst hn
  have h := h'
  clear h'
  cases hu : P.underlying t with
  | none => simp [hu] at h
  | some d =>
    cases d <;> cases hx <;> simp only [hu] at h <;> first | (cases h; done) | skip
    all_goals
      obtain ⟨z, hz, h⟩ := oc_some h
      obtain ⟨hlt, h⟩ := bc_some h
      cases h
      have hlt' := Eq.mp Nat.blt_eq hlt
      first
        | (refine ⟨_, ?_, .ptr (by assumption)⟩
           simp [Instr.indexAt, asIntOf, und_run hu, Instr.sureAddr, hlt', szOf_run hz, addr_add]; done)
        | (refine ⟨_, ?_, .aptr (by assumption)⟩
           simp [Instr.indexAt, asIntOf, und_run hu, Instr.sureAddr, hlt', szOf_run hz, addr_add, Nat.add_assoc]; done)
theorem nth_get {α : Type} : ∀ (l : List α) (n : Nat), nth l n = l[n]?
  | [], n => by simp; rfl
  | x :: l, 0 => rfl
  | x :: l, n + 1 => by
    have := nth_get l n
    simp only [List.getElem?_cons_succ]
    exact this
theorem RelL.nth {l : List AV} {m : List Value} (h : RelL E l m) : ∀ {n : Nat} {v : AV}, l[n]? = some v → ∃ v', m[n]? = some v' ∧ Rel E v v' := by
  intro n
  induction n generalizing l m with
  | zero =>
    intro v hv
    cases h with
    | nil => cases hv
    | cons k t => simp at hv; subst hv; exact ⟨_, rfl, k⟩
  | succ n ih =>
    intro v hv
    cases h with
    | nil => cases hv
    | cons k t => exact ih t hv
theorem partA_ok {t : TypeId} {cs : List AV} {v : AV} {off : Nat} {a : Array Value} (h : partA P t cs off = some v) (hr : RelL E cs a.toList) (w : World) :
    ∃ v', (part t a off).run P w = .ok v' w ∧ Rel E v v' := by
  unfold partA at h
  split at h
  · rename_i hg
    split at h
    · rename_i n hn
      cases hx : takeN n (dropN off cs) with
      | none => rw [hx] at h; cases h
      | some l =>
        rw [hx] at h; cases h
        obtain ⟨rfl, hle⟩ := takeN_some _ hx
        rw [dropN_eq]
        refine ⟨.agg (a.extract off (off + n)), by simp [part, isAggB_run hg, szOf_run hn], .agg ?_⟩
        have := (hr.drop off).take n
        simpa [Array.toList_extract, List.extract_eq_take_drop] using this
    · cases h
  · rename_i hg
    rw [nth_get] at h
    obtain ⟨v', h1, h2⟩ := hr.nth h
    refine ⟨v', ?_, h2⟩
    have : a[off]? = some v' := by rw [← Array.getElem?_toList]; exact h1
    simp [part, isAggB_run hg, this]
  · cases h
theorem fieldA_ok {t : TypeId} {x v : AV} {x' : Value} {f : Nat} (h : fieldA P t x f = some v) (hx : Rel E x x') (w : World) : ∃ v', (Instr.field t x' f).run P w = .ok v' w ∧ Rel E v v' := by
  unfold fieldA at h
  split at h
  · rename_i fs cs hu
    split at h
    · rename_i fd hf
      rw [nth_get, Array.getElem?_toList] at hf
      cases hx
      rename_i a hr
      obtain ⟨v', h1, h2⟩ := partA_ok h hr w
      exact ⟨v', by simp [Instr.field, und_run hu, hf, asAgg, h1], h2⟩
    · cases h
  · cases h
theorem fieldAtA_ok {t : TypeId} {x v : AV} {x' : Value} {f : Nat} (h : fieldAtA P t x f = some v) (hx : Rel E x x') (w : World) : ∃ v', (Instr.fieldAt t x' f).run P w = .ok v' w ∧ Rel E v v' := by
  unfold fieldAtA at h
  split at h
  · rename_i fs i off hu
    split at h
    · rename_i fd hf
      rw [nth_get, Array.getElem?_toList] at hf
      split at h
      · cases h
      · rename_i n hn
        cases h
        cases hx
        rename_i b hb
        refine ⟨.pointer (some ⟨b, off + fd.offset, none⟩), ?_, .ptr hb⟩
        simp [Instr.fieldAt, und_run hu, hf, Instr.sureAddr, fieldPlace, szOf_run hn, addr_add]
      · cases h
    · cases h
  · cases h
theorem bytesP_rel : ∀ {ps : List Pc} {cs : List AV}, bytesP ps = some cs → RelL E cs (bytesV (psVal E.ρ ps))
  | [], cs, h => by cases h; exact .nil
  | .lit l :: r, cs, h => by
    obtain ⟨m, h1, h2⟩ := oc_some (show oc (bytesP r) (fun m => some (ofBytes l ++ m)) = some cs from h)
    cases h2
    have : bytesV (psVal E.ρ (.lit l :: r)) = bytesV l ++ bytesV (psVal E.ρ r) := by
      show (l ++ psVal E.ρ r).map _ = _
      rw [List.map_append]; rfl
    rw [this]
    refine RelL.append ?_ (bytesP_rel h1)
    have hl : ∀ l : List UInt8, RelL E (ofBytes l) (bytesV l) := fun l => by
      induction l with
      | nil => exact .nil
      | cons b r ih => exact .cons (.int _ _) ih
    exact hl l
  | .byt e :: r, cs, h => by
    obtain ⟨m, h1, h2⟩ := oc_some (show oc (bytesP r) (fun m => some (.sint .u8 (byteE e) :: m)) = some cs from h)
    cases h2
    refine .cons ?_ (bytesP_rel h1)
    have := Rel.sint (E := E) .u8 (byteE e)
    rw [byteE_val] at this
    exact this
  | .dec _ :: _, _, h => by cases h
  | .opq _ _ _ :: _, _, h => by cases h
theorem bytesP_length : ∀ {ps : List Pc} {cs : List AV}, bytesP ps = some cs → cs.length = (psVal E.ρ ps).length := fun {ps cs} h => by
  have := (bytesP_rel (E := E) h).length
  rw [this]
  show ((psVal E.ρ ps).map _).length = _
  rw [List.length_map]
theorem indexA_ok {t : TypeId} {x ix v : AV} {x' ix' : Value} (h : indexA P t x ix = some v) (hx : Rel E x x') (hi : Rel E ix ix') (w : World) :
    ∃ v', (Instr.index t x' ix').run P w = .ok v' w ∧ Rel E v v' := by
  unfold indexA at h
  split at h
  case h_2 => cases h
  cases hi
  rename_i k n
  split at h
  case h_2 => cases h
  rename_i m hm
  have hn := natOf_some hm
  subst hn
  split at h
  · rename_i len e cs hu
    split at h
    · rename_i z hz hlt
      cases hx
      rename_i a hr
      obtain ⟨v', h1, h2⟩ := partA_ok h hr w
      have hlt' : m < len := by simpa using hlt
      exact ⟨v', by simpa [Instr.index, asIntOf, und_run hu, hlt', szOf_run hz] using h1, h2⟩
    · cases h
  · rename_i l hu
    split at h
    · rename_i b hb
      cases h
      cases hx
      rw [nth_get] at hb
      have hget : (ByteArray.mk l.toArray)[m]? = some b := by
        show (if h : m < (ByteArray.mk l.toArray).size then some ((ByteArray.mk l.toArray)[m]) else none) = some b
        obtain ⟨hm', hb'⟩ := List.getElem?_eq_some_iff.1 hb
        rw [dif_pos (by simpa [ByteArray.size] using hm')]
        congr 1
      exact ⟨.int .u8 b.toNat, by simp [Instr.index, asIntOf, und_run hu, hget], .int _ _⟩
    · cases h
  · rename_i ps hu
    obtain ⟨cs, h1, h2⟩ := oc_some h
    cases hx
    rw [nth_get] at h2
    have hr := bytesP_rel (E := E) h1
    have hget : ∃ b : UInt8, (ByteArray.mk (psVal E.ρ ps).toArray)[m]? = some b ∧ Rel E v (.int .u8 b.toNat) := by
      obtain ⟨y, hy, hv⟩ := RelL.nth hr h2
      have hy : ((psVal E.ρ ps).map fun b => Value.int .u8 b.toNat)[m]? = some y := hy
      rw [List.getElem?_map] at hy
      cases hb : (psVal E.ρ ps)[m]? with
      | none => rw [hb] at hy; cases hy
      | some b =>
        rw [hb] at hy
        cases hy
        refine ⟨b, ?_, hv⟩
        show (if h : m < (ByteArray.mk (psVal E.ρ ps).toArray).size then some ((ByteArray.mk (psVal E.ρ ps).toArray)[m]) else none) = some b
        obtain ⟨hm', hb'⟩ := List.getElem?_eq_some_iff.1 hb
        rw [dif_pos (by simpa [ByteArray.size] using hm')]
        congr 1
    obtain ⟨b, hb, hv⟩ := hget
    exact ⟨.int .u8 b.toNat, by simp [Instr.index, asIntOf, und_run hu, hb], hv⟩
  · cases h
end
end Ev
end Go.Proofs.YtnjpdipombnigaaGreatDoor
namespace Go.Proofs.YtnjpdipombnigaaGreatDoor
namespace Ev
open Go.RowKit

section
variable {P : Program} {E : Env}

inductive RelO (E : Env) : Option AV → Option Value → Prop
  | none : RelO E none none
  | some {x : AV} {y : Value} (h : Rel E x y) : RelO E (some x) (some y)

theorem opdO_ok {nt : Nat} {a : T AV} {ac : Act} (hg : ∀ g, g < 64 → (E g).at g) (ht : TRel E nt a ac.tmps) {x : Option Operand} {v : Option AV} (h : opdO a x = some v) : RelO E v (x.map ac.eval) := by
  cases x with
  | none => cases h; exact .none
  | some x =>
    obtain ⟨y, h1, h2⟩ := oc_some (show oc (opd a x) (fun v => some (some v)) = some v from h)
    cases h2
    exact .some (opd_ok hg ht h1)

/-- A bound: it isn't there, or is a number. -/
theorem numO_ok {o : Option AV} {o' : Option Value} {d a : Nat} (h : numO o d = some a) (hr : RelO E o o') : (o' = none ∧ a = d) ∨ ∃ k, o' = some (.int k (a : Int)) := by
  cases hr with
  | none => cases h; exact .inl ⟨rfl, rfl⟩
  | some hx =>
    cases hx <;> simp only [numO, AV.intC] at h <;> first | (cases h; done) | skip
    exact .inr ⟨_, by rw [natOf_some h]⟩
theorem run_sliceBound (k : IntKind) (a y : Nat) (code : BoundsCode) (h : a ≤ y) (w : World) : (Instr.sliceBound (.int k (a : Int)) y code).run P w = .ok a w := by
  simp [Instr.sliceBound, asIntOf, h]
theorem run_bounds2 {isS : Bool} {len cap a b : Nat} {lo hi : Option AV} {lo' hi' : Option Value} (h1 : numO lo 0 = some a) (h2 : numO hi len = some b) (r1 : RelO E lo lo') (r2 : RelO E hi hi') (hab : a ≤ b) (hbc : b ≤ cap) (w : World) :
    (Instr.sliceBounds isS len cap lo' hi' none).run P w = .ok (a, b, cap) w := by
  rcases numO_ok h1 r1 with ⟨rfl, rfl⟩ | ⟨k, rfl⟩ <;> rcases numO_ok h2 r2 with ⟨rfl, rfl⟩ | ⟨k', rfl⟩ <;> simp [Instr.sliceBounds, run_sliceBound, hab, hbc]
theorem run_bounds3 {isS : Bool} {len cap a b m : Nat} {lo : Option AV} {hi mx : AV} {lo' : Option Value} {hi' mx' : Value} (h1 : numO lo 0 = some a) (h2 : numO (some hi) 0 = some b) (h3 : numO (some mx) 0 = some m)
    (r1 : RelO E lo lo') (r2 : Rel E hi hi') (r3 : Rel E mx mx') (hab : a ≤ b) (hbm : b ≤ m) (hmc : m ≤ cap) (w : World) :
    (Instr.sliceBounds isS len cap lo' (some hi') (some mx')).run P w = .ok (a, b, m) w := by
  rcases numO_ok h1 r1 with ⟨rfl, rfl⟩ | ⟨k, rfl⟩ <;> rcases numO_ok h2 (.some r2) with ⟨hc, _⟩ | ⟨k', hc⟩ <;> first | (cases hc; done) | skip
  all_goals
    rcases numO_ok h3 (.some r3) with ⟨hd, _⟩ | ⟨k'', hd⟩ <;> first | (cases hd; done) | skip
    cases hc
    cases hd
    simp [Instr.sliceBounds, run_sliceBound, hab, hbm, hmc]
theorem extract_mk (l : List UInt8) (a b : Nat) : (ByteArray.mk l.toArray).extract a b = ⟨((l.drop a).take (b - a)).toArray⟩ := by
  apply ByteArray.ext
  apply Array.ext'
  simp [ByteArray.data_extract, Array.toList_extract, List.extract_eq_take_drop]
theorem beq_bi {α : Type} (m n : Nat) (x y : α) : bi (Nat.beq m n) x y = if m = n then x else y := by
  by_cases h : m = n
  · rw [if_pos h, h, show Nat.beq n n = true from by simp]; rfl
  · rw [if_neg h]
    have : Nat.beq m n = false := by cases hb : Nat.beq m n with | false => rfl | true => exact absurd (Nat.eq_of_beq_eq_true hb) h
    rw [this]; rfl
theorem sliceOf_ok {t : TypeId} {x v : AV} {x' : Value} {lo hi mx : Option AV} {lo' hi' mx' : Option Value} (h : sliceOf P t x lo hi mx = some v) (hx : Rel E x x') (r1 : RelO E lo lo') (r2 : RelO E hi hi') (r3 : RelO E mx mx') (w : World) :
    ∃ v', (Instr.sliceAt t x' lo' hi' mx').run P w = .ok v' w ∧ Rel E v v' := by
  cases hu : P.underlying t with
  | none => simp [sliceOf, hu] at h
  | some d =>
    cases d <;> cases hx <;> simp only [sliceOf, hu] at h <;> first | (cases h; done) | skip
    case string.str l =>
      cases r3 <;> (try simp only at h)
      case some => cases h
      obtain ⟨a, ha, h⟩ := oc_some h
      obtain ⟨b, hb, h⟩ := oc_some h
      obtain ⟨hab, h⟩ := bc_some h
      obtain ⟨hbc, h⟩ := bc_some h
      cases h
      refine ⟨_, ?_, .str _⟩
      have hr := run_bounds2 (P := P) (isS := false) (cap := l.length) ha hb r1 r2 (by simpa using hab) (by simpa using hbc) w
      have hsz : (ByteArray.mk l.toArray).size = l.length := by simp [ByteArray.size]
      simp [Instr.sliceAt, Instr.slice, und_run hu, hsz, hr, extract_mk]
    case slice.slice e i off len dr b c cap hb hc =>
      obtain ⟨n, hn, h⟩ := oc_some h
      cases r3 <;> (try simp only at h)
      case none =>
        cases cap with
        | some c0 =>
          try simp only at h
          cases hc
          obtain ⟨p, hp, h⟩ := oc_some h
          obtain ⟨q, hq, h⟩ := oc_some h
          obtain ⟨hpq, h⟩ := bc_some h
          obtain ⟨hqc, h⟩ := bc_some h
          cases h
          have hr := run_bounds2 (P := P) (isS := true) (cap := c) hp hq r1 r2 (by simpa using hpq) (by simpa using hqc) w
          refine ⟨_, by simp [Instr.sliceAt, Instr.slice, und_run hu, hr, szOf_run hn]; rfl, ?_⟩
          rw [beq_bi]
          by_cases hcp : c = p
          · rw [if_pos hcp, if_pos hcp]; exact .slice hb rfl
          · rw [if_neg hcp, if_neg hcp, addr_add]; exact .slice hb rfl
        | none =>
          try simp only at h
          obtain ⟨p, hp, h⟩ := oc_some h
          obtain ⟨q, hq, h⟩ := oc_some h
          obtain ⟨hpq, h⟩ := bc_some h
          obtain ⟨hql, h⟩ := bc_some h
          obtain ⟨hlc, hcx⟩ := hc
          have hpq' : p ≤ q := by simpa using hpq
          have hql' : q ≤ len := by simpa using hql
          cases hpl : (Nat.blt p len || Nat.beq p (nat_lit 0)) with
          | false =>
            rw [hpl, bi_false] at h
            cases h
            have hpl' : ¬ (p < len ∨ p = 0) := fun hh => by
              have : (Nat.blt p len || Nat.beq p 0) = true := by simpa using hh
              rw [show Nat.beq p (nat_lit 0) = Nat.beq p 0 from rfl, this] at hpl
              cases hpl
            have hr := run_bounds2 (P := P) (isS := true) (cap := c) hp hq r1 r2 hpq' (by omega) w
            refine ⟨_, by simp [Instr.sliceAt, Instr.slice, und_run hu, hr, szOf_run hn]; rfl, ?_⟩
            rw [show q - p = 0 from by omega]
            by_cases hcp : c = p
            · rw [if_pos hcp]; exact .eslice
            · rw [if_neg hcp]; exact .eslice
          | true =>
          rw [hpl, bi_true] at h
          cases h
          have hpl' : p < len ∨ p = 0 := by simpa using hpl
          have hr := run_bounds2 (P := P) (isS := true) (cap := c) hp hq r1 r2 hpq' (by omega) w
          refine ⟨_, by simp [Instr.sliceAt, Instr.slice, und_run hu, hr, szOf_run hn]; rfl, ?_⟩
          have hc2 : capOk (E i) none (dr + p) (q - p) (c - p) := by
            refine ⟨by omega, ?_⟩
            cases hE : E i with
            | unborn => rw [hE] at hcx; exact hcx
            | live bb CC => rw [hE] at hcx; simp only at hcx ⊢; omega
            | dead => trivial
          by_cases hcp : c = p
          · have hp0 : p = 0 := by omega
            subst hp0
            rw [if_pos hcp]
            simpa using Rel.slice (off := off) hb hc2
          · rw [if_neg hcp, addr_add]; exact .slice hb hc2
      case some =>
        rename_i mxv mxv' rmx hold
        cases r2 <;> (try simp only at h)
        case none => cases h
        rename_i hiv hiv' rhi
        have fin : ∀ cc, cc ≤ c → sliceMax i off cc n lo hiv mxv = some v → ∃ v', (Instr.sliceAt t (.slice (some ⟨b, off, none⟩) len c) lo' (some hiv') (some mxv')).run P w = .ok v' w ∧ Rel E v v' := by
          intro cc hcc h
          obtain ⟨p, hp, h⟩ := oc_some h
          obtain ⟨q, hq, h⟩ := oc_some h
          obtain ⟨m, hm, h⟩ := oc_some h
          obtain ⟨hpq, h⟩ := bc_some h
          obtain ⟨hqm, h⟩ := bc_some h
          obtain ⟨hmc, h⟩ := bc_some h
          cases h
          have hmc' : m ≤ cc := by simpa using hmc
          have hr := run_bounds3 (P := P) (isS := true) (len := len) (cap := c) hp hq hm r1 rhi rmx (by simpa using hpq) (by simpa using hqm) (by omega) w
          refine ⟨_, by simp [Instr.sliceAt, Instr.slice, und_run hu, hr, szOf_run hn]; rfl, ?_⟩
          rw [beq_bi]
          by_cases hcp : m = p
          · rw [if_pos hcp, if_pos hcp]; exact .slice hb rfl
          · rw [if_neg hcp, if_neg hcp, addr_add]; exact .slice hb rfl
        cases cap with
        | some c0 => cases hc; exact fin _ (Nat.le_refl _) h
        | none => exact fin len hc.1 h
    case slice.eslice e a c =>
      obtain ⟨n, hn, h⟩ := oc_some h
      cases r3 <;> (try simp only at h)
      case some =>
        rename_i mxv mxv' rmx hold
        cases r2 <;> (try simp only at h)
        case none => cases h
        rename_i hiv hiv' rhi
        obtain ⟨p, hp, h⟩ := oc_some h
        obtain ⟨q, hq, h⟩ := oc_some h
        obtain ⟨m, hm, h⟩ := oc_some h
        obtain ⟨hp0, h⟩ := bc_some h
        obtain ⟨hq0, h⟩ := bc_some h
        obtain ⟨hm0, h⟩ := bc_some h
        cases h
        have hp0' : p = 0 := by simpa using hp0
        have hq0' : q = 0 := by simpa using hq0
        have hm0' : m = 0 := by simpa using hm0
        subst hp0' hq0' hm0'
        have hr := run_bounds3 (P := P) (isS := true) (len := 0) (cap := c) hp hq hm r1 rhi rmx (by omega) (by omega) (by omega) w
        exact ⟨.slice (some a) 0 0, by simp [Instr.sliceAt, Instr.slice, und_run hu, hr, szOf_run hn], .eslice⟩
      obtain ⟨p, hp, h⟩ := oc_some h
      obtain ⟨q, hq, h⟩ := oc_some h
      obtain ⟨hp0, h⟩ := bc_some h
      obtain ⟨hq0, h⟩ := bc_some h
      cases h
      have hp0' : p = 0 := by simpa using hp0
      have hq0' : q = 0 := by simpa using hq0
      subst hp0' hq0'
      have hr := run_bounds2 (P := P) (isS := true) (cap := c) hp hq r1 r2 (by omega) (by omega) w
      refine ⟨_, by simp [Instr.sliceAt, Instr.slice, und_run hu, hr, szOf_run hn]; rfl, ?_⟩
      by_cases hcp : c = 0
      · rw [if_pos hcp]; exact .eslice
      · rw [if_neg hcp]; exact .eslice
    case slice.nilslice e =>
      obtain ⟨n, hn, h⟩ := oc_some h
      cases r3 <;> (try simp only at h)
      case some =>
        rename_i mxv mxv' rmx hold
        cases r2 <;> (try simp only at h)
        case none => cases h
        rename_i hiv hiv' rhi
        obtain ⟨p, hp, h⟩ := oc_some h
        obtain ⟨q, hq, h⟩ := oc_some h
        obtain ⟨m, hm, h⟩ := oc_some h
        obtain ⟨hp0, h⟩ := bc_some h
        obtain ⟨hq0, h⟩ := bc_some h
        obtain ⟨hm0, h⟩ := bc_some h
        cases h
        have hp0' : p = 0 := by simpa using hp0
        have hq0' : q = 0 := by simpa using hq0
        have hm0' : m = 0 := by simpa using hm0
        subst hp0' hq0' hm0'
        have hr := run_bounds3 (P := P) (isS := true) (len := 0) (cap := 0) hp hq hm r1 rhi rmx (by omega) (by omega) (by omega) w
        exact ⟨_, by simp [Instr.sliceAt, Instr.slice, und_run hu, hr, szOf_run hn], .nilslice⟩
      obtain ⟨p, hp, h⟩ := oc_some h
      obtain ⟨q, hq, h⟩ := oc_some h
      obtain ⟨hp0, h⟩ := bc_some h
      obtain ⟨hq0, h⟩ := bc_some h
      cases h
      have hp0' : p = 0 := by simpa using hp0
      have hq0' : q = 0 := by simpa using hq0
      subst hp0' hq0'
      have hr := run_bounds2 (P := P) (isS := true) (cap := 0) hp hq r1 r2 (by omega) (by omega) w
      exact ⟨_, by simp [Instr.sliceAt, Instr.slice, und_run hu, hr, szOf_run hn], .nilslice⟩
    case array.ptr len e i off b hb =>
      obtain ⟨n, hn, h⟩ := oc_some h
      cases r3 <;> (try simp only at h)
      case some => cases h
      obtain ⟨p, hp, h⟩ := oc_some h
      obtain ⟨q, hq, h⟩ := oc_some h
      obtain ⟨hpq, h⟩ := bc_some h
      obtain ⟨hqc, h⟩ := bc_some h
      cases h
      have hr := run_bounds2 (P := P) (isS := false) (cap := len) hp hq r1 r2 (by simpa using hpq) (by simpa using hqc) w
      refine ⟨_, by simp [Instr.sliceAt, Instr.sureAddr, und_run hu, hr, szOf_run hn]; rfl, ?_⟩
      rw [beq_bi]
      by_cases hcp : len = p
      · rw [if_pos hcp, if_pos hcp]; exact .slice hb rfl
      · rw [if_neg hcp, if_neg hcp, addr_add]; exact .slice hb rfl
end
end Ev
end Go.Proofs.YtnjpdipombnigaaGreatDoor
namespace Go.Proofs.YtnjpdipombnigaaGreatDoor
namespace Ev
open Go.RowKit

/-- A piece of the machine's work comes to an abstract value and a state. -/
def Ok1 (P : Program) (G : Nat → Prop) (B : Nat) (s' : St) (v : AV) (E : Env) (w : World) (m : Sem Value) : Prop :=
  ∃ E' v' w', m.run P w = .ok v' w' ∧ Rel E' v v' ∧ Sat G B E' s' w' ∧ Ext B s'.w E E' w w'

section
variable {P : Program} {G : Nat → Prop} {B : Nat} {E : Env} {s s' : St} {w : World} {v : AV}

theorem Ok1.pure {m : Sem Value} {v' : Value} (h : Sat G B E s w) (hm : m.run P w = .ok v' w) (hr : Rel E v v') : Ok1 P G B s v E w m :=
  ⟨E, v', w, hm, hr, h, Ext.refl _ _ _ _⟩
theorem Sat.at_live (h : Sat G B E s w) {i b b' C : Nat} (he : E i = .live b C) (ha : (E i).at b') : b' = b := by rw [he] at ha; exact ha

theorem run_loadCells_at {b off : Nat} {ys : List Value} (h : ∀ j v, ys[j]? = some v → w.cell? ⟨b, off + j, none⟩ = some v) {n : Nat} (hn : ys.length = n) : (loadCells ⟨b, off, none⟩ n).run P w = .ok ys.toArray w := by
  subst hn
  refine run_loadCells_list w _ ys fun j v hj => ?_
  rw [addr_add]; exact h j v hj
theorem run_load_at {a : Addr} {y : Value} (h : w.cell? a = some y) : (load a).run P w = .ok y w := by rw [run_load, h]

theorem loadVarA_ok {t : TypeId} {i off : Nat} (h : loadVarA P t i off s = some (v, s')) :
    s' = s.see i ∧ ∀ {G B E w b}, G i → Sat G B E s w → (E i).at b → ∃ v', (loadVar t ⟨b, off, none⟩).run P w = .ok v' w ∧ Rel E v v' := by
  obtain ⟨g, hg, h⟩ := oc_some h
  cases g with
  | true =>
    rw [bi_true] at h
    obtain ⟨n, hn, h⟩ := oc_some h
    obtain ⟨l, hl, h⟩ := oc_some h
    cases h
    refine ⟨rfl, fun {G B E w b} hG hs hb => ?_⟩
    obtain ⟨b', C, ys, he, hr, hlen, hc⟩ := hs.loadN hG hl
    obtain rfl := hs.at_live he hb
    exact ⟨.agg ys.toArray, by simp [loadVar, isAggB_run hg, szOf_run hn, run_loadCells_at hc hlen], .agg (by simpa using hr)⟩
  | false =>
    rw [bi_false] at h
    obtain ⟨l, hl, h⟩ := oc_some h
    unfold headA at h
    split at h
    · cases h
      refine ⟨rfl, fun {G B E w b} hG hs hb => ?_⟩
      obtain ⟨b', C, ys, he, hr, hlen, hc⟩ := hs.loadN hG hl
      obtain rfl := hs.at_live he hb
      cases hr with
      | cons hy ht =>
        cases ht
        have := hc 0 _ rfl
        exact ⟨_, by simp only [loadVar, Sem.run_bind, isAggB_run hg, Result.andThen_ok]; exact run_load_at this, hy⟩
    · cases h
theorem ptr2C_some {β : Type} {x : AV} {k r : Nat → Nat → Option β} {y : β} (h : x.ptr2C k r = some y) : (∃ i off, x = .ptr i off ∧ k i off = some y) ∨ ∃ i off, x = .aptr i off ∧ r i off = some y := by
  cases x <;> first | (cases h; done) | exact .inl ⟨_, _, rfl, h⟩ | exact .inr ⟨_, _, rfl, h⟩
theorem Sat.row_live (h : Sat G B E s w) {i b C b' C' : Nat} (he : E i = .live b C) (ha : (E i).row b' C') : b' = b ∧ C' = C := by rw [he] at ha; exact ha
theorem loadRowA_ok {t : TypeId} {i off : Nat} (h : loadRowA P t s i off = some (v, s')) :
    s' = s.see i ∧ ∀ {G B E w b C}, G i → Sat G B E s w → (E i).row b C → ∃ v', (loadVar t ⟨b, C + off, none⟩).run P w = .ok v' w ∧ Rel E v v' := by
  obtain ⟨g, hg, h⟩ := oc_some h
  cases g with
  | true =>
    rw [bi_true] at h
    obtain ⟨n, hn, h⟩ := oc_some h
    obtain ⟨l, hl, h⟩ := oc_some h
    cases h
    refine ⟨rfl, fun {G B E w b C} hG hs hb => ?_⟩
    obtain ⟨b', C', ys, he, hr, hlen, hc⟩ := hs.rowN hG hl
    obtain ⟨rfl, rfl⟩ := hs.row_live he hb
    exact ⟨.agg ys.toArray, by simp [loadVar, isAggB_run hg, szOf_run hn, run_loadCells_at hc hlen], .agg (by simpa using hr)⟩
  | false =>
    rw [bi_false] at h
    obtain ⟨l, hl, h⟩ := oc_some h
    unfold headA at h
    split at h
    · cases h
      refine ⟨rfl, fun {G B E w b C} hG hs hb => ?_⟩
      obtain ⟨b', C', ys, he, hr, hlen, hc⟩ := hs.rowN hG hl
      obtain ⟨rfl, rfl⟩ := hs.row_live he hb
      cases hr with
      | cons hy ht =>
        cases ht
        have := hc 0 _ rfl
        exact ⟨_, by simp only [loadVar, Sem.run_bind, isAggB_run hg, Result.andThen_ok]; exact run_load_at this, hy⟩
    · cases h
theorem in_see (s : St) (i : Nat) : In (s.see i).l i := (in_lor _ _ _).2 (.inr ((in_bit _ _).2 rfl))
theorem in_set (s : St) (i : Nat) (o : Option AObj) : In (s.set i o).l i := (in_lor _ _ _).2 (.inr ((in_bit _ _).2 rfl))
theorem in_new (s : St) (o : AObj) : In (s.new o).l s.c := (in_lor _ _ _).2 (.inr ((in_bit _ _).2 rfl))

theorem storeN_step {i off : Nat} {l : List AV} (h : storeN s i off l = some s') : Step s s' := by
  obtain ⟨o, h1, h2⟩ := oc_some h
  unfold cellsC at h2
  split at h2
  · obtain ⟨_, h2⟩ := bc_some h2
    obtain ⟨_, h2⟩ := bc_some h2
    obtain ⟨vs', hset, h2⟩ := oc_some h2
    cases h2
    exact Step.set _ _ _
  · cases h2
theorem storeVarA_ok {t : TypeId} {i off : Nat} {x : AV} (h : storeVarA P t i off x s = some (v, s')) :
    Step s s' ∧ v = undefA ∧ ∀ {G B E w b x'}, (∀ j, In s'.l j → G j) → Sat G B E s w → (E i).at b → Rel E x x' →
      ∃ w', (storeVar t ⟨b, off, none⟩ x').run P w = .ok () w' ∧ Sat G B E s' w' ∧ Ext B s'.w E E w w' := by
  obtain ⟨n, hn, h⟩ := oc_some h
  obtain ⟨hl, h⟩ := bc_some h
  obtain ⟨s1, hs1, h⟩ := oc_some h
  cases h
  refine ⟨storeN_step hs1, rfl, fun {G B E w b x'} hG hs hb hr => ?_⟩
  obtain ⟨b', C, w', he, hrun, hs', hx⟩ := hs.storeN (P := P) hG hs1 hr.cells
  obtain rfl := hs.at_live he hb
  have hsz : x'.cells.size = n := by
    have := hr.cells.length
    have hl' : x.cells.length = n := by simpa using hl
    simp at this; omega
  exact ⟨w', by simp [storeVar, szOf_run hn, hsz, hrun], hs', hx⟩

theorem zeroOf_run {t : TypeId} {z : AV} (h : zeroOf P t = some z) : ∃ v, (∀ w, (zeroValue t).run P w = .ok v w) ∧ ∀ E, Rel E z v := by
  unfold zeroOf at h
  split at h
  · rename_i i hi
    split at h
    · rename_i v hv
      exact ⟨v, fun w => by simp [zeroValue, typeInfo, hi, hv], fun E => ofVal_ok h⟩
    · cases h
  · cases h

/-- A new row of cells. -/
theorem new_cells (hs : Sat G B E s w) {e : TypeId} {l : List AV} {ys : Array Value} (hG : ∀ j, In (s.new (.cells l e (0, 0) none)).l j → G j) (hr : RelL E l ys.toList) :
    Sat G B (E.set s.c (.live w.heap.size 0)) (s.new (.cells l e (0, 0) none)) (w.alloc (.cells ys e)) ∧ Ext B (s.new (.cells l e (0, 0) none)).w E (E.set s.c (.live w.heap.size 0)) w (w.alloc (.cells ys e)) := by
  have hg := hG _ (in_new _ _)
  have hle : E.le (E.set s.c (.live w.heap.size 0)) := E.set_le _ _ (by rw [hs.fresh s.c (Nat.le_refl _) hg]; trivial)
  exact hs.new hg rfl ⟨ys, (0, 0), rfl, hr.mono hle, fun off _ _ h => by simp at h⟩
theorem newA_ok {e : TypeId} {l : List AV} (h : newA s e l = some (v, s')) :
    Step s s' ∧ ∀ {G B E w} {ys : Array Value}, (∀ j, In s'.l j → G j) → Sat G B E s w → RelL E l ys.toList → Ok1 P G B s' v E w (do pure (.pointer (some (← newRow e ys)))) := by
  obtain ⟨h1, h⟩ := bc_some h
  cases h
  refine ⟨Step.new _ _, fun {G B E w ys} hG hs hr => ?_⟩
  obtain ⟨k1, k2⟩ := new_cells hs hG hr
  exact ⟨_, .pointer (some ⟨w.heap.size, 0, none⟩), _, by simp [newRow], .ptr (by rw [Env.set_same]; rfl), k1, k2⟩

/-- Cells laid over an array, one behind the other. -/
theorem foldl_set (off : Nat) : ∀ (l : List Value) (k : Nat) (cs : Array Value), off + k + l.length ≤ cs.size →
    ((l.zipIdx k).foldl (fun (cs : Array Value) (p : Value × Nat) => cs.setIfInBounds (off + p.2) p.1) cs).toList = cs.toList.take (off + k) ++ l ++ cs.toList.drop (off + k + l.length)
  | [], k, cs, _ => by simp
  | v :: rest, k, cs, h => by
    simp only [List.zipIdx_cons, List.foldl_cons]
    rw [foldl_set off rest (k + 1) _ (by simp at h ⊢; omega)]
    have e := list_seg_step cs.toList (off + k) v rest (by simp at h ⊢; omega)
    simpa [Array.toList_setIfInBounds, Nat.add_assoc] using e
theorem fillA_ok {pl : Nat → Option (Nat × Nat)} (parts : List (Nat × AV)) : ∀ {parts' : List (Nat × Value)} {cells l : List AV} {cs : Array Value}, fillA pl cells parts = some l → RelP E parts parts' → RelL E cells cs.toList →
    ∃ cs', Instr.fill pl cs parts' = some cs' ∧ RelL E l cs'.toList := by
  induction parts with
  | nil => intro parts' cells l cs h hp hr; cases hp; cases h; exact ⟨cs, rfl, hr⟩
  | cons p rest ih =>
    obtain ⟨i, x⟩ := p
    intro parts' cells l cs h hp hr
    cases hp with
    | cons hx ht =>
      rename_i y m
      simp only [fillA] at h
      obtain ⟨off, size, hp, h⟩ := oc2_some h
      obtain ⟨hsz, h⟩ := bc_some h
      obtain ⟨hpos, h⟩ := bc_some h
      obtain ⟨hone, h⟩ := bc_some h
      obtain ⟨cells', hset, h⟩ := oc_some h
      have hlen := hx.cells.length
      have hcl := hr.length
      simp only [Array.length_toList] at hlen hcl
      have hxs : x.cells.length = size := by simpa using hsz
      have hpos' : 0 < size := by simpa using hpos
      rcases setFrom_some _ _ _ hset with ⟨hnil, _⟩ | ⟨hfit, rfl⟩
      · rw [hnil] at hxs; simp at hxs; omega
      · have hf : off + 0 + y.cells.toList.length ≤ cs.size := by simp; omega
        have hset' := foldl_set off y.cells.toList 0 cs hf
        obtain ⟨cs', h1, h2⟩ := ih (cs := y.cells.zipIdx.foldl (fun cs (p : Value × Nat) => cs.setIfInBounds (off + p.2) p.1) cs) h ht (by
          have e : (y.cells.zipIdx.foldl (fun cs (p : Value × Nat) => cs.setIfInBounds (off + p.2) p.1) cs).toList = cs.toList.take off ++ y.cells.toList ++ cs.toList.drop (off + y.cells.size) := by
            rw [← Array.foldl_toList]
            simpa using hset'
          rw [e]
          refine ((hr.take off).append hx.cells).append ?_
          rw [hlen]; exact hr.drop _)
        refine ⟨cs', ?_, h2⟩
        simp only [Instr.fill, hp]
        rw [if_neg (by simp; omega)]
        exact h1
theorem RelL.of_get : ∀ {l : List AV} {m : List Value}, l.length = m.length → (∀ (i : Nat) x y, l[i]? = some x → m[i]? = some y → Rel E x y) → RelL E l m
  | [], [], _, _ => .nil
  | [], _ :: _, h, _ => by cases h
  | _ :: _, [], h, _ => by cases h
  | a :: l, b :: m, h, k => .cons (k 0 a b rfl rfl) (RelL.of_get (by simpa using h) fun i x y hx hy => k (i + 1) x y hx hy)
theorem repL_length (z : List AV) : ∀ n, (repL z n).length = n * z.length
  | 0 => by simp [repL]
  | n + 1 => by simp [repL, repL_length z n, Nat.succ_mul]; omega
theorem repL_get (z : List AV) (hz : 0 < z.length) : ∀ n i, i < n * z.length → (repL z n)[i]? = z[i % z.length]?
  | 0, i, h => by simp at h
  | n + 1, i, h => by
    simp only [repL]
    by_cases hi : i < z.length
    · rw [List.getElem?_append_left hi, Nat.mod_eq_of_lt hi]
    · rw [List.getElem?_append_right (by omega), repL_get z hz n (i - z.length) (by rw [Nat.succ_mul] at h; omega)]
      congr 1
      rw [Nat.mod_eq_sub_mod (a := i) (by omega)]
/-- A row of zero values. -/
theorem repL_rel {z : AV} {v : Value} (hr : Rel E z v) {n k : Nat} (hk : z.cells.length = k) (hpos : 0 < k) :
    RelL E (repL z.cells n) ((Array.range (n * k)).map (v.cells[· % v.cells.size]!)).toList := by
  have hl := hr.cells.length
  simp only [Array.length_toList] at hl
  refine RelL.of_get (by rw [repL_length]; simp [hk]) fun i x y hx hy => ?_
  have hi : i < n * z.cells.length := by
    have := (List.getElem?_eq_some_iff.1 hx).1
    rw [repL_length] at this; exact this
  rw [repL_get _ (by omega) n i hi] at hx
  obtain ⟨y', hy', hr'⟩ := hr.cells.nth hx
  have : y = y' := by
    simp only [Array.toList_map, Array.toList_range, List.getElem?_map, List.getElem?_range, Option.map_eq_some_iff] at hy
    rw [hk] at hi
    have hm : i % v.cells.size < v.cells.size := Nat.mod_lt _ (by omega)
    rw [hl] at hy'
    rw [List.getElem?_eq_getElem (by simpa using hm)] at hy'
    simp only [Option.some.injEq] at hy'
    obtain ⟨j, hj, hjy⟩ := hy
    simp [hi] at hj
    subst hj
    rw [← hjy, ← hy']
    simp [hm]
  rw [this]; exact hr'
end
end Ev
end Go.Proofs.YtnjpdipombnigaaGreatDoor
