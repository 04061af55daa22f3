/-
  The evaluator: operations that touch no block, on.
-/
import Derived.Test.YtbjllaknnpbkkaaGreatDoorSz5
namespace Go.Proofs.YtbjllaknnpbkkaaGreatDoor
namespace Ev
open Go.RowKit

section
variable {P : Program} {E : Env} {O : Orc}

theorem kindEq_ok {a b : IntKind} (h : kindEq a b = true) : a = b := by
  cases a <;> cases b <;> first | rfl | (exact absurd h (by decide))
theorem opEq_ok {a b : BinOp} (h : opEq a b = true) : a = b := by
  cases a <;> cases b <;> first | rfl | (exact absurd h (by decide))
theorem linEq_ok : ∀ {l m : List (Nat × Int)}, linEq l m = true → l = m
  | [], [], _ => rfl
  | p :: l, q :: m, h => by
    simp only [linEq, Bool.and_eq_true] at h
    obtain ⟨h1, h2, h3⟩ := h
    have e1 : p.1 = q.1 := Nat.eq_of_beq_eq_true h1
    rw [eqA_eq] at h2
    have e2 : p.2 = q.2 := of_decide_eq_true h2
    rw [linEq_ok h3, show p = q from Prod.ext e1 e2]
  | [], _ :: _, h => by cases h
  | _ :: _, [], h => by cases h
theorem seEq_ok : ∀ {a b : SE}, seEq a b = true → a = b := by
  intro a
  induction a with
  | var i =>
    intro b h
    cases b <;> first | (cases h; done) | skip
    rw [show i = _ from Nat.eq_of_beq_eq_true h]
  | lit m =>
    intro b h
    cases b <;> first | (cases h; done) | skip
    have h' : eqA m _ = true := h
    rw [eqA_eq] at h'
    rw [of_decide_eq_true h']
  | wrap k a ih =>
    intro b h
    cases b <;> first | (cases h; done) | skip
    rename_i q b
    have h' : (kindEq k q && seEq a b) = true := h
    rw [Bool.and_eq_true] at h'
    rw [kindEq_ok h'.1, ih h'.2]
  | bin o k a c ih1 ih2 =>
    intro b h
    cases b <;> first | (cases h; done) | skip
    rename_i p q b d
    have h' : (opEq o p && (kindEq k q && (seEq a b && seEq c d))) = true := h
    simp only [Bool.and_eq_true] at h'
    rw [opEq_ok h'.1, kindEq_ok h'.2.1, ih1 h'.2.2.1, ih2 h'.2.2.2]
  | fn i a c ih1 ih2 =>
    intro b h
    cases b <;> first | (cases h; done) | skip
    rename_i j b d
    have h' : (Nat.beq i j && (seEq a b && seEq c d)) = true := h
    simp only [Bool.and_eq_true] at h'
    rw [Nat.eq_of_beq_eq_true h'.1, ih1 h'.2.1, ih2 h'.2.2]
  | lin m l =>
    intro b h
    cases b <;> first | (cases h; done) | skip
    rename_i n k
    have h' : (eqA m n && linEq l k) = true := h
    rw [Bool.and_eq_true, eqA_eq] at h'
    rw [of_decide_eq_true h'.1, linEq_ok h'.2]

theorem nilEq_ok {x y : AV} {x' y' : Value} {b : Bool} {t : TypeId} (ht : nilType P t x = true) (h : nilEq x y = some b) (hx : Rel E x x') (hy : Rel E y y') (w : World) :
    (Op.equal t x' y').run P w = .ok b w ∧ (∀ op ox oy, eqGuard op t ox oy x' y' = pure ()) ∧ (binOp .eql t x' y' = do pure (.bool (← Op.equal t x' y'))) ∧ (binOp .neq t x' y' = do pure (.bool (!(← Op.equal t x' y')))) := by
  cases hx <;> cases hy <;> simp only [nilEq] at h <;> first | (cases h; done) | skip
  all_goals
    simp only [nilType] at ht
    split at ht <;> first | (cases ht; done) | skip
    rename_i hu
    cases h
    refine ⟨?_, fun op ox oy => by cases op <;> rfl, rfl, rfl⟩
    refine (fun key : ∀ d, (Op.equalIn (d + 1) t _ _).run P w = _ => key 9999) fun d => ?_
    simp [Op.equalIn, und_run hu]
theorem bytes_beq6 (a b : List UInt8) : ((ByteArray.mk a.toArray) == (ByteArray.mk b.toArray)) = (a == b) := by
  show ByteArray.beq _ _ = _
  unfold ByteArray.beq
  simp
theorem keyEq_eq (ho : OrcOk O E.ρ) {x y : AV} {x' y' : Value} {b : Bool} {t : TypeId} (hk : keyType P t x = true) (h : keyEq O x y = some b) (hx : Rel E x x') (hy : Rel E y y') (d : Nat) (w : World) : (Op.equalIn (d + 1) t x' y').run P w = .ok b w := by
  unfold keyType at hk
  cases hu : P.underlying t with
  | none => rw [hu] at hk; simp at hk
  | some ds =>
    rw [hu] at hk
    cases hx <;> cases hy <;> simp only [keyEq] at h <;> first | (cases h; done) | skip
    · cases h
      cases ds <;> simp at hk
      simp [Op.equalIn, und_run hu]
    · rename_i k a k' c
      split at h
      · rename_i hkk
        subst hkk
        cases h
        cases ds <;> simp at hk
        rw [eqA_eq]
        simp [Op.equalIn, und_run hu]
        rfl
      · cases h
    · split at h
      · rename_i hkk
        subst hkk
        have := ho.eq _ _ _ h
        subst this
        cases ds <;> simp at hk
        simp [Op.equalIn, und_run hu, SE.val]
        rfl
      · cases h
    · split at h
      · rename_i hkk
        subst hkk
        have := ho.eq _ _ _ h
        subst this
        cases ds <;> simp at hk
        simp [Op.equalIn, und_run hu, SE.val]
        rfl
      · cases h
    · split at h
      · rename_i hkk
        subst hkk
        have := ho.eq _ _ _ h
        subst this
        cases ds <;> simp at hk
        simp [Op.equalIn, und_run hu, SE.val]
        rfl
      · cases h
    · cases h
      cases ds <;> simp at hk
      rw [bytesEq_eq]
      simp [Op.equalIn, und_run hu, bytes_beq6]
theorem plainT_agg {t : TypeId} (h : plainT P t = true) : isAggB P t = some false := by
  unfold plainT at h
  split at h <;> first | (cases h; done) | skip
  all_goals (rename_i hu; simp [isAggB, hu])
theorem RelL_nth {l : List AV} {m : List Value} (h : RelL E l m) : ∀ {n : Nat} {v : AV}, nth l n = some v → ∃ v', m[n]? = some v' ∧ Rel E v v' := by
  induction h using RelL.rec (motive_1 := fun _ _ _ => True) with
  | nil => intro n v hv; cases hv
  | cons h t ih1 ih =>
    intro n v hv
    cases n with
    | zero => cases hv; exact ⟨_, rfl, h⟩
    | succ n => exact ih hv
  | _ => trivial
theorem eqFlds_ok (ho : OrcOk O E.ρ) {a b : List AV} {xs ys : Array Value} (hx : RelL E a xs.toList) (hy : RelL E b ys.toList) (d : Nat) (w : World) : ∀ (fs : List Field) {q : Bool}, eqFlds O P a b fs = some q → (Op.eqFields (d + 1) xs ys fs).run P w = .ok q w
  | [], q, h => by cases h; simp [Op.eqFields]
  | f :: r, q, h => by
    obtain ⟨h1, h⟩ := bc_some h
    obtain ⟨h2, h⟩ := bc_some h
    obtain ⟨x, h3, h⟩ := oc_some h
    obtain ⟨y, h4, h⟩ := oc_some h
    obtain ⟨h5, h⟩ := bc_some h
    obtain ⟨e, h6, h⟩ := oc_some h
    obtain ⟨x', hx1, hx2⟩ := RelL_nth hx h3
    obtain ⟨y', hy1, hy2⟩ := RelL_nth hy h4
    rw [Array.getElem?_toList] at hx1 hy1
    have hq := keyEq_eq ho h5 h6 hx2 hy2 d w
    have hn : f.name ≠ "_" := by simpa using h1
    simp only [Op.eqFields, hn, ne_eq, not_false_eq_true, if_true, Sem.run_bind, part, isAggB_run (plainT_agg h2), Result.andThen_ok, Bool.false_eq_true, if_false, hx1, hy1, Sem.run_pure, hq]
    cases e with
    | true => rw [bi_true] at h; simpa using eqFlds_ok ho hx hy d w r h
    | false => rw [bi_false] at h; cases h; simp
theorem eqAgg_ok (ho : OrcOk O E.ρ) {t : TypeId} {a b : List AV} {xs ys : Array Value} {q : Bool} (h : eqAgg O P t a b = some q) (hx : RelL E a xs.toList) (hy : RelL E b ys.toList) (w : World) :
    (Op.equal t (.agg xs) (.agg ys)).run P w = .ok q w ∧ ∀ op ox oy, (eqGuard op t ox oy (.agg xs) (.agg ys)).run P w = .ok () w := by
  unfold eqAgg at h
  split at h
  · rename_i fs hu
    obtain ⟨h1, h⟩ := bc_some h
    obtain ⟨h2, h⟩ := bc_some h
    have h1' : P.stoodInHeld t = false := by simpa using h1
    have h2' : P.eqGuardType P.depth t = false := by simpa using h2
    have hf : P.fieldsOf t = fs := by simp [Program.fieldsOf, hu]
    refine ⟨?_, fun op ox oy => by cases op <;> simp [eqGuard, h2']⟩
    show (Op.equalIn (9999 + 1) t (.agg xs) (.agg ys)).run P w = _
    rw [run_equalIn_struct w 9999 t xs ys (by rw [hf]; exact hu) h1', hf]
    exact eqFlds_ok ho hx hy 9998 w _ h
  · cases h
theorem nz_ok {O : Orc} {ρ : Nat → Int} (ho : OrcOk O ρ) {b : SE} (h : nz O b = true) : b.val ρ ≠ 0 := by
  unfold nz at h
  split at h
  · rename_i n
    rw [eqA_eq] at h
    simpa [SE.val] using h
  · split at h
    · rename_i hq
      have := ho.eq _ _ _ hq
      exact of_decide_eq_false this.symm
    · cases h
theorem symOp_ok (ho : OrcOk O E.ρ) {op : BinOp} {t : TypeId} {k k' : IntKind} {a b : SE} {v : AV} (h : symOp O op k k' a b = some v) (w : World) :
    ∃ v', (binOp op t (.int k (a.val E.ρ)) (.int k' (b.val E.ρ))).run P w = .ok v' w ∧ Rel E v v' ∧ ∀ ox oy, (eqGuard op t ox oy (.int k (a.val E.ρ)) (.int k' (b.val E.ρ))).run P w = .ok () w := by
  unfold symOp at h
  split at h
  case isFalse => cases h
  rename_i hk
  subst hk
  have hgu : ∀ ox oy, (eqGuard op t ox oy (.int k (a.val E.ρ)) (.int k (b.val E.ρ))).run P w = .ok () w := fun ox oy => by cases op <;> rfl
  have arith : (∃ n, intOp op k (a.val E.ρ) (b.val E.ρ) = some (.int k n) ∧ opVal op k (a.val E.ρ) (b.val E.ρ) = n) → op ≠ .shl → op ≠ .shr → ∃ v', (binOp op t (.int k (a.val E.ρ)) (.int k (b.val E.ρ))).run P w = .ok v' w ∧ Rel E (.sint k (O.bin op k a b)) v' ∧ ∀ ox oy, (eqGuard op t ox oy (.int k (a.val E.ρ)) (.int k (b.val E.ρ))).run P w = .ok () w := by
    rintro ⟨n, h1, h2⟩ h3 h4
    obtain ⟨v', h5, h6⟩ := intOp_ok (P := P) (E := E) t h3 h4 h1 w
    cases h6
    refine ⟨.int k n, h5, ?_, hgu⟩
    rw [← h2, ← ho.bin]
    exact .sint k (O.bin op k a b)
  have cmp : ∀ q, intOp op k (a.val E.ρ) (b.val E.ρ) = some (.bool q) → op ≠ .shl → op ≠ .shr → ∃ v', (binOp op t (.int k (a.val E.ρ)) (.int k (b.val E.ρ))).run P w = .ok v' w ∧ Rel E (.bool q) v' ∧ ∀ ox oy, (eqGuard op t ox oy (.int k (a.val E.ρ)) (.int k (b.val E.ρ))).run P w = .ok () w := by
    intro q h1 h3 h4
    obtain ⟨v', h5, h6⟩ := intOp_ok (P := P) (E := E) t h3 h4 h1 w
    exact ⟨v', h5, h6, hgu⟩
  cases op <;> first | (cases h; done) | skip
  case quo =>
    obtain ⟨hz, h'⟩ := bc_some h
    cases h'
    have hn := nz_ok ho hz
    exact arith ⟨wrapA k ((a.val E.ρ).tdiv (b.val E.ρ)), by simp only [intOp, hn, if_false], by simp only [opVal, wrapA_eq]⟩ (by simp) (by simp)
  case rem =>
    obtain ⟨hz, h'⟩ := bc_some h
    cases h'
    have hn := nz_ok ho hz
    exact arith ⟨(a.val E.ρ).tmod (b.val E.ρ), by simp only [intOp, hn, if_false], by simp only [opVal]⟩ (by simp) (by simp)
  all_goals first
    | (cases h; exact arith ⟨_, rfl, by simp [opVal, wrapA_eq]⟩ (by simp) (by simp))
    | (obtain ⟨q, hq, rfl⟩ := Option.map_eq_some_iff.1 h
       first
         | (have := ho.eq _ _ _ hq; subst this; exact cmp _ (by simp [intOp, eqA_eq]) (by simp) (by simp))
         | (have := ho.lt _ _ _ hq; subst this; exact cmp _ (by simp [intOp, ltA_eq]) (by simp) (by simp)))
theorem psVal_cat (ρ : Nat → Int) : ∀ (a b : List Pc), psVal ρ (catP a b) = psVal ρ a ++ psVal ρ b
  | [], b => rfl
  | p :: a, b => by
    have ih := psVal_cat ρ a b
    unfold catP
    split
    · simp [psVal, Pc.val]
    · simp only [psVal, ih, List.append_assoc]
theorem symShift_ok (ho : OrcOk O E.ρ) {op : BinOp} {t : TypeId} {k k' : IntKind} {a : SE} {n : Int} {v : AV} (h : symShift O op k a n = some v) (w : World) :
    ∃ v', (binOp op t (.int k (a.val E.ρ)) (.int k' n)).run P w = .ok v' w ∧ Rel E v v' := by
  have h' : bi (ltA n 0) none (match op with
    | .shl => some (AV.sint k (O.bin .shl k a (.lit n)))
    | .shr => some (AV.sint k (O.bin .shr k a (.lit n)))
    | _ => none) = some v := h
  cases hn : ltA n 0 <;> rw [hn] at h'
  case true => cases h'
  rw [ltA_eq] at hn
  have hn' : ¬ n < 0 := of_decide_eq_false hn
  rw [bi_false] at h'
  split at h' <;> cases h'
  · obtain ⟨v', h1, h2⟩ := shiftOp_ok (P := P) (E := E) (op := .shl) (k := k) (k' := k') (x := a.val E.ρ) (y := n) t (.inl rfl) (by simp only [shiftOp]; rw [if_neg hn']) w
    cases h2
    refine ⟨_, h1, ?_⟩
    have := Rel.sint (E := E) k (O.bin .shl k a (.lit n))
    rw [ho.bin] at this
    exact this
  · obtain ⟨v', h1, h2⟩ := shiftOp_ok (P := P) (E := E) (op := .shr) (k := k) (k' := k') (x := a.val E.ρ) (y := n) t (.inr rfl) (by simp only [shiftOp]; rw [if_neg hn']) w
    cases h2
    refine ⟨_, h1, ?_⟩
    have := Rel.sint (E := E) k (O.bin .shr k a (.lit n))
    rw [ho.bin] at this
    exact this
theorem psVal_max (ρ : Nat → Int) : ∀ (a : List Pc), (psVal ρ a).length ≤ pcsMax a
  | [] => Nat.le_refl _
  | .lit l :: r => by
    have ih := psVal_max ρ r
    show (l ++ psVal ρ r).length ≤ l.length + pcsMax r
    rw [List.length_append]; omega
  | .dec e :: r => by
    have ih := psVal_max ρ r
    show (((Lib.itoa (e.val ρ)).take 32) ++ psVal ρ r).length ≤ 32 + pcsMax r
    rw [List.length_append, List.length_take]; omega
  | .byt e :: r => by
    have ih := psVal_max ρ r
    show ([UInt8.ofNat (e.val ρ).toNat] ++ psVal ρ r).length ≤ 1 + pcsMax r
    rw [List.length_append, List.length_singleton]; omega
  | .opq b n m :: r => by
    have ih := psVal_max ρ r
    show (((List.range (min (n.val ρ).toNat m)).map fun j => UInt8.ofNat (ρ (b + j)).toNat) ++ psVal ρ r).length ≤ m + pcsMax r
    rw [List.length_append, List.length_map, List.length_range]; omega
theorem pcsPos_ok (ρ : Nat → Int) : ∀ {a : List Pc}, pcsPos a = true → 0 < (psVal ρ a).length
  | .lit (_ :: _) :: _, _ => by simp [psVal, Pc.val]
  | .lit [] :: r, h => by simpa [psVal, Pc.val] using pcsPos_ok ρ (a := r) h
  | .dec _ :: r, h => by
    have := pcsPos_ok ρ (a := r) h
    simp only [psVal, List.length_append]; omega
  | .byt _ :: _, _ => by simp [psVal, Pc.val]
  | .opq _ _ _ :: r, h => by
    have := pcsPos_ok ρ (a := r) h
    simp only [psVal, List.length_append]; omega
theorem pcsEq_ok (ρ : Nat → Int) : ∀ {a b : List Pc}, pcsEq a b = true → psVal ρ a = psVal ρ b := by
  intro a
  induction a with
  | nil =>
    intro b h
    cases b with
    | nil => rfl
    | cons q y => cases h
  | cons p x ih =>
    intro b h
    cases b with
    | nil => cases p <;> cases h
    | cons q y =>
      cases p <;> cases q <;> first | (cases h; done) | skip
      case lit.lit a b =>
        have h : (bytesEq a b && pcsEq x y) = true := h
        rw [Bool.and_eq_true, bytesEq_eq] at h
        have h1 : a = b := by simpa using h.1
        subst h1
        simp only [psVal, ih h.2]
      case dec.dec a b =>
        have h : (seEq a b && pcsEq x y) = true := h
        rw [Bool.and_eq_true] at h
        rw [seEq_ok h.1]
        simp only [psVal, ih h.2]
      case byt.byt a b =>
        have h : (seEq a b && pcsEq x y) = true := h
        rw [Bool.and_eq_true] at h
        rw [seEq_ok h.1]
        simp only [psVal, ih h.2]
      case opq.opq i n m j k q =>
        have h : (Nat.beq i j && (seEq n k && (Nat.beq m q && pcsEq x y))) = true := h
        rw [Bool.and_eq_true, Bool.and_eq_true, Bool.and_eq_true] at h
        have h1 : i = j := by simpa using h.1
        have h2 : m = q := by simpa using h.2.2.1
        rw [h1, h2, seEq_ok h.2.1]
        simp only [psVal, ih h.2.2.2]
theorem leO_ok {ρ : Nat → Int} (ho : OrcOk O ρ) {a b : SE} (h : leO O a b = true) : a.val ρ ≤ b.val ρ := by
  unfold leO at h
  split at h
  · rename_i heq
    have := ho.lt _ _ _ heq
    have := of_decide_eq_false this.symm
    omega
  · cases h
theorem addE_ok {ρ : Nat → Int} (ho : OrcOk O ρ) {a b : SE} {m n : Nat} (h1 : a.val ρ = (m : Int)) (h2 : b.val ρ = (n : Int)) (h : m + n ≤ 1000000) : (addE O a b).val ρ = ((m + n : Nat) : Int) := by
  have key : (O.bin .add .i64 a b).val ρ = ((m + n : Nat) : Int) := by
    rw [ho.bin]
    show IntKind.i64.wrap (a.val ρ + b.val ρ) = _
    rw [h1, h2, IntKind.wrap_i64]
    omega
  cases a <;> first | exact key | skip
  cases b <;> first | exact key | skip
  show _ + _ = _
  simp only [SE.val] at h1 h2
  omega
theorem pcsMax_cons (p : Pc) (r : List Pc) : pcsMax r ≤ pcsMax (p :: r) := by cases p <;> exact Nat.le_add_left _ _
theorem pcLen_ok {ρ : Nat → Int} (ho : OrcOk O ρ) {p : Pc} {e : SE} (h : pcLen O p = some e) : e.val ρ = ((p.val ρ).length : Int) := by
  cases p with
  | lit l => cases h; rfl
  | dec e => cases h
  | byt e => cases h; rfl
  | opq b n m =>
    obtain ⟨h1, h2⟩ := bc_some (show bc (leO O (.lit 0) n) (bc (leO O n (.lit (Int.ofNat m))) (some n)) = some e from h)
    obtain ⟨h3, h4⟩ := bc_some h2
    have he : n = e := Option.some.inj h4
    subst he
    have h1 : (0 : Int) ≤ n.val ρ := leO_ok ho h1
    have h3 : n.val ρ ≤ (m : Int) := leO_ok ho h3
    simp only [Pc.val, List.length_map, List.length_range]
    omega
theorem pcsLen_ok {ρ : Nat → Int} (ho : OrcOk O ρ) : ∀ {ps : List Pc} {e : SE}, pcsLen O ps = some e → pcsMax ps ≤ 1000000 → e.val ρ = ((psVal ρ ps).length : Int)
  | [], e, h, _ => by cases h; rfl
  | p :: r, e, h, hm => by
    obtain ⟨a, h1, h2⟩ := oc_some (show oc (pcLen O p) (fun a => oc (pcsLen O r) fun b => some (addE O a b)) = some e from h)
    obtain ⟨b, h3, h4⟩ := oc_some h2
    cases h4
    have k1 := pcLen_ok ho h1
    have k2 := pcsLen_ok ho h3 (Nat.le_trans (pcsMax_cons p r) hm)
    have k3 := psVal_max ρ (p :: r)
    simp only [psVal, List.length_append] at k3
    rw [addE_ok ho k1 k2 (by omega)]
    simp [psVal]
theorem numV_ok {e : SE} {n : Int} (h : e.val E.ρ = n) : Rel E (numV e) (.int .i64 n) := by
  unfold numV
  split
  · have h : _ = n := h
    subst h
    exact .int _ _
  · rw [← h]; exact .sint _ _
theorem lenV_ok (ho : OrcOk O E.ρ) (ps : List Pc) : Rel E (lenV O ps) (.int .i64 ((psVal E.ρ ps).length : Nat)) := by
  unfold lenV
  split
  · rename_i e he
    cases hb : Nat.ble (pcsMax ps) (nat_lit 1000000) with
    | false => rw [hb] at he; cases he
    | true =>
      rw [hb, bi_true] at he
      have hm : pcsMax ps ≤ 1000000 := by simpa using hb
      exact numV_ok (pcsLen_ok ho he hm)
  · exact .plen _
theorem byte_ne {n : Int} {x : UInt8} (h0 : 0 ≤ n) (h1 : n ≤ 255) (h : n ≠ Int.ofNat x.toNat) : UInt8.ofNat n.toNat ≠ x := by
  intro e
  apply h
  have := congrArg UInt8.toNat e
  rw [UInt8.toNat_ofNat'] at this
  have h2 : n.toNat % 2 ^ 8 = n.toNat := Nat.mod_eq_of_lt (by omega)
  rw [h2] at this
  show n = (x.toNat : Int)
  omega
theorem range_map_succ (f : Nat → UInt8) (n : Nat) : (List.range (n + 1)).map f = f 0 :: (List.range n).map fun j => f (j + 1) := by
  rw [List.range_succ_eq_map]
  simp
theorem bytesO_ok {ρ : Nat → Int} (ho : OrcOk O ρ) : ∀ {l : List UInt8} {b : Nat} {q : Bool}, bytesO O b l = some q → q = decide (((List.range l.length).map fun j => UInt8.ofNat (ρ (b + j)).toNat) = l)
  | [], b, q, h => by cases h; rfl
  | x :: r, b, q, h => by
    unfold bytesO at h
    rw [List.length_cons, range_map_succ]
    split at h
    · rename_i heq
      have e := of_decide_eq_true (ho.eq _ _ _ heq).symm
      have e : ρ b = Int.ofNat x.toNat := e
      rw [bytesO_ok ho h]
      have e2 : UInt8.ofNat (ρ (b + 0)).toNat = x := by
        rw [Nat.add_zero, e]
        show UInt8.ofNat x.toNat = x
        simp
      rw [e2]
      have e3 : (fun j => UInt8.ofNat (ρ (Nat.succ b + j)).toNat) = fun j => UInt8.ofNat (ρ (b + (j + 1))).toNat := by
        funext j
        rw [show Nat.succ b + j = b + (j + 1) by omega]
      rw [e3]
      simp
    · rename_i heq
      obtain ⟨h1, h⟩ := bc_some h
      obtain ⟨h2, h⟩ := bc_some h
      cases h
      have e := of_decide_eq_false (ho.eq _ _ _ heq).symm
      have h1 : (0 : Int) ≤ ρ b := leO_ok ho h1
      have h2 : ρ b ≤ 255 := leO_ok ho h2
      have := byte_ne h1 h2 e
      symm
      apply decide_eq_false
      intro k
      exact this (List.cons.inj k).1
    · cases h
theorem opqLit_ok {ρ : Nat → Int} (ho : OrcOk O ρ) {b m : Nat} {n : SE} {l : List UInt8} {q : Bool} (h : opqLit O b n m l = some q) : q = decide (Pc.val ρ (.opq b n m) = l) := by
  obtain ⟨h1, h⟩ := bc_some h
  obtain ⟨h2, h⟩ := bc_some h
  have h1 : (0 : Int) ≤ n.val ρ := leO_ok ho h1
  have h2 : n.val ρ ≤ (m : Int) := leO_ok ho h2
  split at h
  · rename_i heq
    have e := of_decide_eq_true (ho.eq _ _ _ heq).symm
    have e : n.val ρ = (l.length : Int) := e
    rw [bytesO_ok ho h]
    have : min (n.val ρ).toNat m = l.length := by omega
    simp only [Pc.val, this]
  · rename_i heq
    have e := of_decide_eq_false (ho.eq _ _ _ heq).symm
    have e : ¬ n.val ρ = (l.length : Int) := e
    cases h
    symm
    apply decide_eq_false
    intro k
    have := congrArg List.length k
    simp only [Pc.val, List.length_map, List.length_range] at this
    omega
  · cases h
theorem litNil_ok (ρ : Nat → Int) {a : List Pc} (h : litNil a = true) : psVal ρ a = [] := by
  unfold litNil at h
  split at h
  · rfl
  · rfl
  · cases h
theorem pcsDiff_ok {ρ : Nat → Int} (ho : OrcOk O ρ) {a b : List Pc} (h : pcsDiff O a b = true) : psVal ρ a ≠ psVal ρ b := by
  unfold pcsDiff at h
  cases hb : (Nat.ble (pcsMax a) (nat_lit 1000000) && Nat.ble (pcsMax b) (nat_lit 1000000)) with
  | false => rw [hb, bi_false] at h; cases h
  | true =>
    rw [hb, bi_true] at h
    rw [Bool.and_eq_true] at hb
    have m1 : pcsMax a ≤ 1000000 := by simpa using hb.1
    have m2 : pcsMax b ≤ 1000000 := by simpa using hb.2
    split at h
    · rename_i x y h1 h2
      split at h
      · rename_i heq
        have e := of_decide_eq_false (ho.eq _ _ _ heq).symm
        rw [pcsLen_ok ho h1 m1, pcsLen_ok ho h2 m2] at e
        intro k
        rw [k] at e
        exact e rfl
      · cases h
    · cases h
theorem psVal_lone (ρ : Nat → Int) (p : Pc) : psVal ρ [p] = p.val ρ := by simp [psVal]
theorem pcsEqO_ok {ρ : Nat → Int} (ho : OrcOk O ρ) {a b : List Pc} {q : Bool} (h : pcsEqO O a b = some q) : q = decide (psVal ρ a = psVal ρ b) := by
  unfold pcsEqO at h
  cases h1 : pcsEq a b with
  | true =>
    rw [h1, bi_true] at h
    cases h
    exact (decide_eq_true (pcsEq_ok ρ h1)).symm
  | false =>
    rw [h1, bi_false] at h
    cases h2 : ((litNil a && pcsPos b) || (litNil b && pcsPos a)) with
    | true =>
      rw [h2, bi_true] at h
      cases h
      symm
      apply decide_eq_false
      intro k
      rw [Bool.or_eq_true, Bool.and_eq_true, Bool.and_eq_true] at h2
      rcases h2 with ⟨h3, h4⟩ | ⟨h3, h4⟩
      · have := pcsPos_ok ρ h4
        rw [← k, litNil_ok ρ h3] at this
        simp at this
      · have := pcsPos_ok ρ h4
        rw [k, litNil_ok ρ h3] at this
        simp at this
    | false =>
      rw [h2, bi_false] at h
      split at h
      · have := opqLit_ok ho h
        rw [psVal_lone, psVal_lone]
        exact this
      · have := opqLit_ok ho h
        rw [psVal_lone, psVal_lone, this]
        exact decide_eq_decide.2 ⟨Eq.symm, Eq.symm⟩
      · cases h3 : pcsDiff O a b with
        | false => rw [h3, bi_false] at h; cases h
        | true =>
          rw [h3, bi_true] at h
          cases h
          exact (decide_eq_false (pcsDiff_ok ho h3)).symm
theorem pstrOp_ok (ho : OrcOk O E.ρ) {op : BinOp} {a b : List Pc} {v : AV} (t : TypeId) (h : pstrOp O op a b = some v) (w : World) :
    ∃ v', (binOp op t (.string ⟨(psVal E.ρ a).toArray⟩) (.string ⟨(psVal E.ρ b).toArray⟩)).run P w = .ok v' w ∧ Rel E v v' := by
  cases op <;> simp only [pstrOp] at h <;> first | (cases h; done) | skip
  case add =>
    obtain ⟨hl, h1⟩ := bc_some h
    cases h1
    have hl' : pcsMax a + pcsMax b ≤ 1000000 := by simpa using hl
    have h1 := psVal_max E.ρ a
    have h2 := psVal_max E.ρ b
    obtain ⟨v', h3, h4⟩ := strOp_ok (P := P) (E := E) (op := .add) (x := psVal E.ρ a) (y := psVal E.ρ b) t (by simp only [strOp]; rw [if_neg (by omega)]) w
    cases h4
    exact ⟨_, h3, by rw [← psVal_cat]; exact .pstr _⟩
  case eql =>
    obtain ⟨q, hq, rfl⟩ := Option.map_eq_some_iff.1 h
    have := pcsEqO_ok ho hq
    obtain ⟨v', h3, h4⟩ := strOp_ok (P := P) (E := E) (op := .eql) (x := psVal E.ρ a) (y := psVal E.ρ b) t rfl w
    rw [bytesEq_eq, show (psVal E.ρ a == psVal E.ρ b) = q from by rw [this]; exact Bool.eq_iff_iff.2 (by simp)] at h4
    exact ⟨v', h3, h4⟩
  case neq =>
    obtain ⟨q, hq, rfl⟩ := Option.map_eq_some_iff.1 h
    have := pcsEqO_ok ho hq
    obtain ⟨v', h3, h4⟩ := strOp_ok (P := P) (E := E) (op := .neq) (x := psVal E.ρ a) (y := psVal E.ρ b) t rfl w
    rw [bytesEq_eq, show (psVal E.ρ a == psVal E.ρ b) = q from by rw [this]; exact Bool.eq_iff_iff.2 (by simp)] at h4
    exact ⟨v', h3, h4⟩
theorem psVal_one (ρ : Nat → Int) (l : List UInt8) : psVal ρ [.lit l] = l := by simp [psVal, Pc.val]
theorem binA_ok (ho : OrcOk O E.ρ) {op : BinOp} {t : TypeId} {x y v : AV} {x' y' : Value} (h : binA O P op t x y = some v) (hx : Rel E x x') (hy : Rel E y y') (w : World) :
    ∃ v', (binOp op t x' y').run P w = .ok v' w ∧ Rel E v v' ∧ ∀ ox oy, (eqGuard op t ox oy x' y').run P w = .ok () w := by
  unfold binA at h
  split at h
  · rename_i k a k' b
    cases hx
    cases hy
    have hgu : ∀ ox oy, (eqGuard op t ox oy (.int k a) (.int k' b)).run P w = .ok () w := fun ox oy => by cases op <;> rfl
    split at h
    · obtain ⟨v', h1, h2⟩ := shiftOp_ok (P := P) (E := E) (k' := k') t (.inl rfl) h w
      exact ⟨v', h1, h2, hgu⟩
    · obtain ⟨v', h1, h2⟩ := shiftOp_ok (P := P) (E := E) (k' := k') t (.inr rfl) h w
      exact ⟨v', h1, h2, hgu⟩
    · rename_i hn1 hn2
      split at h
      · rename_i hk
        subst hk
        obtain ⟨v', h1, h2⟩ := intOp_ok (P := P) (E := E) t (by simpa using hn1) (by simpa using hn2) h w
        exact ⟨v', h1, h2, hgu⟩
      · cases h
  · cases hx
    cases hy
    obtain ⟨v', h1, h2⟩ := strOp_ok (P := P) (E := E) t h w
    exact ⟨v', h1, h2, fun ox oy => by cases op <;> rfl⟩
  · cases hx
    rename_i xs hx
    cases hy
    rename_i ys hy
    split at h
    · obtain ⟨q, hq, rfl⟩ := Option.map_eq_some_iff.1 h
      obtain ⟨h1, h2⟩ := eqAgg_ok ho hq hx hy w
      exact ⟨.bool q, by simp [show binOp .eql t (.agg xs) (.agg ys) = (do pure (.bool (← Op.equal t (.agg xs) (.agg ys)))) from rfl, h1], .bool _, h2 _⟩
    · obtain ⟨q, hq, rfl⟩ := Option.map_eq_some_iff.1 h
      obtain ⟨h1, h2⟩ := eqAgg_ok ho hq hx hy w
      exact ⟨.bool !q, by simp [show binOp .neq t (.agg xs) (.agg ys) = (do pure (.bool (!(← Op.equal t (.agg xs) (.agg ys))))) from rfl, h1], .bool _, h2 _⟩
    · cases h
  · cases hx
    cases hy
    split at h
    · obtain ⟨v', h1, h2⟩ := symShift_ok (P := P) ho h w
      exact ⟨v', h1, h2, fun ox oy => by rfl⟩
    · obtain ⟨v', h1, h2⟩ := symShift_ok (P := P) ho h w
      exact ⟨v', h1, h2, fun ox oy => by rfl⟩
    · exact symOp_ok ho h w
  · cases hx
    cases hy
    exact symOp_ok ho h w
  · cases hx
    cases hy
    exact symOp_ok ho h w
  · rename_i a b
    cases hx
    cases hy
    obtain ⟨v', h1, h2⟩ := pstrOp_ok (P := P) (E := E) ho t h w
    rw [psVal_one] at h1
    exact ⟨v', h1, h2, fun ox oy => by cases op <;> rfl⟩
  · rename_i a b
    cases hx
    cases hy
    obtain ⟨v', h1, h2⟩ := pstrOp_ok (P := P) (E := E) ho t h w
    rw [psVal_one] at h1
    exact ⟨v', h1, h2, fun ox oy => by cases op <;> rfl⟩
  · rename_i a b
    cases hx
    cases hy
    obtain ⟨v', h1, h2⟩ := pstrOp_ok (P := P) (E := E) ho t h w
    exact ⟨v', h1, h2, fun ox oy => by cases op <;> rfl⟩
  · split at h
    · rename_i ht
      split at h
      · cases hb : nilEq x y with
        | none => rw [hb] at h; cases h
        | some b =>
          rw [hb] at h; cases h
          obtain ⟨h1, h2, h3, _⟩ := nilEq_ok ht hb hx hy w
          exact ⟨.bool b, by rw [h3]; simp [h1], .bool b, fun ox oy => by rw [h2]; rfl⟩
      · cases hb : nilEq x y with
        | none => rw [hb] at h; cases h
        | some b =>
          rw [hb] at h; cases h
          obtain ⟨h1, h2, _, h3⟩ := nilEq_ok ht hb hx hy w
          exact ⟨.bool !b, by rw [h3]; simp [h1], .bool _, fun ox oy => by rw [h2]; rfl⟩
      · cases h
    · cases h
theorem unA_ok (ho : OrcOk O E.ρ) {op : UnOp} {x v : AV} {x' : Value} (h : unA O op x = some v) (hx : Rel E x x') (w : World) : ∃ v', (Op.unary op x').run P w = .ok v' w ∧ Rel E v v' := by
  unfold unA at h
  split at h
  · rename_i k e
    cases h; cases hx
    refine ⟨.int k (k.wrap (0 - e.val E.ρ)), rfl, ?_⟩
    have := Rel.sint (E := E) k (O.bin .sub k (.lit 0) e)
    rw [ho.bin] at this
    exact this
  · cases h; cases hx; exact ⟨_, rfl, .bool _⟩
  · cases h; cases hx; rw [wrapA_eq]; exact ⟨_, rfl, .int _ _⟩
  · cases h; cases hx; exact ⟨_, rfl, .int _ _⟩
  · cases h
theorem addr_add (b off n : Nat) : (⟨b, off, none⟩ : Addr).add n = ⟨b, off + n, none⟩ := by unfold Addr.add; split <;> simp_all
theorem natOf_some {n : Int} {m : Nat} (h : natOf n = some m) : n = (m : Int) := by
  cases n with
  | ofNat k => cases h; rfl
  | negSucc k => cases h
theorem concF_ok {ρ : Nat → Int} (ho : OrcOk O ρ) {e : SE} : ∀ {m i : Nat} {n : Int}, concF O e m i = some n → e.val ρ = n
  | 0, _, _, h => by cases h
  | m + 1, i, n, h => by
    unfold concF at h
    split at h
    · rename_i heq
      cases h
      exact of_decide_eq_true (ho.eq _ _ _ heq).symm
    · exact concF_ok ho h
    · cases h
theorem concA_ok (ho : OrcOk O E.ρ) {n : Nat} {ix i : AV} {v : Value} (h : concA O n ix = some i) (hr : Rel E ix v) : Rel E i v := by
  unfold concA at h
  split at h
  · rename_i k e
    obtain ⟨j, h1, rfl⟩ := Option.map_eq_some_iff.1 h
    cases hr
    rw [concF_ok ho h1]
    exact .int _ _
  · cases h
    exact hr
theorem indexAtA_ok {t : TypeId} {x ix v : AV} {x' ix' : Value} (h : indexAtA P t x ix = some v) (hx : Rel E x x') (hi : Rel E ix ix') (w : World) :
    ∃ v', (Instr.indexAt t x' ix').run P w = .ok v' w ∧ Rel E v v' := by
  cases hi <;> simp only [indexAtA, AV.intC] at h <;> first | (cases h; done) | skip
  rename_i k n
  obtain ⟨m, hm, h'⟩ := oc_some h
  clear h
  have hn := natOf_some hm
  subst hn
  have h := h'
  clear h'
  cases hu : P.underlying t with
  | none => simp [hu] at h
  | some d =>
    cases d <;> cases hx <;> simp only [hu] at h <;> first | (cases h; done) | skip
    all_goals
      obtain ⟨z, hz, h⟩ := oc_some h
      obtain ⟨hlt, h⟩ := bc_some h
      cases h
      have hlt' := Eq.mp Nat.blt_eq hlt
      first
        | (refine ⟨_, ?_, .ptr (by assumption)⟩
           simp [Instr.indexAt, asIntOf, und_run hu, Instr.sureAddr, hlt', szOf_run hz, addr_add]; done)
        | (refine ⟨_, ?_, .aptr (by assumption)⟩
           simp [Instr.indexAt, asIntOf, und_run hu, Instr.sureAddr, hlt', szOf_run hz, addr_add, Nat.add_assoc]; done)
theorem nth_get {α : Type} : ∀ (l : List α) (n : Nat), nth l n = l[n]?
  | [], n => by simp; rfl
  | x :: l, 0 => rfl
  | x :: l, n + 1 => by
    have := nth_get l n
    simp only [List.getElem?_cons_succ]
    exact this
theorem RelL.nth {l : List AV} {m : List Value} (h : RelL E l m) : ∀ {n : Nat} {v : AV}, l[n]? = some v → ∃ v', m[n]? = some v' ∧ Rel E v v' := by
  intro n
  induction n generalizing l m with
  | zero =>
    intro v hv
    cases h with
    | nil => cases hv
    | cons k t => simp at hv; subst hv; exact ⟨_, rfl, k⟩
  | succ n ih =>
    intro v hv
    cases h with
    | nil => cases hv
    | cons k t => exact ih t hv
theorem partA_ok {t : TypeId} {cs : List AV} {v : AV} {off : Nat} {a : Array Value} (h : partA P t cs off = some v) (hr : RelL E cs a.toList) (w : World) :
    ∃ v', (part t a off).run P w = .ok v' w ∧ Rel E v v' := by
  unfold partA at h
  split at h
  · rename_i hg
    split at h
    · rename_i n hn
      cases hx : takeN n (dropN off cs) with
      | none => rw [hx] at h; cases h
      | some l =>
        rw [hx] at h; cases h
        obtain ⟨rfl, hle⟩ := takeN_some _ hx
        rw [dropN_eq]
        refine ⟨.agg (a.extract off (off + n)), by simp [part, isAggB_run hg, szOf_run hn], .agg ?_⟩
        have := (hr.drop off).take n
        simpa [Array.toList_extract, List.extract_eq_take_drop] using this
    · cases h
  · rename_i hg
    rw [nth_get] at h
    obtain ⟨v', h1, h2⟩ := hr.nth h
    refine ⟨v', ?_, h2⟩
    have : a[off]? = some v' := by rw [← Array.getElem?_toList]; exact h1
    simp [part, isAggB_run hg, this]
  · cases h
theorem fieldA_ok {t : TypeId} {x v : AV} {x' : Value} {f : Nat} (h : fieldA P t x f = some v) (hx : Rel E x x') (w : World) : ∃ v', (Instr.field t x' f).run P w = .ok v' w ∧ Rel E v v' := by
  unfold fieldA at h
  split at h
  · rename_i fs cs hu
    split at h
    · rename_i fd hf
      rw [nth_get, Array.getElem?_toList] at hf
      cases hx
      rename_i a hr
      obtain ⟨v', h1, h2⟩ := partA_ok h hr w
      exact ⟨v', by simp [Instr.field, und_run hu, hf, asAgg, h1], h2⟩
    · cases h
  · cases h
theorem fieldAtA_ok {t : TypeId} {x v : AV} {x' : Value} {f : Nat} (h : fieldAtA P t x f = some v) (hx : Rel E x x') (w : World) : ∃ v', (Instr.fieldAt t x' f).run P w = .ok v' w ∧ Rel E v v' := by
  unfold fieldAtA at h
  split at h
  · rename_i fs i off hu
    split at h
    · rename_i fd hf
      rw [nth_get, Array.getElem?_toList] at hf
      split at h
      · cases h
      · rename_i n hn
        cases h
        cases hx
        rename_i b hb
        refine ⟨.pointer (some ⟨b, off + fd.offset, none⟩), ?_, .ptr hb⟩
        simp [Instr.fieldAt, und_run hu, hf, Instr.sureAddr, fieldPlace, szOf_run hn, addr_add]
      · cases h
    · cases h
  · cases h
theorem indexA_ok {t : TypeId} {x ix v : AV} {x' ix' : Value} (h : indexA P t x ix = some v) (hx : Rel E x x') (hi : Rel E ix ix') (w : World) :
    ∃ v', (Instr.index t x' ix').run P w = .ok v' w ∧ Rel E v v' := by
  unfold indexA at h
  split at h
  case h_2 => cases h
  cases hi
  rename_i k n
  split at h
  case h_2 => cases h
  rename_i m hm
  have hn := natOf_some hm
  subst hn
  split at h
  · rename_i len e cs hu
    split at h
    · rename_i z hz hlt
      cases hx
      rename_i a hr
      obtain ⟨v', h1, h2⟩ := partA_ok h hr w
      have hlt' : m < len := by simpa using hlt
      exact ⟨v', by simpa [Instr.index, asIntOf, und_run hu, hlt', szOf_run hz] using h1, h2⟩
    · cases h
  · rename_i l hu
    split at h
    · rename_i b hb
      cases h
      cases hx
      rw [nth_get] at hb
      have hget : (ByteArray.mk l.toArray)[m]? = some b := by
        show (if h : m < (ByteArray.mk l.toArray).size then some ((ByteArray.mk l.toArray)[m]) else none) = some b
        obtain ⟨hm', hb'⟩ := List.getElem?_eq_some_iff.1 hb
        rw [dif_pos (by simpa [ByteArray.size] using hm')]
        congr 1
      exact ⟨.int .u8 b.toNat, by simp [Instr.index, asIntOf, und_run hu, hget], .int _ _⟩
    · cases h
  · cases h
end
end Ev
end Go.Proofs.YtbjllaknnpbkkaaGreatDoor
