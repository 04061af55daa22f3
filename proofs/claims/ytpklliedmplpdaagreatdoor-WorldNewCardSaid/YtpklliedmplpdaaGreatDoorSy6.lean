/-
  The evaluator: operations that touch no block, on.
-/
import Derived.Test.YtpklliedmplpdaaGreatDoorSy5
namespace Go.Proofs.YtpklliedmplpdaaGreatDoor
namespace Ev
open Go.RowKit

section
variable {P : Program} {E : Env} {O : Orc}

theorem kindEq_ok {a b : IntKind} (h : kindEq a b = true) : a = b := by
  cases a <;> cases b <;> first | rfl | (exact absurd h (by decide))
theorem opEq_ok {a b : BinOp} (h : opEq a b = true) : a = b := by
  cases a <;> cases b <;> first | rfl | (exact absurd h (by decide))
theorem seEq_ok : ∀ {a b : SE}, seEq a b = true → a = b
  | .var i, .var j, h => by rw [show i = j from by simpa [seEq] using h]
  | .lit m, .lit n, h => by
    have h' : eqA m n = true := h
    rw [eqA_eq] at h'
    rw [of_decide_eq_true h']
  | .wrap k a, .wrap q b, h => by
    simp only [seEq, Bool.and_eq_true] at h
    rw [kindEq_ok h.1, seEq_ok h.2]
  | .bin o k a c, .bin p q b d, h => by
    simp only [seEq, Bool.and_eq_true] at h
    rw [opEq_ok h.1, kindEq_ok h.2.1, seEq_ok h.2.2.1, seEq_ok h.2.2.2]
  | .fn i a c, .fn j b d, h => by
    simp only [seEq, Bool.and_eq_true] at h
    rw [show i = j from by simpa using h.1, seEq_ok h.2.1, seEq_ok h.2.2]
  | .var _, .lit _, h | .var _, .wrap _ _, h | .var _, .bin _ _ _ _, h | .var _, .fn _ _ _, h => by cases h
  | .lit _, .var _, h | .lit _, .wrap _ _, h | .lit _, .bin _ _ _ _, h | .lit _, .fn _ _ _, h => by cases h
  | .wrap _ _, .var _, h | .wrap _ _, .lit _, h | .wrap _ _, .bin _ _ _ _, h | .wrap _ _, .fn _ _ _, h => by cases h
  | .bin _ _ _ _, .var _, h | .bin _ _ _ _, .lit _, h | .bin _ _ _ _, .wrap _ _, h | .bin _ _ _ _, .fn _ _ _, h => by cases h
  | .fn _ _ _, .var _, h | .fn _ _ _, .lit _, h | .fn _ _ _, .wrap _ _, h | .fn _ _ _, .bin _ _ _ _, h => by cases h

theorem nilEq_ok {x y : AV} {x' y' : Value} {b : Bool} {t : TypeId} (ht : nilType P t x = true) (h : nilEq x y = some b) (hx : Rel E x x') (hy : Rel E y y') (w : World) :
    (Op.equal t x' y').run P w = .ok b w ∧ (∀ op ox oy, eqGuard op t ox oy x' y' = pure ()) ∧ (binOp .eql t x' y' = do pure (.bool (← Op.equal t x' y'))) ∧ (binOp .neq t x' y' = do pure (.bool (!(← Op.equal t x' y')))) := by
  cases hx <;> cases hy <;> simp only [nilEq] at h <;> first | (cases h; done) | skip
  all_goals
    simp only [nilType] at ht
    split at ht <;> first | (cases ht; done) | skip
    rename_i hu
    cases h
    refine ⟨?_, fun op ox oy => by cases op <;> rfl, rfl, rfl⟩
    refine (fun key : ∀ d, (Op.equalIn (d + 1) t _ _).run P w = _ => key 9999) fun d => ?_
    simp [Op.equalIn, und_run hu]
theorem bytes_beq6 (a b : List UInt8) : ((ByteArray.mk a.toArray) == (ByteArray.mk b.toArray)) = (a == b) := by
  show ByteArray.beq _ _ = _
  unfold ByteArray.beq
  simp
theorem keyEq_eq (ho : OrcOk O E.ρ) {x y : AV} {x' y' : Value} {b : Bool} {t : TypeId} (hk : keyType P t x = true) (h : keyEq O x y = some b) (hx : Rel E x x') (hy : Rel E y y') (d : Nat) (w : World) : (Op.equalIn (d + 1) t x' y').run P w = .ok b w := by
  unfold keyType at hk
  cases hu : P.underlying t with
  | none => rw [hu] at hk; simp at hk
  | some ds =>
    rw [hu] at hk
    cases hx <;> cases hy <;> simp only [keyEq] at h <;> first | (cases h; done) | skip
    · cases h
      cases ds <;> simp at hk
      simp [Op.equalIn, und_run hu]
    · rename_i k a k' c
      split at h
      · rename_i hkk
        subst hkk
        cases h
        cases ds <;> simp at hk
        rw [eqA_eq]
        simp [Op.equalIn, und_run hu]
        rfl
      · cases h
    · split at h
      · rename_i hkk
        subst hkk
        have := ho.eq _ _ _ h
        subst this
        cases ds <;> simp at hk
        simp [Op.equalIn, und_run hu, SE.val]
        rfl
      · cases h
    · split at h
      · rename_i hkk
        subst hkk
        have := ho.eq _ _ _ h
        subst this
        cases ds <;> simp at hk
        simp [Op.equalIn, und_run hu, SE.val]
        rfl
      · cases h
    · split at h
      · rename_i hkk
        subst hkk
        have := ho.eq _ _ _ h
        subst this
        cases ds <;> simp at hk
        simp [Op.equalIn, und_run hu, SE.val]
        rfl
      · cases h
    · cases h
      cases ds <;> simp at hk
      rw [bytesEq_eq]
      simp [Op.equalIn, und_run hu, bytes_beq6]
theorem plainT_agg {t : TypeId} (h : plainT P t = true) : isAggB P t = some false := by
  unfold plainT at h
  split at h <;> first | (cases h; done) | skip
  all_goals (rename_i hu; simp [isAggB, hu])
theorem RelL_nth {l : List AV} {m : List Value} (h : RelL E l m) : ∀ {n : Nat} {v : AV}, nth l n = some v → ∃ v', m[n]? = some v' ∧ Rel E v v' := by
  induction h using RelL.rec (motive_1 := fun _ _ _ => True) with
  | nil => intro n v hv; cases hv
  | cons h t ih1 ih =>
    intro n v hv
    cases n with
    | zero => cases hv; exact ⟨_, rfl, h⟩
    | succ n => exact ih hv
  | _ => trivial
theorem eqFlds_ok (ho : OrcOk O E.ρ) {a b : List AV} {xs ys : Array Value} (hx : RelL E a xs.toList) (hy : RelL E b ys.toList) (d : Nat) (w : World) : ∀ (fs : List Field) {q : Bool}, eqFlds O P a b fs = some q → (Op.eqFields (d + 1) xs ys fs).run P w = .ok q w
  | [], q, h => by cases h; simp [Op.eqFields]
  | f :: r, q, h => by
    obtain ⟨h1, h⟩ := bc_some h
    obtain ⟨h2, h⟩ := bc_some h
    obtain ⟨x, h3, h⟩ := oc_some h
    obtain ⟨y, h4, h⟩ := oc_some h
    obtain ⟨h5, h⟩ := bc_some h
    obtain ⟨e, h6, h⟩ := oc_some h
    obtain ⟨x', hx1, hx2⟩ := RelL_nth hx h3
    obtain ⟨y', hy1, hy2⟩ := RelL_nth hy h4
    rw [Array.getElem?_toList] at hx1 hy1
    have hq := keyEq_eq ho h5 h6 hx2 hy2 d w
    have hn : f.name ≠ "_" := by simpa using h1
    simp only [Op.eqFields, hn, ne_eq, not_false_eq_true, if_true, Sem.run_bind, part, isAggB_run (plainT_agg h2), Result.andThen_ok, Bool.false_eq_true, if_false, hx1, hy1, Sem.run_pure, hq]
    cases e with
    | true => rw [bi_true] at h; simpa using eqFlds_ok ho hx hy d w r h
    | false => rw [bi_false] at h; cases h; simp
theorem eqAgg_ok (ho : OrcOk O E.ρ) {t : TypeId} {a b : List AV} {xs ys : Array Value} {q : Bool} (h : eqAgg O P t a b = some q) (hx : RelL E a xs.toList) (hy : RelL E b ys.toList) (w : World) :
    (Op.equal t (.agg xs) (.agg ys)).run P w = .ok q w ∧ ∀ op ox oy, (eqGuard op t ox oy (.agg xs) (.agg ys)).run P w = .ok () w := by
  unfold eqAgg at h
  split at h
  · rename_i fs hu
    obtain ⟨h1, h⟩ := bc_some h
    obtain ⟨h2, h⟩ := bc_some h
    have h1' : P.stoodInHeld t = false := by simpa using h1
    have h2' : P.eqGuardType P.depth t = false := by simpa using h2
    have hf : P.fieldsOf t = fs := by simp [Program.fieldsOf, hu]
    refine ⟨?_, fun op ox oy => by cases op <;> simp [eqGuard, h2']⟩
    show (Op.equalIn (9999 + 1) t (.agg xs) (.agg ys)).run P w = _
    rw [run_equalIn_struct w 9999 t xs ys (by rw [hf]; exact hu) h1', hf]
    exact eqFlds_ok ho hx hy 9998 w _ h
  · cases h
theorem nz_ok {O : Orc} {ρ : Nat → Int} (ho : OrcOk O ρ) {b : SE} (h : nz O b = true) : b.val ρ ≠ 0 := by
  unfold nz at h
  split at h
  · rename_i n
    rw [eqA_eq] at h
    simpa [SE.val] using h
  · split at h
    · rename_i hq
      have := ho.eq _ _ _ hq
      exact of_decide_eq_false this.symm
    · cases h
theorem symOp_ok (ho : OrcOk O E.ρ) {op : BinOp} {t : TypeId} {k k' : IntKind} {a b : SE} {v : AV} (h : symOp O op k k' a b = some v) (w : World) :
    ∃ v', (binOp op t (.int k (a.val E.ρ)) (.int k' (b.val E.ρ))).run P w = .ok v' w ∧ Rel E v v' ∧ ∀ ox oy, (eqGuard op t ox oy (.int k (a.val E.ρ)) (.int k' (b.val E.ρ))).run P w = .ok () w := by
  unfold symOp at h
  split at h
  case isFalse => cases h
  rename_i hk
  subst hk
  have hgu : ∀ ox oy, (eqGuard op t ox oy (.int k (a.val E.ρ)) (.int k (b.val E.ρ))).run P w = .ok () w := fun ox oy => by cases op <;> rfl
  have arith : (∃ n, intOp op k (a.val E.ρ) (b.val E.ρ) = some (.int k n) ∧ opVal op k (a.val E.ρ) (b.val E.ρ) = n) → op ≠ .shl → op ≠ .shr → ∃ v', (binOp op t (.int k (a.val E.ρ)) (.int k (b.val E.ρ))).run P w = .ok v' w ∧ Rel E (.sint k (O.bin op k a b)) v' ∧ ∀ ox oy, (eqGuard op t ox oy (.int k (a.val E.ρ)) (.int k (b.val E.ρ))).run P w = .ok () w := by
    rintro ⟨n, h1, h2⟩ h3 h4
    obtain ⟨v', h5, h6⟩ := intOp_ok (P := P) (E := E) t h3 h4 h1 w
    cases h6
    refine ⟨.int k n, h5, ?_, hgu⟩
    rw [← h2, ← ho.bin]
    exact .sint k (O.bin op k a b)
  have cmp : ∀ q, intOp op k (a.val E.ρ) (b.val E.ρ) = some (.bool q) → op ≠ .shl → op ≠ .shr → ∃ v', (binOp op t (.int k (a.val E.ρ)) (.int k (b.val E.ρ))).run P w = .ok v' w ∧ Rel E (.bool q) v' ∧ ∀ ox oy, (eqGuard op t ox oy (.int k (a.val E.ρ)) (.int k (b.val E.ρ))).run P w = .ok () w := by
    intro q h1 h3 h4
    obtain ⟨v', h5, h6⟩ := intOp_ok (P := P) (E := E) t h3 h4 h1 w
    exact ⟨v', h5, h6, hgu⟩
  cases op <;> first | (cases h; done) | skip
  case quo =>
    obtain ⟨hz, h'⟩ := bc_some h
    cases h'
    have hn := nz_ok ho hz
    exact arith ⟨wrapA k ((a.val E.ρ).tdiv (b.val E.ρ)), by simp only [intOp, hn, if_false], by simp only [opVal, wrapA_eq]⟩ (by simp) (by simp)
  case rem =>
    obtain ⟨hz, h'⟩ := bc_some h
    cases h'
    have hn := nz_ok ho hz
    exact arith ⟨(a.val E.ρ).tmod (b.val E.ρ), by simp only [intOp, hn, if_false], by simp only [opVal]⟩ (by simp) (by simp)
  all_goals first
    | (cases h; exact arith ⟨_, rfl, by simp [opVal, wrapA_eq]⟩ (by simp) (by simp))
    | (obtain ⟨q, hq, rfl⟩ := Option.map_eq_some_iff.1 h
       first
         | (have := ho.eq _ _ _ hq; subst this; exact cmp _ (by simp [intOp, eqA_eq]) (by simp) (by simp))
         | (have := ho.lt _ _ _ hq; subst this; exact cmp _ (by simp [intOp, ltA_eq]) (by simp) (by simp)))
theorem psVal_cat (ρ : Nat → Int) : ∀ (a b : List Pc), psVal ρ (catP a b) = psVal ρ a ++ psVal ρ b
  | [], b => rfl
  | p :: a, b => by
    have ih := psVal_cat ρ a b
    unfold catP
    split
    · simp [psVal, Pc.val]
    · simp only [psVal, ih, List.append_assoc]
theorem psVal_max (ρ : Nat → Int) : ∀ (a : List Pc), (psVal ρ a).length ≤ pcsMax a
  | [] => Nat.le_refl _
  | .lit l :: r => by
    have ih := psVal_max ρ r
    show (l ++ psVal ρ r).length ≤ l.length + pcsMax r
    rw [List.length_append]; omega
  | .dec e :: r => by
    have ih := psVal_max ρ r
    show (((Lib.itoa (e.val ρ)).take 32) ++ psVal ρ r).length ≤ 32 + pcsMax r
    rw [List.length_append, List.length_take]; omega
theorem pcsPos_ok (ρ : Nat → Int) : ∀ {a : List Pc}, pcsPos a = true → 0 < (psVal ρ a).length
  | .lit (_ :: _) :: _, _ => by simp [psVal, Pc.val]
  | .lit [] :: r, h => by simpa [psVal, Pc.val] using pcsPos_ok ρ (a := r) h
  | .dec _ :: r, h => by
    have := pcsPos_ok ρ (a := r) h
    simp only [psVal, List.length_append]; omega
theorem pcsEq_ok (ρ : Nat → Int) : ∀ {a b : List Pc}, pcsEq a b = true → psVal ρ a = psVal ρ b
  | [], [], _ => rfl
  | .lit a :: x, .lit b :: y, h => by
    have h : (bytesEq a b && pcsEq x y) = true := h
    rw [Bool.and_eq_true, bytesEq_eq] at h
    have h1 : a = b := by simpa using h.1
    subst h1
    simp only [psVal, pcsEq_ok ρ h.2]
  | .dec a :: x, .dec b :: y, h => by
    have h : (seEq a b && pcsEq x y) = true := h
    rw [Bool.and_eq_true] at h
    rw [seEq_ok h.1]
    simp only [psVal, pcsEq_ok ρ h.2]
  | [], _ :: _, h | .lit _ :: _, [], h | .dec _ :: _, [], h | .lit _ :: _, .dec _ :: _, h | .dec _ :: _, .lit _ :: _, h => by cases h
theorem pstrOp_ok {op : BinOp} {a b : List Pc} {v : AV} (t : TypeId) (h : pstrOp op a b = some v) (w : World) :
    ∃ v', (binOp op t (.string ⟨(psVal E.ρ a).toArray⟩) (.string ⟨(psVal E.ρ b).toArray⟩)).run P w = .ok v' w ∧ Rel E v v' := by
  cases op <;> simp only [pstrOp] at h <;> first | (cases h; done) | skip
  case add =>
    obtain ⟨hl, h1⟩ := bc_some h
    cases h1
    have hl' : pcsMax a + pcsMax b ≤ 1000000 := by simpa using hl
    have h1 := psVal_max E.ρ a
    have h2 := psVal_max E.ρ b
    obtain ⟨v', h3, h4⟩ := strOp_ok (P := P) (E := E) (op := .add) (x := psVal E.ρ a) (y := psVal E.ρ b) t (by simp only [strOp]; rw [if_neg (by omega)]) w
    cases h4
    exact ⟨_, h3, by rw [← psVal_cat]; exact .pstr _⟩
  case eql =>
    obtain ⟨hq, h1⟩ := bc_some h
    cases h1
    have := pcsEq_ok E.ρ hq
    obtain ⟨v', h3, h4⟩ := strOp_ok (P := P) (E := E) (op := .eql) (x := psVal E.ρ a) (y := psVal E.ρ b) t rfl w
    rw [bytesEq_eq, this] at h4
    simp only [beq_self_eq_true] at h4
    exact ⟨v', h3, h4⟩
  case neq =>
    obtain ⟨hq, h1⟩ := bc_some h
    cases h1
    have := pcsEq_ok E.ρ hq
    obtain ⟨v', h3, h4⟩ := strOp_ok (P := P) (E := E) (op := .neq) (x := psVal E.ρ a) (y := psVal E.ρ b) t rfl w
    rw [bytesEq_eq, this] at h4
    simp only [beq_self_eq_true, Bool.not_true] at h4
    exact ⟨v', h3, h4⟩
theorem psVal_one (ρ : Nat → Int) (l : List UInt8) : psVal ρ [.lit l] = l := by simp [psVal, Pc.val]
theorem binA_ok (ho : OrcOk O E.ρ) {op : BinOp} {t : TypeId} {x y v : AV} {x' y' : Value} (h : binA O P op t x y = some v) (hx : Rel E x x') (hy : Rel E y y') (w : World) :
    ∃ v', (binOp op t x' y').run P w = .ok v' w ∧ Rel E v v' ∧ ∀ ox oy, (eqGuard op t ox oy x' y').run P w = .ok () w := by
  unfold binA at h
  split at h
  · rename_i k a k' b
    cases hx
    cases hy
    have hgu : ∀ ox oy, (eqGuard op t ox oy (.int k a) (.int k' b)).run P w = .ok () w := fun ox oy => by cases op <;> rfl
    split at h
    · obtain ⟨v', h1, h2⟩ := shiftOp_ok (P := P) (E := E) (k' := k') t (.inl rfl) h w
      exact ⟨v', h1, h2, hgu⟩
    · obtain ⟨v', h1, h2⟩ := shiftOp_ok (P := P) (E := E) (k' := k') t (.inr rfl) h w
      exact ⟨v', h1, h2, hgu⟩
    · rename_i hn1 hn2
      split at h
      · rename_i hk
        subst hk
        obtain ⟨v', h1, h2⟩ := intOp_ok (P := P) (E := E) t (by simpa using hn1) (by simpa using hn2) h w
        exact ⟨v', h1, h2, hgu⟩
      · cases h
  · cases hx
    cases hy
    obtain ⟨v', h1, h2⟩ := strOp_ok (P := P) (E := E) t h w
    exact ⟨v', h1, h2, fun ox oy => by cases op <;> rfl⟩
  · cases hx
    rename_i xs hx
    cases hy
    rename_i ys hy
    split at h
    · obtain ⟨q, hq, rfl⟩ := Option.map_eq_some_iff.1 h
      obtain ⟨h1, h2⟩ := eqAgg_ok ho hq hx hy w
      exact ⟨.bool q, by simp [show binOp .eql t (.agg xs) (.agg ys) = (do pure (.bool (← Op.equal t (.agg xs) (.agg ys)))) from rfl, h1], .bool _, h2 _⟩
    · obtain ⟨q, hq, rfl⟩ := Option.map_eq_some_iff.1 h
      obtain ⟨h1, h2⟩ := eqAgg_ok ho hq hx hy w
      exact ⟨.bool !q, by simp [show binOp .neq t (.agg xs) (.agg ys) = (do pure (.bool (!(← Op.equal t (.agg xs) (.agg ys))))) from rfl, h1], .bool _, h2 _⟩
    · cases h
  · cases hx
    cases hy
    exact symOp_ok ho h w
  · cases hx
    cases hy
    exact symOp_ok ho h w
  · cases hx
    cases hy
    exact symOp_ok ho h w
  · rename_i a b
    cases hx
    cases hy
    obtain ⟨v', h1, h2⟩ := pstrOp_ok (P := P) (E := E) t h w
    rw [psVal_one] at h1
    exact ⟨v', h1, h2, fun ox oy => by cases op <;> rfl⟩
  · rename_i a b
    cases hx
    cases hy
    obtain ⟨v', h1, h2⟩ := pstrOp_ok (P := P) (E := E) t h w
    rw [psVal_one] at h1
    exact ⟨v', h1, h2, fun ox oy => by cases op <;> rfl⟩
  · rename_i a b
    cases hx
    cases hy
    obtain ⟨v', h1, h2⟩ := pstrOp_ok (P := P) (E := E) t h w
    exact ⟨v', h1, h2, fun ox oy => by cases op <;> rfl⟩
  · split at h
    · rename_i ht
      split at h
      · cases hb : nilEq x y with
        | none => rw [hb] at h; cases h
        | some b =>
          rw [hb] at h; cases h
          obtain ⟨h1, h2, h3, _⟩ := nilEq_ok ht hb hx hy w
          exact ⟨.bool b, by rw [h3]; simp [h1], .bool b, fun ox oy => by rw [h2]; rfl⟩
      · cases hb : nilEq x y with
        | none => rw [hb] at h; cases h
        | some b =>
          rw [hb] at h; cases h
          obtain ⟨h1, h2, _, h3⟩ := nilEq_ok ht hb hx hy w
          exact ⟨.bool !b, by rw [h3]; simp [h1], .bool _, fun ox oy => by rw [h2]; rfl⟩
      · cases h
    · cases h
theorem unA_ok {op : UnOp} {x v : AV} {x' : Value} (h : unA op x = some v) (hx : Rel E x x') (w : World) : ∃ v', (Op.unary op x').run P w = .ok v' w ∧ Rel E v v' := by
  unfold unA at h
  split at h
  · cases h; cases hx; exact ⟨_, rfl, .bool _⟩
  · cases h; cases hx; rw [wrapA_eq]; exact ⟨_, rfl, .int _ _⟩
  · cases h; cases hx; exact ⟨_, rfl, .int _ _⟩
  · cases h
theorem addr_add (b off n : Nat) : (⟨b, off, none⟩ : Addr).add n = ⟨b, off + n, none⟩ := by unfold Addr.add; split <;> simp_all
theorem natOf_some {n : Int} {m : Nat} (h : natOf n = some m) : n = (m : Int) := by
  cases n with
  | ofNat k => cases h; rfl
  | negSucc k => cases h
theorem indexAtA_ok {t : TypeId} {x ix v : AV} {x' ix' : Value} (h : indexAtA P t x ix = some v) (hx : Rel E x x') (hi : Rel E ix ix') (w : World) :
    ∃ v', (Instr.indexAt t x' ix').run P w = .ok v' w ∧ Rel E v v' := by
  cases hi <;> simp only [indexAtA, AV.intC] at h <;> first | (cases h; done) | skip
  rename_i k n
  obtain ⟨m, hm, h'⟩ := oc_some h
  clear h
  have hn := natOf_some hm
  subst hn
  have h := h'
  clear h'
  cases hu : P.underlying t with
  | none => simp [hu] at h
  | some d =>
    cases d <;> cases hx <;> simp only [hu] at h <;> first | (cases h; done) | skip
    all_goals
      obtain ⟨z, hz, h⟩ := oc_some h
      obtain ⟨hlt, h⟩ := bc_some h
      cases h
      have hlt' := Eq.mp Nat.blt_eq hlt
      refine ⟨_, ?_, .ptr (by assumption)⟩
      simp [Instr.indexAt, asIntOf, und_run hu, Instr.sureAddr, hlt', szOf_run hz, addr_add]
theorem nth_get {α : Type} : ∀ (l : List α) (n : Nat), nth l n = l[n]?
  | [], n => by simp; rfl
  | x :: l, 0 => rfl
  | x :: l, n + 1 => by
    have := nth_get l n
    simp only [List.getElem?_cons_succ]
    exact this
theorem RelL.nth {l : List AV} {m : List Value} (h : RelL E l m) : ∀ {n : Nat} {v : AV}, l[n]? = some v → ∃ v', m[n]? = some v' ∧ Rel E v v' := by
  intro n
  induction n generalizing l m with
  | zero =>
    intro v hv
    cases h with
    | nil => cases hv
    | cons k t => simp at hv; subst hv; exact ⟨_, rfl, k⟩
  | succ n ih =>
    intro v hv
    cases h with
    | nil => cases hv
    | cons k t => exact ih t hv
theorem partA_ok {t : TypeId} {cs : List AV} {v : AV} {off : Nat} {a : Array Value} (h : partA P t cs off = some v) (hr : RelL E cs a.toList) (w : World) :
    ∃ v', (part t a off).run P w = .ok v' w ∧ Rel E v v' := by
  unfold partA at h
  split at h
  · rename_i hg
    split at h
    · rename_i n hn
      cases hx : takeN n (dropN off cs) with
      | none => rw [hx] at h; cases h
      | some l =>
        rw [hx] at h; cases h
        obtain ⟨rfl, hle⟩ := takeN_some _ hx
        rw [dropN_eq]
        refine ⟨.agg (a.extract off (off + n)), by simp [part, isAggB_run hg, szOf_run hn], .agg ?_⟩
        have := (hr.drop off).take n
        simpa [Array.toList_extract, List.extract_eq_take_drop] using this
    · cases h
  · rename_i hg
    rw [nth_get] at h
    obtain ⟨v', h1, h2⟩ := hr.nth h
    refine ⟨v', ?_, h2⟩
    have : a[off]? = some v' := by rw [← Array.getElem?_toList]; exact h1
    simp [part, isAggB_run hg, this]
  · cases h
theorem fieldA_ok {t : TypeId} {x v : AV} {x' : Value} {f : Nat} (h : fieldA P t x f = some v) (hx : Rel E x x') (w : World) : ∃ v', (Instr.field t x' f).run P w = .ok v' w ∧ Rel E v v' := by
  unfold fieldA at h
  split at h
  · rename_i fs cs hu
    split at h
    · rename_i fd hf
      rw [nth_get, Array.getElem?_toList] at hf
      cases hx
      rename_i a hr
      obtain ⟨v', h1, h2⟩ := partA_ok h hr w
      exact ⟨v', by simp [Instr.field, und_run hu, hf, asAgg, h1], h2⟩
    · cases h
  · cases h
theorem fieldAtA_ok {t : TypeId} {x v : AV} {x' : Value} {f : Nat} (h : fieldAtA P t x f = some v) (hx : Rel E x x') (w : World) : ∃ v', (Instr.fieldAt t x' f).run P w = .ok v' w ∧ Rel E v v' := by
  unfold fieldAtA at h
  split at h
  · rename_i fs i off hu
    split at h
    · rename_i fd hf
      rw [nth_get, Array.getElem?_toList] at hf
      split at h
      · cases h
      · rename_i n hn
        cases h
        cases hx
        rename_i b hb
        refine ⟨.pointer (some ⟨b, off + fd.offset, none⟩), ?_, .ptr hb⟩
        simp [Instr.fieldAt, und_run hu, hf, Instr.sureAddr, fieldPlace, szOf_run hn, addr_add]
      · cases h
    · cases h
  · cases h
theorem indexA_ok {t : TypeId} {x ix v : AV} {x' ix' : Value} (h : indexA P t x ix = some v) (hx : Rel E x x') (hi : Rel E ix ix') (w : World) :
    ∃ v', (Instr.index t x' ix').run P w = .ok v' w ∧ Rel E v v' := by
  unfold indexA at h
  split at h
  case h_2 => cases h
  cases hi
  rename_i k n
  split at h
  case h_2 => cases h
  rename_i m hm
  have hn := natOf_some hm
  subst hn
  split at h
  · rename_i len e cs hu
    split at h
    · rename_i z hz hlt
      cases hx
      rename_i a hr
      obtain ⟨v', h1, h2⟩ := partA_ok h hr w
      have hlt' : m < len := by simpa using hlt
      exact ⟨v', by simpa [Instr.index, asIntOf, und_run hu, hlt', szOf_run hz] using h1, h2⟩
    · cases h
  · rename_i l hu
    split at h
    · rename_i b hb
      cases h
      cases hx
      rw [nth_get] at hb
      have hget : (ByteArray.mk l.toArray)[m]? = some b := by
        show (if h : m < (ByteArray.mk l.toArray).size then some ((ByteArray.mk l.toArray)[m]) else none) = some b
        obtain ⟨hm', hb'⟩ := List.getElem?_eq_some_iff.1 hb
        rw [dif_pos (by simpa [ByteArray.size] using hm')]
        congr 1
      exact ⟨.int .u8 b.toNat, by simp [Instr.index, asIntOf, und_run hu, hget], .int _ _⟩
    · cases h
  · cases h
end
end Ev
end Go.Proofs.YtpklliedmplpdaaGreatDoor
