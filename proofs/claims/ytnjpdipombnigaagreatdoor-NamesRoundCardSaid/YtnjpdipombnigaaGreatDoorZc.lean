/-
  The symbolic evaluator: a state told as another one, under other ids and other variables.
-/
import Derived.Test.YtnjpdipombnigaaGreatDoorZb
namespace Go.Proofs.YtnjpdipombnigaaGreatDoor
namespace Ev
open Go.RowKit

/-- How a template's names are read: its variables (below 1000), its ids (from 64 on), its one text. -/
structure Inst where
  vs : List (Nat × SE)
  ps : Prs
  str : Option (Nat × Nat × Nat × List Pc)
  ds : List (Nat × DT)
noncomputable def lookE (k : Nat) : List (Nat × SE) → SE
  | [] => .var k
  | p :: r => bi (Nat.beq p.1 k) p.2 (lookE k r)
/-- Variables that stay what they are. -/
noncomputable def ownVars (vs : List (Nat × SE)) : List (Nat × Int) → Bool
  | [] => true
  | p :: r => Nat.blt p.1 (nat_lit 1000) && (seEq (lookE p.1 vs) (.var p.1) && ownVars vs r)
/-- An expression of the template, as one of the state. -/
noncomputable def subE (vs : List (Nat × SE)) : SE → Option SE
  | .var k => bc (Nat.blt k (nat_lit 1000)) (some (lookE k vs))
  | .lit n => some (.lit n)
  | .wrap k a => oc (subE vs a) fun a => some (.wrap k a)
  | .bin op k a b => oc (subE vs a) fun a => oc (subE vs b) fun b => some (.bin op k a b)
  | .fn k a b => oc (subE vs a) fun a => oc (subE vs b) fun b => some (.fn k a b)
  | .lin n l => bc (ownVars vs l) (some (.lin n l))
noncomputable def sameE (vs : List (Nat × SE)) (x y : SE) : Bool := match subE vs x with
  | some x => seEq x y
  | none => false
/-- Variables from b on stay what they are. -/
noncomputable def keysLt (b : Nat) : List (Nat × SE) → Bool
  | [] => true
  | p :: r => Nat.blt p.1 b && keysLt b r
noncomputable def subP (vs : List (Nat × SE)) : List Pc → Option (List Pc)
  | [] => some []
  | .lit l :: r => oc (subP vs r) fun r => some (.lit l :: r)
  | .dec e :: r => oc (subE vs e) fun e => oc (subP vs r) fun r => some (.dec e :: r)
  | .byt e :: r => oc (subE vs e) fun e => oc (subP vs r) fun r => some (.byt e :: r)
  | .opq b e m :: r => bc (keysLt b vs && Nat.ble (Nat.add b m) (nat_lit 1000)) (oc (subE vs e) fun e => oc (subP vs r) fun r => some (.opq b e m :: r))
noncomputable def sameP (vs : List (Nat × SE)) (x y : List Pc) : Bool := match subP vs x with
  | some x => pcsEq x y
  | none => false
noncomputable def idI (I : Inst) (i j : Nat) : Bool := bi (Nat.blt i (nat_lit 64)) (Nat.beq i j) (match lookP i I.ps with
  | some k => Nat.beq k j
  | none => false)
noncomputable def isStr (I : Inst) (x y : List Pc) : Bool := match x, I.str with
  | [.opq b (.var v) m], some (b', v', m', ps) => Nat.beq b b' && (Nat.beq v v' && (Nat.beq m m' && pcsEq ps y))
  | _, _ => false
noncomputable def opqV (I : Inst) (k : Nat) (y : AV) : Bool := match lookDT k I.ds with
  | some (.av a) => pureD a && symV (nat_lit 40) a y
  | some _ => false
  | none => match y with
    | .opq j => Nat.beq k j
    | _ => false
noncomputable def instV (I : Inst) (n : Nat) : AV → AV → Bool :=
  Nat.rec (motive := fun _ => AV → AV → Bool) (fun _ _ => false) (fun _ ih x y => match x, y with
    | .bool a, .bool b => a == b
    | .int k a, .int q b => kindEq k q && eqA a b
    | .sint k a, .sint q b => kindEq k q && sameE I.vs a b
    | .sint k a, .int q b => kindEq k q && sameE I.vs a (.lit b)
    | .str a, .str b => bytesEq a b
    | .nilptr, .nilptr => true
    | .ptr i o, .ptr j u => idI I i j && Nat.beq o u
    | .nilslice, .nilslice => true
    | .slice i o l k d, .slice j u m q e => idI I i j && (Nat.beq o u && (Nat.beq l m && (natO k q && Nat.beq d e)))
    | .eslice, .eslice => true
    | .nilmap, .nilmap => true
    | .map i, .map j => idI I i j
    | .func f a b, .func g d e => Nat.beq f g && (allB ih a d && allB ih b e)
    | .nilFunc, .nilFunc => true
    | .iface t a, .iface u b => Nat.beq t u && ih a b
    | .nilIface, .nilIface => true
    | .agg a, .agg b => allB ih a b
    | .tuple a, .tuple b => allB ih a b
    | .pstr a, .pstr b => bi (isStr I a b) true (sameP I.vs a b)
    | .pstr a, .str b => isStr I a [.lit b]
    | .fslice i a, .fslice j b => idI I i j && sameE I.vs a b
    | .aslice i o n, .aslice j u m => idI I i j && (Nat.beq o u && Nat.beq n m)
    | .oslice a, .oslice b => sameE I.vs a b
    | .opq a, y => opqV I a y
    | .rsl i n, .rsl j m => idI I i j && sameE I.vs n m
    | .rsl i n, .slice j o l none d => idI I i j && (Nat.beq o (nat_lit 0) && (Nat.beq d (nat_lit 0) && sameE I.vs n (.lit (Int.ofNat l))))
    | .psl n a, .psl m b => Nat.beq n m && allB ih a b
    | .any, .any => true
    | .any, .str _ => true
    | .any, .pstr _ => true
    | .pslice a, .pslice b => Nat.beq a b && (keysLt a I.vs && Nat.ble (Nat.add a (nat_lit 3)) (nat_lit 1000))
    | _, _ => false) n
noncomputable def instL (I : Inst) (l m : List AV) : Bool := allB (instV I (nat_lit 40)) l m
noncomputable def instE (I : Inst) : List Ent → List Ent → Bool
  | [], [] => true
  | x :: l, y :: m => instV I (nat_lit 40) x.key y.key && (instV I (nat_lit 40) x.val y.val && (Nat.beq x.born y.born && instE I l m))
  | _, _ => false
/-- A row that grows: told with more cells; a row of own cells, as such a one. -/
noncomputable def accO (I : Inst) (k : Nat) (n : SE) (e z : Nat) (y : AObj) : Bool := match y, lookDT k I.ds with
  | .acc k0 vs n0 e0 z0, some (.ext k1 m us) => Nat.beq k0 k1 && (Nat.beq e e0 && (Nat.beq z z0 && (sameE I.vs n n0 && (symL us vs && (pureDL us && Nat.beq us.length (Nat.mul m z))))))
  | .acc k0 [] n0 e0 z0, none => Nat.beq k k0 && (Nat.beq e e0 && (Nat.beq z z0 && sameE I.vs n n0))
  | .cells vs e0 fz (some z0), some (.av (.psl m us)) => Nat.beq e e0 && (Nat.beq z z0 && (sameE I.vs n (.lit (Int.ofNat m)) && (symL us vs && (pureDL us && (Nat.beq us.length (Nat.mul m z) && Nat.ble fz.2 fz.1)))))
  | _, _ => false
noncomputable def instO (I : Inst) (x y : AObj) : Bool := match x, y with
  | .acc k [] n e z, y => accO I k n e z y
  | .cells a e f p, .cells b e' f' p' => instL I a b && (Nat.beq e e' && (fzEq f f' && natO p p'))
  | .part a, .part b => instL I a b
  | .row a, .row b => instL I a b
  | .map a n, .map b k => Nat.beq n k && instE I a b
  | .umap a n t, .umap b k u => Nat.beq n k && (idI I t u && instE I a b)
  | .flat n v e, .flat n' v' e' => sameE I.vs n n' && (sameE I.vs v v' && Nat.beq e e')
  | _, _ => false
noncomputable def instAt (I : Inst) (x : AObj) (o : Option AObj) : Bool := match o with
  | some y => instO I x y
  | none => false
/-- Each object of the template. -/
noncomputable def instObjs (I : Inst) (h : T AObj) : List (Nat × AObj) → Bool
  | [] => true
  | p :: r => (match lookP p.1 I.ps with
    | some j => instAt I p.2 (h.get j)
    | none => false) && instObjs I h r
/-- What a fact says of the state is decided there. -/
noncomputable def instF (O : Orc) (vs : List (Nat × SE)) (f : Fact) : Bool := match subE vs f.a, subE vs f.b with
  | some a, some b => (match (match f.lt with | true => O.lt a b | false => O.eq a b) with
    | some q => q == f.q
    | none => false)
  | _, _ => false
noncomputable def instFs (O : Orc) (vs : List (Nat × SE)) : List Fact → Bool
  | [] => true
  | f :: r => instF O vs f && instFs O vs r
noncomputable def prsOk (c : Nat) : Prs → Bool
  | [] => true
  | p :: r => Nat.ble (nat_lit 64) p.1 && (Nat.blt p.1 c && (Nat.ble (nat_lit 64) p.2 && prsOk c r))
noncomputable def strOk (O : Orc) (I : Inst) : Bool := match I.str with
  | none => true
  | some (b, v, m, ps) => Nat.ble (nat_lit 1000) b && (Nat.blt v (nat_lit 1000) && (Nat.ble (pcsMax ps) (nat_lit 1000000) && (match pcsLen O ps with
    | some e => seEq (lookE v I.vs) e && leO O e (.lit (Int.ofNat m))
    | none => false)))
/-- The template's state. -/
noncomputable def tmplSt (tabs : List (Nat × List AV)) (c : Nat) (objs : List (Nat × AObj)) (fs : List Fact) : St := ⟨c, putsL (initH tabs) objs, nat_lit 0, nat_lit 0, orcI fs⟩
noncomputable def instChk (I : Inst) (tabs : List (Nat × List AV)) (c : Nat) (objs : List (Nat × AObj)) (fs : List Fact) (s : St) : Bool :=
  tabsIn s tabs && (prsOk c I.ps && (onceQ I.ps && (strOk s.o I && (instObjs I s.h objs && instFs s.o I.vs fs))))

section
variable {I : Inst} {E : Env}
/-- The template's variables. -/
noncomputable def instρ (I : Inst) (ρ : Nat → Int) : Nat → Int := fun k => if k < 1000 then (lookE k I.vs).val ρ else match I.str with
  | none => 0
  | some (b, _, _, ps) => match (psVal ρ ps)[k - b]? with
    | some x => (x.toNat : Int)
    | none => 0
noncomputable def instEnv (I : Inst) (E : Env) : Env := ⟨fun i => if i < 64 then E i else match lookP i I.ps with | some j => E j | none => .unborn, instρ I E.ρ, fun t => if t < 64 then E.st t else match lookP t I.ps with | some u => E.st u | none => Stamps.same, fun k => match lookDT k I.ds with | some t => dtV E.ρ E.δ t | none => E.δ k, E.K, E.hp⟩
theorem ownVars_ok {vs : List (Nat × SE)} {ρ ρ' : Nat → Int} (hv : ∀ k, k < 1000 → ρ' k = (lookE k vs).val ρ) : ∀ {l : List (Nat × Int)}, ownVars vs l = true → linV ρ' l = linV ρ l
  | [], _ => rfl
  | p :: r, h => by
    simp only [ownVars, Bool.and_eq_true] at h
    obtain ⟨h1, h2, h3⟩ := h
    show p.2 * ρ' p.1 + linV ρ' r = p.2 * ρ p.1 + linV ρ r
    rw [ownVars_ok hv h3, hv p.1 (by simpa using h1), seEq_ok h2]
    rfl
theorem subE_ok {vs : List (Nat × SE)} {ρ ρ' : Nat → Int} (hv : ∀ k, k < 1000 → ρ' k = (lookE k vs).val ρ) : ∀ {e e' : SE}, subE vs e = some e' → e.val ρ' = e'.val ρ
  | .var k, e', h => by
    obtain ⟨h1, h2⟩ := bc_some (show bc (Nat.blt k (nat_lit 1000)) (some (lookE k vs)) = some e' from h)
    cases h2
    exact hv k (by simpa using h1)
  | .lit n, e', h => by cases h; rfl
  | .wrap k a, e', h => by
    obtain ⟨a', h1, h2⟩ := oc_some (show oc (subE vs a) (fun a => some (.wrap k a)) = some e' from h)
    cases h2
    simp only [SE.val, subE_ok hv h1]
  | .bin op k a b, e', h => by
    obtain ⟨a', h1, h2⟩ := oc_some (show oc (subE vs a) (fun a => oc (subE vs b) fun b => some (.bin op k a b)) = some e' from h)
    obtain ⟨b', h3, h4⟩ := oc_some h2
    cases h4
    simp only [SE.val, subE_ok hv h1, subE_ok hv h3]
  | .fn k a b, e', h => by
    obtain ⟨a', h1, h2⟩ := oc_some (show oc (subE vs a) (fun a => oc (subE vs b) fun b => some (.fn k a b)) = some e' from h)
    obtain ⟨b', h3, h4⟩ := oc_some h2
    cases h4
    simp only [SE.val, subE_ok hv h1, subE_ok hv h3]
  | .lin n l, e', h => by
    obtain ⟨h1, h2⟩ := bc_some (show bc (ownVars vs l) (some (.lin n l)) = some e' from h)
    cases h2
    show n + linV ρ' l = n + linV ρ l
    rw [ownVars_ok hv h1]
theorem sameE_ok {vs : List (Nat × SE)} {ρ ρ' : Nat → Int} (hv : ∀ k, k < 1000 → ρ' k = (lookE k vs).val ρ) {x y : SE} (h : sameE vs x y = true) : x.val ρ' = y.val ρ := by
  unfold sameE at h
  split at h
  · rename_i x' hx
    rw [subE_ok hv hx, seEq_ok h]
  · cases h
theorem lookE_out {b k : Nat} : ∀ {vs : List (Nat × SE)}, keysLt b vs = true → b ≤ k → lookE k vs = .var k
  | [], _, _ => rfl
  | p :: r, h, hk => by
    simp only [keysLt, Bool.and_eq_true] at h
    have h1 : p.1 < b := by simpa using h.1
    have e : Nat.beq p.1 k = false := by
      rw [Bool.eq_false_iff]
      intro h2
      have := Nat.eq_of_beq_eq_true h2
      omega
    show bi (Nat.beq p.1 k) p.2 (lookE k r) = .var k
    rw [e, bi_false]
    exact lookE_out h.2 hk
theorem subP_ok {vs : List (Nat × SE)} {ρ ρ' : Nat → Int} (hv : ∀ k, k < 1000 → ρ' k = (lookE k vs).val ρ) : ∀ {l m : List Pc}, subP vs l = some m → psVal ρ' l = psVal ρ m
  | [], m, h => by cases h; rfl
  | .lit x :: r, m, h => by
    obtain ⟨r', h1, h2⟩ := oc_some (show oc (subP vs r) (fun r => some (.lit x :: r)) = some m from h)
    cases h2
    simp only [psVal, Pc.val, subP_ok hv h1]
  | .dec e :: r, m, h => by
    obtain ⟨e', h1, h2⟩ := oc_some (show oc (subE vs e) (fun e => oc (subP vs r) fun r => some (.dec e :: r)) = some m from h)
    obtain ⟨r', h3, h4⟩ := oc_some h2
    cases h4
    simp only [psVal, Pc.val, subE_ok hv h1, subP_ok hv h3]
  | .byt e :: r, m, h => by
    obtain ⟨e', h1, h2⟩ := oc_some (show oc (subE vs e) (fun e => oc (subP vs r) fun r => some (.byt e :: r)) = some m from h)
    obtain ⟨r', h3, h4⟩ := oc_some h2
    cases h4
    simp only [psVal, Pc.val, subE_ok hv h1, subP_ok hv h3]
  | .opq b e k :: r, m, h => by
    obtain ⟨h0, h⟩ := bc_some (show bc (keysLt b vs && Nat.ble (Nat.add b k) (nat_lit 1000)) (oc (subE vs e) fun e => oc (subP vs r) fun r => some (.opq b e k :: r)) = some m from h)
    obtain ⟨e', h1, h2⟩ := oc_some h
    obtain ⟨r', h3, h4⟩ := oc_some h2
    cases h4
    rw [Bool.and_eq_true] at h0
    have hk : b + k ≤ 1000 := Nat.le_of_ble_eq_true h0.2
    have hl : ∀ j, j < k → ρ' (b + j) = ρ (b + j) := fun j hj => by
      rw [hv (b + j) (by omega), lookE_out h0.1 (by omega)]; rfl
    simp only [psVal, Pc.val, subP_ok hv h3, subE_ok hv h1]
    congr 1
    apply List.map_congr_left
    intro j hj
    rw [hl j (by have := List.mem_range.1 hj; omega)]
theorem sameP_ok {vs : List (Nat × SE)} {ρ ρ' : Nat → Int} (hv : ∀ k, k < 1000 → ρ' k = (lookE k vs).val ρ) {x y : List Pc} (h : sameP vs x y = true) : psVal ρ' x = psVal ρ y := by
  unfold sameP at h
  split at h
  · rename_i x' hx
    rw [subP_ok hv hx, pcsEq_ok ρ h]
  · cases h
theorem instρ_small (I : Inst) (ρ : Nat → Int) : ∀ k, k < 1000 → instρ I ρ k = (lookE k I.vs).val ρ := fun k h => by simp only [instρ]; rw [if_pos h]
theorem idI_ok {i j : Nat} (h : idI I i j = true) : instEnv I E i = E j ∧ (instEnv I E).st i = E.st j := by
  have h' : bi (Nat.blt i (nat_lit 64)) (Nat.beq i j) (match lookP i I.ps with
    | some k => Nat.beq k j
    | none => false) = true := h
  cases hb : Nat.blt i (nat_lit 64) with
  | true =>
    rw [hb, bi_true] at h'
    obtain rfl := Nat.eq_of_beq_eq_true h'
    have hi : i < 64 := by simpa using hb
    exact ⟨by simp only [instEnv]; rw [if_pos hi], by simp only [instEnv]; rw [if_pos hi]⟩
  | false =>
    rw [hb, bi_false] at h'
    have hi : ¬ i < 64 := fun hlt => by rw [show Nat.blt i (nat_lit 64) = true from Eq.mpr Nat.blt_eq hlt] at hb; cases hb
    split at h'
    · rename_i k hk
      obtain rfl := Nat.eq_of_beq_eq_true h'
      exact ⟨by simp only [instEnv]; rw [if_neg hi, hk], by simp only [instEnv]; rw [if_neg hi, hk]⟩
    · cases h'
theorem strOk_ok {O : Orc} (ho : OrcOk O E.ρ) (h : strOk O I = true) : ∀ b v m ps, I.str = some (b, v, m, ps) → psVal (instρ I E.ρ) [.opq b (.var v) m] = psVal E.ρ ps := by
  intro b v m ps hI
  unfold strOk at h
  rw [hI] at h
  simp only [Bool.and_eq_true] at h
  obtain ⟨h1, h2, h3, h4⟩ := h
  have h1 : 1000 ≤ b := by simpa using h1
  have h2 : v < 1000 := by simpa using h2
  have h3 : pcsMax ps ≤ 1000000 := by simpa using h3
  split at h4
  case h_2 => cases h4
  rename_i e he
  rw [Bool.and_eq_true] at h4
  have hlen := pcsLen_ok ho he h3
  have hle : e.val E.ρ ≤ (m : Int) := leO_ok ho h4.2
  have hvv : instρ I E.ρ v = e.val E.ρ := by rw [instρ_small I E.ρ v h2, seEq_ok h4.1]
  rw [psVal_lone]
  have hmin : min ((SE.var v).val (instρ I E.ρ)).toNat m = (psVal E.ρ ps).length := by
    show min (instρ I E.ρ v).toNat m = _
    rw [hvv]; omega
  simp only [Pc.val]
  rw [hmin]
  apply List.ext_getElem?
  intro j
  rw [List.getElem?_map]
  by_cases hj : j < (psVal E.ρ ps).length
  · rw [List.getElem?_range hj]
    simp only [Option.map_some]
    rw [List.getElem?_eq_getElem hj]
    congr 1
    have hk : ¬ b + j < 1000 := by omega
    have : instρ I E.ρ (b + j) = (((psVal E.ρ ps)[j]).toNat : Int) := by
      simp only [instρ]
      rw [if_neg hk, hI]
      simp only [Nat.add_sub_cancel_left]
      rw [List.getElem?_eq_getElem hj]
    rw [this]
    simp
  · rw [List.getElem?_eq_none (by simp; omega), List.getElem?_eq_none (by omega)]
    rfl
theorem isStr_ok {O : Orc} (ho : OrcOk O E.ρ) (hs : strOk O I = true) {x y : List Pc} (h : isStr I x y = true) : psVal (instρ I E.ρ) x = psVal E.ρ y := by
  unfold isStr at h
  split at h
  · rename_i b v m b' v' m' ps hI
    simp only [Bool.and_eq_true] at h
    obtain ⟨h1, h2, h3, h4⟩ := h
    obtain rfl := Nat.eq_of_beq_eq_true h1
    obtain rfl := Nat.eq_of_beq_eq_true h2
    obtain rfl := Nat.eq_of_beq_eq_true h3
    rw [strOk_ok ho hs b v m ps hI, pcsEq_ok E.ρ h4]
  · cases h
theorem inst_δ {k : Nat} : (instEnv I E).δ k = match lookDT k I.ds with | some t => dtV E.ρ E.δ t | none => E.δ k := rfl
theorem opqV_ok {k : Nat} {y : AV} {v : Value} (h : opqV I k y = true) (hr : Rel E y v) : Rel (instEnv I E) (.opq k) v := by
  unfold opqV at h
  split at h
  · rename_i a ha
    rw [Bool.and_eq_true] at h
    obtain ⟨h1, h3⟩ := h
    have hr' := symV_ok (Wider.refl E) 40 _ _ _ h3 hr
    refine .opq ?_
    rw [inst_δ, ha]
    exact rel_dOf h1 hr'
  · cases h
  · rename_i hn
    split at h
    · obtain rfl := Nat.eq_of_beq_eq_true h
      cases hr with
      | opq hk => exact .opq (by rw [inst_δ, hn]; exact hk)
    · cases h
theorem reprL_append {K : Nat → Prop} {hp : Nat → Option Obj} : ∀ {l l' : List D} {u u' : List Value}, ReprL K hp l u → ReprL K hp l' u' → ReprL K hp (l ++ l') (u ++ u')
  | _, _, _, _, .nil, h => h
  | _, _, _, _, .cons h t, k => .cons h (reprL_append t k)
theorem accO_ok {k : Nat} {n : SE} {e z i j : Nat} {y : AObj} {ob : Obj} (hij : instEnv I E i = E j) (h : accO I k n e z y = true) (hok : OkObj E j y ob) : OkObj (instEnv I E) i (.acc k [] n e z) ob := by
  have hv := instρ_small I E.ρ
  unfold accO at h
  split at h
  · rename_i k0 vs n0 e0 z0 k1 m us hds
    simp only [Bool.and_eq_true] at h
    obtain ⟨h1, h2, h3, h4, h5, h6, h7⟩ := h
    obtain rfl := Nat.eq_of_beq_eq_true h1
    obtain rfl := Nat.eq_of_beq_eq_true h2
    obtain rfl := Nat.eq_of_beq_eq_true h3
    have h7 : us.length = m * z := Nat.eq_of_beq_eq_true h7
    obtain ⟨c, f, us0, us1, rest, b, C, N, l, rfl, hx, ⟨M, hd, hM⟩, hl, hr, he, hs, hn, hlen, hf⟩ := hok
    have hr2 := rel_dOfL h6 (symL_ok (Wider.refl E) h5 hr)
    refine ⟨c, f, us0 ++ us1, [], rest, b, C, N, l ++ dOfL E.ρ E.δ us, rfl, by rw [hx]; simp, ⟨M + m, ?_, ?_⟩, reprL_append hl hr2, .nil, hij.trans he, hs, ?_, by simp; omega, hf⟩
    · rw [inst_δ, hds]
      simp only [dtV, hd]
    · rw [List.length_append, dOfL_len, hM, h7, Nat.add_mul]
    · show n.val (instρ I E.ρ) = _
      rw [sameE_ok hv h4]; exact hn
  · rename_i k0 n0 e0 z0 hds
    simp only [Bool.and_eq_true] at h
    obtain ⟨h1, h2, h3, h4⟩ := h
    obtain rfl := Nat.eq_of_beq_eq_true h1
    obtain rfl := Nat.eq_of_beq_eq_true h2
    obtain rfl := Nat.eq_of_beq_eq_true h3
    obtain ⟨c, f, us0, us1, rest, b, C, N, l, rfl, hx, ⟨M, hd, hM⟩, hl, hr, he, hs, hn, hlen, hf⟩ := hok
    cases hr
    refine ⟨c, f, us0, [], rest, b, C, N, l, rfl, hx, ⟨M, ?_, hM⟩, hl, .nil, hij.trans he, hs, ?_, hlen, hf⟩
    · rw [inst_δ, hds]; exact hd
    · show n.val (instρ I E.ρ) = _
      rw [sameE_ok hv h4]; exact hn
  · rename_i vs e0 fz z0 m us hds
    simp only [Bool.and_eq_true] at h
    obtain ⟨h1, h2, h3, h4, h5, h6, h7⟩ := h
    obtain rfl := Nat.eq_of_beq_eq_true h1
    obtain rfl := Nat.eq_of_beq_eq_true h2
    have h6 : us.length = m * z := Nat.eq_of_beq_eq_true h6
    have h7 : fz.2 ≤ fz.1 := Nat.le_of_ble_eq_true h7
    obtain ⟨c, f, xs, rest, b, C, rfl, hx, hr, he, hs, hfz⟩ := hok
    have hr2 := rel_dOfL h5 (symL_ok (Wider.refl E) h4 hr)
    have hlx := relL_length hr
    have hls := symL_len h4
    refine ⟨c, f, xs, [], rest, b, C, m, dOfL E.ρ E.δ us, rfl, by rw [hx]; simp, ⟨m, ?_, ?_⟩, hr2, .nil, hij.trans he, hs, ?_, ?_, fun off h8 h9 h10 => ?_⟩
    · rw [inst_δ, hds]
      simp only [dtV, dOf]
    · rw [dOfL_len, h6]
    · show n.val (instρ I E.ρ) = _
      rw [sameE_ok hv h3]; rfl
    · simp; omega
    · have := hfz off h8 h9 h10
      omega
  · cases h
theorem instV_ok {O : Orc} (ho : OrcOk O E.ρ) (hs : strOk O I = true) : ∀ (n : Nat) (x y : AV) (v : Value), instV I n x y = true → Rel E y v → Rel (instEnv I E) x v := by
  have hρ : (instEnv I E).ρ = instρ I E.ρ := rfl
  have hv := instρ_small I E.ρ
  intro n
  induction n with
  | zero => intro x y v h; exact absurd (show false = true from h) (by decide)
  | succ n ih =>
    intro x y v h hr
    by_cases hq : ∃ k, x = .opq k
    · obtain ⟨k, rfl⟩ := hq
      exact opqV_ok (show opqV I k y = true from h) hr
    cases x <;> cases y <;> first | (exact absurd (show false = true from h) (by decide)) | (exact absurd ⟨_, rfl⟩ hq) | skip
    case bool.bool a b =>
      have h' : (a == b) = true := h
      rw [beq_iff_eq] at h'
      subst h'
      cases hr; exact .bool _
    case int.int k a q b =>
      have h' : (kindEq k q && eqA a b) = true := h
      rw [Bool.and_eq_true] at h'
      obtain rfl := kindEq_ok h'.1
      have : a = b := by rw [eqA_eq] at h'; exact of_decide_eq_true h'.2
      subst this
      cases hr; exact .int _ _
    case sint.sint k a q b =>
      have h' : (kindEq k q && sameE I.vs a b) = true := h
      rw [Bool.and_eq_true] at h'
      obtain rfl := kindEq_ok h'.1
      cases hr
      rw [← sameE_ok hv h'.2, ← hρ]; exact .sint _ _
    case sint.int k a q b =>
      have h' : (kindEq k q && sameE I.vs a (.lit b)) = true := h
      rw [Bool.and_eq_true] at h'
      obtain rfl := kindEq_ok h'.1
      cases hr
      have e : a.val (instρ I E.ρ) = b := sameE_ok hv h'.2
      rw [← e, ← hρ]; exact .sint _ _
    case str.str a b =>
      have h' : bytesEq a b = true := h
      rw [bytesEq_eq, beq_iff_eq] at h'
      subst h'
      cases hr; exact .str _
    case nilptr.nilptr => cases hr; exact .nilptr
    case ptr.ptr i o j u =>
      have h' : (idI I i j && Nat.beq o u) = true := h
      rw [Bool.and_eq_true] at h'
      obtain rfl := Nat.eq_of_beq_eq_true h'.2
      cases hr; rename_i hb; exact .ptr (by rw [(idI_ok h'.1).1]; exact hb)
    case nilslice.nilslice => cases hr; exact .nilslice
    case slice.slice i o l k d j u m q e =>
      have h' : (idI I i j && (Nat.beq o u && (Nat.beq l m && (natO k q && Nat.beq d e)))) = true := h
      simp only [Bool.and_eq_true] at h'
      obtain ⟨h1, h2, h3, h4, h5⟩ := h'
      obtain rfl := Nat.eq_of_beq_eq_true h2
      obtain rfl := Nat.eq_of_beq_eq_true h3
      obtain rfl := natO_ok h4
      obtain rfl := Nat.eq_of_beq_eq_true h5
      cases hr; rename_i hb hc
      exact .slice (by rw [(idI_ok h1).1]; exact hb) (by rw [(idI_ok h1).1]; exact hc)
    case eslice.eslice => cases hr; exact .eslice
    case nilmap.nilmap => cases hr; exact .nilmap
    case map.map i j =>
      have h' : idI I i j = true := h
      cases hr; rename_i hb; exact .map (by rw [(idI_ok h').1]; exact hb)
    case func.func f a b g d e =>
      have h' : (Nat.beq f g && (allB (instV I n) a d && allB (instV I n) b e)) = true := h
      simp only [Bool.and_eq_true] at h'
      obtain rfl := Nat.eq_of_beq_eq_true h'.1
      cases hr; rename_i hp hq
      exact .func (allB_ok ih h'.2.1 hp) (allB_ok ih h'.2.2 hq)
    case nilFunc.nilFunc => cases hr; exact .nilFunc
    case iface.iface t a u b =>
      have h' : (Nat.beq t u && instV I n a b) = true := h
      rw [Bool.and_eq_true] at h'
      obtain rfl := Nat.eq_of_beq_eq_true h'.1
      cases hr; rename_i hv'; exact .iface (ih _ _ _ h'.2 hv')
    case nilIface.nilIface => cases hr; exact .nilIface
    case agg.agg a b => cases hr; rename_i hl; exact .agg (allB_ok ih (show allB (instV I n) a b = true from h) hl)
    case tuple.tuple a b => cases hr; rename_i hl; exact .tuple (allB_ok ih (show allB (instV I n) a b = true from h) hl)
    case pstr.pstr a b =>
      have h' : bi (isStr I a b) true (sameP I.vs a b) = true := h
      have e : psVal (instρ I E.ρ) a = psVal E.ρ b := by
        cases hq : isStr I a b with
        | true => exact isStr_ok ho hs hq
        | false => rw [hq, bi_false] at h'; exact sameP_ok hv h'
      cases hr
      rw [← e, ← hρ]; exact .pstr _
    case pstr.str a b =>
      have h' : isStr I a [.lit b] = true := h
      have e := isStr_ok ho hs h'
      rw [psVal_one] at e
      cases hr
      rw [← e, ← hρ]; exact .pstr _
    case fslice.fslice i a j b =>
      have h' : (idI I i j && sameE I.vs a b) = true := h
      rw [Bool.and_eq_true] at h'
      cases hr; rename_i hb
      rw [← sameE_ok hv h'.2, ← hρ]; exact .fslice (by rw [(idI_ok h'.1).1]; exact hb)
    case aslice.aslice i o l j u m =>
      have h' : (idI I i j && (Nat.beq o u && Nat.beq l m)) = true := h
      simp only [Bool.and_eq_true] at h'
      obtain ⟨h1, h2, h3⟩ := h'
      obtain rfl := Nat.eq_of_beq_eq_true h2
      obtain rfl := Nat.eq_of_beq_eq_true h3
      cases hr; rename_i hb hc
      exact .aslice (by rw [(idI_ok h1).1]; exact hb) hc
    case oslice.oslice a b =>
      have h' : sameE I.vs a b = true := h
      cases hr; rename_i hk
      exact .oslice (by rw [hρ, sameE_ok hv h']; exact hk)
    case psl.psl n' a m b =>
      have h' : (Nat.beq n' m && allB (instV I n) a b) = true := h
      rw [Bool.and_eq_true] at h'
      obtain rfl := Nat.eq_of_beq_eq_true h'.1
      cases hr with
      | psl0 =>
        cases a with
        | nil => exact .psl0
        | cons _ _ => exact absurd h'.2 (by simp [allB])
      | psl hb h1 h2 h3 h4 h5 => exact .psl hb h1 h2 h3 h4 (allB_ok ih h'.2 h5)
    case rsl.rsl i n' j m =>
      have h' : (idI I i j && sameE I.vs n' m) = true := h
      rw [Bool.and_eq_true] at h'
      cases hr; rename_i b c N hb hc hN
      exact .rsl (by rw [(idI_ok h'.1).1]; exact hb) (by rw [hρ, sameE_ok hv h'.2]; exact hN) (by rw [(idI_ok h'.1).1]; exact hc)
    case rsl.slice i n' j o l cp d =>
      cases cp with
      | some c => exact absurd (show false = true from h) (by decide)
      | none =>
        have h' : (idI I i j && (Nat.beq o 0 && (Nat.beq d 0 && sameE I.vs n' (.lit (Int.ofNat l))))) = true := h
        simp only [Bool.and_eq_true] at h'
        obtain ⟨h1, h2, h3, h4⟩ := h'
        obtain rfl := Nat.eq_of_beq_eq_true h2
        obtain rfl := Nat.eq_of_beq_eq_true h3
        cases hr; rename_i b c hb hc
        exact .rsl (by rw [(idI_ok h1).1]; exact hb) (by rw [hρ, sameE_ok hv h4]; rfl) (by rw [(idI_ok h1).1]; exact hc)
    case any.any => cases hr; exact .any
    case any.str a => cases hr; exact .any
    case any.pstr a => cases hr; exact .any
    case pslice.pslice a b =>
      have h' : (Nat.beq a b && (keysLt a I.vs && Nat.ble (Nat.add a (nat_lit 3)) (nat_lit 1000))) = true := h
      simp only [Bool.and_eq_true] at h'
      obtain ⟨h1, h2, h3⟩ := h'
      obtain rfl := Nat.eq_of_beq_eq_true h1
      have h3 : a + 3 ≤ 1000 := Nat.le_of_ble_eq_true h3
      have e : ∀ j, j < 3 → (instEnv I E).ρ (a + j) = E.ρ (a + j) := fun j hj => by
        rw [hρ, hv (a + j) (by omega), lookE_out h2 (by omega)]; rfl
      cases hr with
      | pslice k1 k2 k3 k4 => exact .pslice (by rw [show a = a + 0 from rfl, e 0 (by omega)]; exact k1) (by rw [e 1 (by omega)]; exact k2) (by rw [e 2 (by omega)]; exact k3) k4
      | pslice0 k1 => exact .pslice0 (by rw [e 2 (by omega)]; exact k1)
theorem instL_ok {O : Orc} (ho : OrcOk O E.ρ) (hs : strOk O I = true) {l m : List AV} {vs : List Value} (h : instL I l m = true) (hr : RelL E m vs) : RelL (instEnv I E) l vs := allB_ok (instV_ok ho hs 40) h hr
theorem instE_ok {O : Orc} (ho : OrcOk O E.ρ) (hs : strOk O I = true) : ∀ {a b : List Ent} {zs : List MapEntry}, instE I a b = true → RelE E b zs → RelE (instEnv I E) a zs
  | [], [], _, _, .nil => .nil
  | _ :: _, _ :: _, _, h, .cons h1 h2 h3 t => by
    simp only [instE, Bool.and_eq_true] at h
    exact .cons (instV_ok ho hs 40 _ _ _ h.1 h1) (instV_ok ho hs 40 _ _ _ h.2.1 h2) ((Nat.eq_of_beq_eq_true h.2.2.1).trans h3) (instE_ok ho hs h.2.2.2 t)
  | [], _ :: _, _, h, _ => by cases h
  | _ :: _, [], _, h, _ => by cases h
theorem instE_borns : ∀ {a b : List Ent}, instE I a b = true → a.map Ent.born = b.map Ent.born
  | [], [], _ => rfl
  | x :: l, y :: m, h => by
    simp only [instE, Bool.and_eq_true] at h
    rw [List.map_cons, List.map_cons, Nat.eq_of_beq_eq_true h.2.2.1, instE_borns h.2.2.2]
  | [], _ :: _, h => by cases h
  | _ :: _, [], h => by cases h
theorem instE_S {O : Orc} (ho : OrcOk O E.ρ) (hs : strOk O I = true) {S : Stamps} : ∀ {a b : List Ent} {zs : List MapEntry}, instE I a b = true → RelS E S b zs → RelS (instEnv I E) S a zs
  | [], [], _, _, .nil => .nil
  | _ :: _, _ :: _, _, h, .cons h1 h2 h3 t => by
    simp only [instE, Bool.and_eq_true] at h
    exact .cons (instV_ok ho hs 40 _ _ _ h.1 h1) (instV_ok ho hs 40 _ _ _ h.2.1 h2) (by rw [Nat.eq_of_beq_eq_true h.2.2.1]; exact h3) (instE_S ho hs h.2.2.2 t)
  | [], _ :: _, _, h, _ => by cases h
  | _ :: _, [], _, h, _ => by cases h
theorem fzEq_ok {f f' : Nat × Nat} (h : fzEq f f' = true) : f = f' := by
  obtain ⟨f1, f2⟩ := f
  obtain ⟨g1, g2⟩ := f'
  have h' : (Nat.beq f1 g1 && Nat.beq f2 g2) = true := h
  rw [Bool.and_eq_true] at h'
  rw [Nat.eq_of_beq_eq_true h'.1, Nat.eq_of_beq_eq_true h'.2]
theorem instO_ok {O : Orc} (ho : OrcOk O E.ρ) (hs : strOk O I = true) {x y : AObj} {i j : Nat} {ob : Obj} (h : instO I x y = true) (hij : instEnv I E i = E j) (hok : OkObj E j y ob) : OkObj (instEnv I E) i x ob := by
  have hρ : (instEnv I E).ρ = instρ I E.ρ := rfl
  have hv := instρ_small I E.ρ
  by_cases hx : ∃ k vs n e z, x = .acc k vs n e z
  · obtain ⟨k, vs, n, e, z, rfl⟩ := hx
    cases vs with
    | nil => exact accO_ok hij (show accO I k n e z y = true from h) hok
    | cons a r => exact absurd (show false = true from h) (by decide)
  cases x <;> cases y <;> first | (exact absurd (show false = true from h) (by decide)) | (exact absurd ⟨_, _, _, _, _, rfl⟩ hx) | skip
  case cells.cells a e f p b e' f' p' =>
    have h' : (instL I a b && (Nat.beq e e' && (fzEq f f' && natO p p'))) = true := h
    simp only [Bool.and_eq_true] at h'
    obtain ⟨h1, h2, h3, h4⟩ := h'
    have he0 : e' = e := (Nat.eq_of_beq_eq_true h2).symm
    obtain rfl := natO_ok h4
    obtain rfl := fzEq_ok h3
    cases p with
    | none =>
      obtain ⟨c', f', rfl, hr, hfz⟩ := hok
      exact ⟨c', f', by rw [he0], instL_ok ho hs h1 hr, hfz⟩
    | some z =>
      obtain ⟨c', f', xs, rest, b', C, rfl, hx, hr, he, hsz, hfz⟩ := hok
      exact ⟨c', f', xs, rest, b', C, by rw [he0], hx, instL_ok ho hs h1 hr, by rw [hij]; exact he, hsz, hfz⟩
  case part.part a b =>
    have h' : instL I a b = true := h
    obtain ⟨c', e, f, xs, rest, rfl, hx, hr⟩ := hok
    exact ⟨c', e, f, xs, rest, rfl, hx, instL_ok ho hs h' hr⟩
  case row.row a b =>
    have h' : instL I a b = true := h
    obtain ⟨c', e, f, b', C, xs, rest, rfl, he, hx, hr⟩ := hok
    exact ⟨c', e, f, b', C, xs, rest, rfl, by rw [hij]; exact he, hx, instL_ok ho hs h' hr⟩
  case map.map a n b k =>
    have h' : (Nat.beq n k && instE I a b) = true := h
    rw [Bool.and_eq_true] at h'
    obtain ⟨arr, rfl, hr⟩ := hok
    exact ⟨arr, by rw [Nat.eq_of_beq_eq_true h'.1], instE_ok ho hs h'.2 hr⟩
  case umap.umap a n t b k u =>
    have h' : (Nat.beq n k && (idI I t u && instE I a b)) = true := h
    simp only [Bool.and_eq_true] at h'
    obtain ⟨h1, h2, h3⟩ := h'
    obtain rfl := Nat.eq_of_beq_eq_true h1
    obtain ⟨g1, g2⟩ := idI_ok (E := E) h2
    obtain ⟨arr, rfl, hm⟩ := hok
    have hb := instE_borns h3
    obtain ⟨l, hp, hr⟩ := hm.rel
    refine ⟨arr, by rw [g2], ⟨by rw [g1]; exact hm.tag, by rw [g2]; exact hm.le, fun e he => ?_, by rw [hb]; exact hm.once, l, hp, by rw [g2]; exact instE_S ho hs h3 hr⟩⟩
    have : e.born ∈ b.map Ent.born := by rw [← hb]; exact List.mem_map.2 ⟨e, he, rfl⟩
    obtain ⟨e', he', hbe⟩ := List.mem_map.1 this
    rw [← hbe]; exact hm.lt e' he'
  case flat.flat n v e n' v' e' =>
    have h' : (sameE I.vs n n' && (sameE I.vs v v' && Nat.beq e e')) = true := h
    simp only [Bool.and_eq_true] at h'
    obtain ⟨h1, h2, h3⟩ := h'
    obtain rfl := Nat.eq_of_beq_eq_true h3
    have hok : ob = _ := hok
    show ob = _
    rw [hok, hρ, sameE_ok hv h1, sameE_ok hv h2]
theorem instO_fixed {x y : AObj} (h : instO I x y = true) : x.fixed = y.fixed := by
  by_cases hx : ∃ k vs n e z, x = .acc k vs n e z
  · obtain ⟨k, vs, n, e, z, rfl⟩ := hx
    cases vs with
    | nil =>
      have h' : accO I k n e z y = true := h
      unfold accO at h'
      split at h' <;> first | rfl | (cases h'; done)
    | cons a r => exact absurd (show false = true from h) (by decide)
  cases x <;> cases y <;> first | (exact absurd (show false = true from h) (by decide)) | (exact absurd ⟨_, _, _, _, _, rfl⟩ hx) | rfl
theorem instObjs_ok {hp : T AObj} : ∀ {l : List (Nat × AObj)}, instObjs I hp l = true → ∀ p ∈ l, ∃ j y, lookP p.1 I.ps = some j ∧ hp.get j = some y ∧ instO I p.2 y = true
  | [], _, p, hm => by cases hm
  | q :: r, h, p, hm => by
    simp only [instObjs, Bool.and_eq_true] at h
    rcases List.mem_cons.1 hm with rfl | hm
    · have h1 := h.1
      split at h1
      · rename_i j hj
        unfold instAt at h1
        split at h1
        · rename_i y hy
          exact ⟨j, y, hj, hy, h1⟩
        · cases h1
      · cases h1
    · exact instObjs_ok h.2 p hm
theorem instFs_ok {O : Orc} {ρ : Nat → Int} (ho : OrcOk O ρ) {vs : List (Nat × SE)} {ρ' : Nat → Int} (hv : ∀ k, k < 1000 → ρ' k = (lookE k vs).val ρ) : ∀ {fs : List Fact}, instFs O vs fs = true → ∀ f ∈ fs, f.holds ρ'
  | [], _, f, hm => by cases hm
  | g :: r, h, f, hm => by
    simp only [instFs, Bool.and_eq_true] at h
    rcases List.mem_cons.1 hm with rfl | hm
    · have h1 := h.1
      unfold instF at h1
      split at h1
      · rename_i a b ha hb
        split at h1
        · rename_i q hq
          have h1 : q = f.q := by simpa using h1
          unfold Fact.holds
          rw [← h1, subE_ok hv ha, subE_ok hv hb]
          cases hlt : f.lt with
          | true => rw [hlt] at hq; simp only [if_true]; exact ho.lt _ _ _ hq
          | false => rw [hlt] at hq; simp only [Bool.false_eq_true, if_false]; exact ho.eq _ _ _ hq
        · cases h1
      · cases h1
    · exact instFs_ok ho hv h.2 f hm
theorem prsOk_ok {c : Nat} : ∀ {ps : Prs}, prsOk c ps = true → ∀ i j, lookP i ps = some j → 64 ≤ i ∧ i < c ∧ 64 ≤ j
  | [], _, i, j, h => by cases h
  | p :: r, h, i, j, hl => by
    simp only [prsOk, Bool.and_eq_true] at h
    have hl' : bi (Nat.beq p.1 i) (some p.2) (lookP i r) = some j := hl
    cases hb : Nat.beq p.1 i with
    | true =>
      rw [hb, bi_true] at hl'
      cases hl'
      obtain rfl := Nat.eq_of_beq_eq_true hb
      exact ⟨by simpa using h.1, by simpa using h.2.1, by simpa using h.2.2.1⟩
    | false =>
      rw [hb, bi_false] at hl'
      exact prsOk_ok h.2.2.2 i j hl'
/-- The state is one of the template's. -/
theorem inst_ok {B : Nat} {s : St} {w : World} (hs : Sat (fun _ => True) B E s w) {tabs : List (Nat × List AV)} {c : Nat} {objs : List (Nat × AObj)} {fs : List Fact} (h64 : 64 ≤ c) (h : instChk I tabs c objs fs s = true) :
    Sat (fun _ => True) B (instEnv I E) (tmplSt tabs c objs fs) w := by
  simp only [instChk, Bool.and_eq_true] at h
  obtain ⟨h1, h2, h3, h4, h5, h6⟩ := h
  have hv := instρ_small I E.ρ
  have htab := tabsIn_ok hs h1 (fun _ _ _ => trivial)
  have hlive := tabsIn_live hs h1 (fun _ _ _ => trivial)
  have hps := prsOk_ok h2
  have hobj := instObjs_ok h5
  have hlow : ∀ i, i < 64 → instEnv I E i = E i := fun i hi => by simp only [instEnv]; rw [if_pos hi]
  have hhi : ∀ i, ¬ i < 64 → instEnv I E i = match lookP i I.ps with | some j => E j | none => .unborn := fun i hi => by simp only [instEnv]; rw [if_neg hi]
  have himg : ∀ i b C, instEnv I E i = .live b C → (i < 64 ∧ E i = .live b C) ∨ (64 ≤ i ∧ ∃ j, lookP i I.ps = some j ∧ 64 ≤ j ∧ E j = .live b C) := by
    intro i b C hi
    by_cases hlt : i < 64
    · rw [hlow i hlt] at hi; exact .inl ⟨hlt, hi⟩
    · rw [hhi i hlt] at hi
      split at hi
      · rename_i j hj
        exact .inr ⟨by omega, j, hj, (hps i j hj).2.2, hi⟩
      · cases hi
  refine ⟨?_, ?_, hs.base, fun g hg => by rw [hlow g hg]; exact hs.glob g hg, ?_, ?_, orcI_ok (instFs_ok hs.orc hv h6), fun b hb => ⟨(hs.prot b hb).1, (hs.prot b hb).2.1, fun j C hj => ?_⟩, fun d hd => absurd hd List.not_mem_nil⟩
  · intro i j b X Y hb hi hj
    rcases himg i b X hi with ⟨i1, i2⟩ | ⟨i1, i', i2, i3, i4⟩ <;> rcases himg j b Y hj with ⟨j1, j2⟩ | ⟨j1, j', j2, j3, j4⟩
    · exact hs.inj i j b X Y hb i2 j2
    · have := hs.inj i j' b X Y hb i2 j4; omega
    · have := hs.inj i' j b X Y hb i4 j2; omega
    · have e := hs.inj i' j' b X Y hb i4 j4
      subst e
      exact onceQ_inj h3 i2 j2
  · intro i b X hi
    rcases himg i b X hi with ⟨_, i2⟩ | ⟨_, i', _, _, i4⟩
    · exact hs.lt i b X i2
    · exact hs.lt i' b X i4
  · intro i hi _
    have hi' : c ≤ i := hi
    rw [hhi i (by omega)]
    cases hl : lookP i I.ps with
    | none => rfl
    | some j => have := hps i j hl; omega
  · intro i o _ ho
    rcases putsL_some (show (putsL (initH tabs) objs).get i = some o from ho) with hm | ⟨_, hm⟩
    · obtain ⟨j, y, k1, k2, k3⟩ := hobj _ hm
      obtain ⟨b, C, ob, k4, k5, k6, k7⟩ := hs.fact j y trivial k2
      have hi := hps i j k1
      have hij : instEnv I E i = E j := by rw [hhi i (by omega)]; simp only [k1]
      exact ⟨b, C, ob, hij.trans k4, k5, instO_ok hs.orc h4 k3 hij k6, by rw [instO_fixed k3]; exact k7⟩
    · obtain ⟨vs, hm2, rfl⟩ := initH_get hm
      obtain ⟨hl, c', e, f, hh, hr⟩ := htab _ _ hm2
      obtain ⟨C, hC⟩ := hlive i vs hm2
      exact ⟨i, C, _, by rw [hlow i hl]; exact hC, hh, ⟨c', e, f, rfl, hr _⟩, .inl rfl⟩
  · rcases himg j b C hj with ⟨_, j2⟩ | ⟨_, j', _, _, j4⟩
    · exact (hs.prot b hb).2.2 j C j2
    · exact (hs.prot b hb).2.2 j' C j4
/-- The same of a frame. -/
noncomputable def instT (I : Inst) (a : T AV) : List (Nat × AV) → Bool
  | [] => true
  | p :: r => (match a.get p.1 with
    | some y => instV I (nat_lit 40) p.2 y
    | none => false) && instT I a r
noncomputable def putsT : List (Nat × AV) → T AV
  | [] => .e
  | p :: r => (putsT r).put p.1 (some p.2)
theorem putsT_get {t : Nat} {v : AV} : ∀ {l : List (Nat × AV)}, (putsT l).get t = some v → (t, v) ∈ l
  | [], h => by rw [show putsT [] = T.e from rfl, T.get_e] at h; cases h
  | p :: r, h => by
    rcases T.put_some (show ((putsT r).put p.1 (some p.2)).get t = some v from h) with ⟨rfl, h1⟩ | ⟨_, h1⟩
    · cases h1; simp
    · exact List.mem_cons_of_mem _ (putsT_get h1)
theorem instT_mem {a : T AV} : ∀ {l : List (Nat × AV)}, instT I a l = true → ∀ p ∈ l, ∃ y, a.get p.1 = some y ∧ instV I 40 p.2 y = true
  | [], _, p, hm => by cases hm
  | q :: r, h, p, hm => by
    simp only [instT, Bool.and_eq_true] at h
    rcases List.mem_cons.1 hm with rfl | hm
    · have h1 := h.1
      split at h1
      · rename_i y hy
        exact ⟨y, hy, h1⟩
      · cases h1
    · exact instT_mem h.2 p hm
theorem instT_ok {O : Orc} (ho : OrcOk O E.ρ) (hs : strOk O I = true) {nt : Nat} {a : T AV} {tmps : Array Value} {l : List (Nat × AV)} (h : instT I a l = true) (ht : TRel E nt a tmps) : TRel (instEnv I E) nt (putsT l) tmps := by
  refine ⟨ht.1, fun t v hv => ?_⟩
  obtain ⟨y, h1, h2⟩ := instT_mem h _ (putsT_get hv)
  obtain ⟨x, h3, h4⟩ := ht.2 t y h1
  exact ⟨x, h3, instV_ok ho hs 40 _ _ _ h2 h4⟩
end
end Ev
end Go.Proofs.YtnjpdipombnigaaGreatDoor
