/-
  The evaluator: many ways that are told as one.
-/
import Derived.Test.YtbjllaknnpbkkaaGreatDoorSz24
namespace Go.Proofs.YtbjllaknnpbkkaaGreatDoor
namespace Ev
open Go.RowKit

theorem lookP_mem {a b : Nat} : ∀ {ps : Prs}, lookP a ps = some b → (a, b) ∈ ps
  | p :: r, h => by
    simp only [lookP, beq_bi] at h
    split at h
    · rename_i e; cases h; subst e; exact List.mem_cons_self ..
    · exact List.mem_cons_of_mem _ (lookP_mem h)
theorem lookQ_mem {a b : Nat} : ∀ {ps : Prs}, (a, b) ∈ ps → lookQ b ps = true
  | p :: r, h => by
    simp only [lookQ, beq_bi]
    split
    · rfl
    · rename_i e
      rcases List.mem_cons.1 h with rfl | h
      · exact absurd rfl e
      · exact lookQ_mem h
theorem onceQ_inj {a a' b : Nat} : ∀ {ps : Prs}, onceQ ps = true → lookP a ps = some b → lookP a' ps = some b → a = a'
  | p :: r, h, h1, h2 => by
    simp only [onceQ, Bool.and_eq_true] at h
    obtain ⟨q1, q2⟩ := h
    simp only [lookP, beq_bi] at h1 h2
    split at h1 <;> split at h2
    · rename_i e1 e2; rw [← e1, ← e2]
    · rename_i e1 e2
      cases h1
      have := lookQ_mem (lookP_mem h2)
      rw [this] at q1; cases q1
    · rename_i e1 e2
      cases h2
      have := lookQ_mem (lookP_mem h1)
      rw [this] at q1; cases q1
    · exact onceQ_inj q2 h1 h2
theorem prOk_mem {c m : Nat} {ps : Prs} : ∀ {l : List (Nat × Nat)}, prOk c m ps l = true → ∀ p ∈ l, c ≤ p.1 ∧ p.1 < m ∧ c ≤ p.2 ∧ p.2 < m
  | p :: r, h, q, hq => by
    simp only [prOk, Bool.and_eq_true, Nat.ble_eq, Nat.blt_eq] at h
    obtain ⟨h1, h2, h3, h4, h5⟩ := h
    rcases List.mem_cons.1 hq with rfl | hq
    · exact ⟨h1, h2, h3, h4⟩
    · exact prOk_mem h5 q hq

section
variable {E' F : Env} {c : Nat} {ps : Prs}

theorem allB_ok {f : AV → AV → Bool} (hf : ∀ x y v, f x y = true → Rel E' y v → Rel F x v) : ∀ {l m : List AV} {vs : List Value}, allB f l m = true → RelL E' m vs → RelL F l vs
  | [], [], vs, h, hr => by cases hr; exact .nil
  | [], u :: m, vs, h, hr => absurd (show false = true from h) (by decide)
  | v :: l, [], vs, h, hr => absurd (show false = true from h) (by decide)
  | v :: l, u :: m, vs, h, hr => by
    have h' : (f v u && allB f l m) = true := h
    rw [Bool.and_eq_true] at h'
    cases hr with
    | cons h1 t => exact .cons (hf _ _ _ h'.1 h1) (allB_ok hf h'.2 t)
theorem natO_ok {a b : Option Nat} (h : natO a b = true) : a = b := by
  cases a <;> cases b <;> first | rfl | (exact absurd (show false = true from h) (by decide)) | skip
  have : Nat.beq _ _ = true := h
  rw [Nat.eq_of_beq_eq_true this]
/-- What is alike stands for the same. -/
theorem likeV_ok (hid : ∀ i j, idS c ps i j = true → F i = E' j) (hρ : F.ρ = E'.ρ) : ∀ (n : Nat) (x y : AV) (v : Value), likeV c ps n x y = true → Rel E' y v → Rel F x v := by
  intro n
  induction n with
  | zero => intro x y v h; exact absurd (show false = true from h) (by decide)
  | succ n ih =>
    intro x y v h hr
    cases x <;> cases y <;> first | (exact absurd (show false = true from h) (by decide)) | skip
    case bool.bool a b =>
      have h' : (a == b) = true := h
      rw [beq_iff_eq] at h'
      subst h'
      cases hr; exact .bool _
    case int.int k a q b =>
      have h' : (kindEq k q && eqA a b) = true := h
      rw [Bool.and_eq_true] at h'
      obtain rfl := kindEq_ok h'.1
      have : a = b := by rw [eqA_eq] at h'; exact of_decide_eq_true h'.2
      subst this
      cases hr; exact .int _ _
    case sint.sint k a q b =>
      have h' : (kindEq k q && seEq a b) = true := h
      rw [Bool.and_eq_true] at h'
      obtain rfl := kindEq_ok h'.1
      obtain rfl := seEq_ok h'.2
      cases hr; rw [← hρ]; exact .sint _ _
    case str.str a b =>
      have h' : bytesEq a b = true := h
      rw [bytesEq_eq, beq_iff_eq] at h'
      subst h'
      cases hr; exact .str _
    case nilptr.nilptr => cases hr; exact .nilptr
    case ptr.ptr i o j u =>
      have h' : (idS c ps i j && Nat.beq o u) = true := h
      rw [Bool.and_eq_true] at h'
      obtain rfl := Nat.eq_of_beq_eq_true h'.2
      cases hr; rename_i hb; exact .ptr (by rw [hid _ _ h'.1]; exact hb)
    case nilslice.nilslice => cases hr; exact .nilslice
    case slice.slice i o l k d j u m q e =>
      have h' : (idS c ps i j && (Nat.beq o u && (Nat.beq l m && (natO k q && Nat.beq d e)))) = true := h
      simp only [Bool.and_eq_true] at h'
      obtain ⟨h1, h2, h3, h4, h5⟩ := h'
      obtain rfl := Nat.eq_of_beq_eq_true h2
      obtain rfl := Nat.eq_of_beq_eq_true h3
      obtain rfl := natO_ok h4
      obtain rfl := Nat.eq_of_beq_eq_true h5
      cases hr; rename_i hb hc
      exact .slice (by rw [hid _ _ h1]; exact hb) (by rw [hid _ _ h1]; exact hc)
    case eslice.eslice => cases hr; exact .eslice
    case nilmap.nilmap => cases hr; exact .nilmap
    case map.map i j =>
      have h' : idS c ps i j = true := h
      cases hr; rename_i hb; exact .map (by rw [hid _ _ h']; exact hb)
    case func.func f a b g d e =>
      have h' : (Nat.beq f g && (allB (likeV c ps n) a d && allB (likeV c ps n) b e)) = true := h
      simp only [Bool.and_eq_true] at h'
      obtain rfl := Nat.eq_of_beq_eq_true h'.1
      cases hr; rename_i hp hq
      exact .func (allB_ok ih h'.2.1 hp) (allB_ok ih h'.2.2 hq)
    case nilFunc.nilFunc => cases hr; exact .nilFunc
    case iface.iface t a u b =>
      have h' : (Nat.beq t u && likeV c ps n a b) = true := h
      rw [Bool.and_eq_true] at h'
      obtain rfl := Nat.eq_of_beq_eq_true h'.1
      cases hr; rename_i hv; exact .iface (ih _ _ _ h'.2 hv)
    case nilIface.nilIface => cases hr; exact .nilIface
    case agg.agg a b => cases hr; rename_i hl; exact .agg (allB_ok ih (show allB (likeV c ps n) a b = true from h) hl)
    case tuple.tuple a b => cases hr; rename_i hl; exact .tuple (allB_ok ih (show allB (likeV c ps n) a b = true from h) hl)
    case pstr.pstr a b =>
      have h' : pcsEq a b = true := h
      have e := pcsEq_ok F.ρ h'
      cases hr
      rw [← hρ, ← e]; exact .pstr _
    case fslice.fslice i a j b =>
      have h' : (idS c ps i j && seEq a b) = true := h
      rw [Bool.and_eq_true] at h'
      obtain rfl := seEq_ok h'.2
      cases hr; rename_i hb
      rw [← hρ]; exact .fslice (by rw [hid _ _ h'.1]; exact hb)
theorem likeL_ok (hid : ∀ i j, idS c ps i j = true → F i = E' j) (hρ : F.ρ = E'.ρ) {l m : List AV} {vs : List Value} (h : likeL c ps l m = true) (hr : RelL E' m vs) : RelL F l vs := allB_ok (likeV_ok hid hρ 40) h hr
theorem likeE_ok (hid : ∀ i j, idS c ps i j = true → F i = E' j) (hρ : F.ρ = E'.ρ) {S S' : Stamps} : ∀ {a y : List Ent} {zs : List MapEntry}, likeE c ps a y = true → RelS E' S' y zs → (∀ (i : Nat) (e : Ent) (x : MapEntry), a[i]? = some e → zs[i]? = some x → x.born = S.f e.born) → RelS F S a zs
  | [], [], zs, _, hr, _ => by cases hr; exact .nil
  | [], f :: m, zs, h, hr, _ => absurd (show false = true from h) (by decide)
  | e :: l, [], zs, h, hr, _ => absurd (show false = true from h) (by decide)
  | e :: l, f :: m, zs, h, hr, hb => by
    simp only [likeE, Bool.and_eq_true] at h
    cases hr with
    | cons h1 h2 h3 t =>
      exact .cons (likeV_ok hid hρ 40 _ _ _ h.1 h1) (likeV_ok hid hρ 40 _ _ _ h.2.1 h2) (hb 0 e _ rfl rfl) (likeE_ok hid hρ h.2.2 t fun i e x hi hx => hb (i + 1) e x (by simpa using hi) (by simpa using hx))
end

theorem pullE_perm {k : AV} : ∀ {es : List Ent} {e : Ent} {r : List Ent}, pullE k es = some (e, r) → (e :: r).Perm es
  | x :: es, e, r, h => by
    simp only [pullE] at h
    cases hk : keyS (nat_lit 3) k x.key with
    | true => rw [hk, bi_true] at h; cases h; exact .refl _
    | false =>
      rw [hk, bi_false] at h
      obtain ⟨y, r', h1, h2⟩ := oc2_some h
      cases h2
      exact (List.Perm.swap x e r').trans ((pullE_perm h1).cons x)
theorem sortE_perm : ∀ {a b y : List Ent}, sortE a b = some y → y.Perm b
  | [], [], y, h => by cases h; exact .refl _
  | [], f :: m, y, h => by cases h
  | e :: l, m, y, h => by
    obtain ⟨x, r, h1, h2⟩ := oc2_some (show oc2 (pullE e.key m) (fun x r => oc (sortE l r) fun y => some (x :: y)) = some y from h)
    obtain ⟨y', h3, h4⟩ := oc_some h2
    cases h4
    exact ((sortE_perm h3).cons x).trans (pullE_perm h1)
theorem RelS.perm {E : Env} {S : Stamps} {b y : List Ent} (h : b.Perm y) : ∀ {zs : List MapEntry}, RelS E S b zs → ∃ us, zs.Perm us ∧ RelS E S y us := by
  induction h with
  | nil => intro zs hr; exact ⟨zs, .refl _, hr⟩
  | cons x _ ih =>
    intro zs hr
    cases hr with
    | cons h1 h2 h3 t => obtain ⟨us, p, q⟩ := ih t; exact ⟨_, p.cons _, .cons h1 h2 h3 q⟩
  | swap x y l =>
    intro zs hr
    cases hr with
    | cons h1 h2 h3 t =>
      cases t with
      | cons g1 g2 g3 t => exact ⟨_, .swap _ _ _, .cons g1 g2 g3 (.cons h1 h2 h3 t)⟩
  | trans _ _ ih1 ih2 =>
    intro zs hr
    obtain ⟨us, p, q⟩ := ih1 hr
    obtain ⟨vs, p', q'⟩ := ih2 q
    exact ⟨vs, p.trans p', q'⟩
theorem RelE.same {E : Env} : ∀ {b : List Ent} {zs : List MapEntry}, RelE E b zs → RelS E .same b zs
  | _, _, .nil => .nil
  | _, _, .cons h1 h2 h3 t => .cons h1 h2 h3.symm t.same
theorem RelS.borns {E : Env} {S : Stamps} : ∀ {b : List Ent} {zs : List MapEntry}, RelS E S b zs → zs.map (·.born) = (b.map Ent.born).map S.f
  | _, _, .nil => rfl
  | _, _, .cons h1 h2 h3 t => by simp [h3, t.borns]
theorem numE_len : ∀ (n : Nat) (l : List Ent), (numE n l).length = l.length
  | _, [] => rfl
  | n, e :: l => by simp [numE, numE_len]
theorem numE_at : ∀ (n : Nat) (l : List Ent) {i : Nat} {e : Ent}, (numE n l)[i]? = some e → e.born = n + i ∧ i < l.length
  | _, [], i, e, h => by simp [numE] at h
  | n, x :: l, 0, e, h => by simp [numE] at h; subst h; exact ⟨rfl, by simp⟩
  | n, x :: l, i + 1, e, h => by
    obtain ⟨h1, h2⟩ := numE_at (n + 1) l (i := i) (e := e) (by simpa [numE] using h)
    exact ⟨by omega, by simp; omega⟩
theorem numE_once : ∀ (n : Nat) (l : List Ent), ((numE n l).map Ent.born).Nodup
  | _, [] => .nil
  | n, e :: l => by
    simp only [numE, List.map_cons, List.nodup_cons]
    refine ⟨fun h => ?_, numE_once (n + 1) l⟩
    obtain ⟨x, hx, hb⟩ := List.mem_map.1 h
    obtain ⟨i, hi⟩ := List.getElem?_of_mem hx
    have := (numE_at _ _ hi).1
    omega
theorem bornsOk_ok {c : Nat} : ∀ {l : List Ent} {m : List Nat}, bornsOk c l m = true → (∀ e ∈ l, e.born < c ∧ e.born ∉ m) ∧ (l.map Ent.born).Nodup
  | [], _, _ => ⟨fun e h => (by cases h), .nil⟩
  | e :: l, m, h => by
    simp only [bornsOk, Bool.and_eq_true, Nat.blt_eq, memN_ok, Bool.not_eq_true', List.contains_eq_mem, decide_eq_false_iff_not] at h
    obtain ⟨h1, h2, h3⟩ := h
    obtain ⟨q1, q2⟩ := bornsOk_ok h3
    refine ⟨fun x hx => ?_, ?_⟩
    · rcases List.mem_cons.1 hx with rfl | hx
      · exact ⟨h1, h2⟩
      · exact ⟨(q1 x hx).1, fun hm => (q1 x hx).2 (List.mem_cons_of_mem _ hm)⟩
    · rw [List.map_cons, List.nodup_cons]
      refine ⟨fun hm => ?_, q2⟩
      obtain ⟨x, hx, hb⟩ := List.mem_map.1 hm
      exact (q1 x hx).2 (by rw [hb]; exact List.mem_cons_self ..)
/-- The numbers of a list of stamps. -/
def Stamps.ofList (bs : List Nat) (k : Nat) (h1 : ∀ b ∈ bs, b < k) (h2 : bs.Nodup) : Stamps where
  n := bs.length
  k := k
  f i := if h : i < bs.length then bs[i] else k + (i - bs.length)
  lt i hi := by simp only [hi, dif_pos]; exact h1 _ (List.getElem_mem hi)
  up j := by rw [dif_neg (by omega)]; omega
  inj i j h := by
    by_cases hi : i < bs.length <;> by_cases hj : j < bs.length
    · rw [dif_pos hi, dif_pos hj] at h
      exact (List.getElem_inj h2).1 h
    · rw [dif_pos hi, dif_neg hj] at h
      have := h1 _ (List.getElem_mem hi); omega
    · rw [dif_neg hi, dif_pos hj] at h
      have := h1 _ (List.getElem_mem hj); omega
    · rw [dif_neg hi, dif_neg hj] at h; omega
theorem Stamps.ofList_at {bs : List Nat} {k : Nat} {h1 : ∀ b ∈ bs, b < k} {h2 : bs.Nodup} {i b : Nat} (h : bs[i]? = some b) : (Stamps.ofList bs k h1 h2).f i = b := by
  obtain ⟨hi, he⟩ := List.getElem?_eq_some_iff.1 h
  show (if h : i < bs.length then bs[i] else _) = b
  rw [dif_pos hi, he]
theorem Stamps.ofList_end {bs : List Nat} {k : Nat} {h1 : ∀ b ∈ bs, b < k} {h2 : bs.Nodup} : (Stamps.ofList bs k h1 h2).f bs.length = k := by
  show (if h : bs.length < bs.length then _ else k + (bs.length - bs.length)) = k
  rw [dif_neg (by omega)]; omega
theorem nodup_map {f : Nat → Nat} (hf : ∀ i j, f i = f j → i = j) : ∀ {l : List Nat}, l.Nodup → (l.map f).Nodup
  | [], _ => .nil
  | a :: l, h => by
    rw [List.nodup_cons] at h
    rw [List.map_cons, List.nodup_cons]
    refine ⟨fun hm => ?_, nodup_map hf h.2⟩
    obtain ⟨x, hx, hb⟩ := List.mem_map.1 hm
    exact h.1 (hf _ _ hb ▸ hx)
/-- A map's entries in another order, under new numbers. -/
theorem anyMap_of {E' : Env} {S' : Stamps} {a b y : List Ent} {K : Nat} {arr : Array MapEntry} {l0 : List MapEntry} {c : Nat} {ps : Prs} (hr : RelS E' S' b l0) (hp : l0.Perm arr.toList) (hn : (b.map Ent.born).Nodup) (hlt : ∀ e ∈ b, e.born < K) (hK : S'.n ≤ K) (hy : y.Perm b) (hlen : a.length = y.length) (hl : likeE c ps (numE 0 a) y = true) :
    ∃ S : Stamps, S.n = a.length ∧ S.f a.length = S'.f K ∧ ∀ {F : Env} {t : Nat}, (∀ i j, idS c ps i j = true → F i = E' j) → F.ρ = E'.ρ → F t = .dead → F.st t = S → AnyMap F (numE 0 a) a.length t arr := by
  obtain ⟨us, hp2, hr2⟩ := hr.perm hy.symm
  have hb := hr2.borns
  have hnd : (us.map (·.born)).Nodup := by
    rw [hb]
    exact nodup_map S'.inj ((hy.map Ent.born).nodup_iff.2 hn)
  have hlt2 : ∀ z ∈ us.map (·.born), z < S'.f K := by
    rw [hb]
    intro z hz
    obtain ⟨w, hw, rfl⟩ := List.mem_map.1 hz
    obtain ⟨e, he, rfl⟩ := List.mem_map.1 hw
    exact (S'.lt_iff hK).2 (hlt e (hy.mem_iff.1 he))
  have hul : (us.map (·.born)).length = a.length := by rw [List.length_map, ← hr2.len, hlen]
  refine ⟨Stamps.ofList (us.map (·.born)) (S'.f K) hlt2 hnd, ?_, ?_, fun {F t} hid hρ ht hst => ⟨ht, ?_, fun e he => ?_, numE_once 0 a, us, hp2.symm.trans hp, ?_⟩⟩
  · exact hul
  · rw [← hul]; exact Stamps.ofList_end
  · rw [hst]; exact Nat.le_of_eq hul
  · obtain ⟨i, hi⟩ := List.getElem?_of_mem he
    have := numE_at 0 a hi
    omega
  · rw [hst]
    refine likeE_ok hid hρ hl hr2 fun i e x hi hx => ?_
    have h1 := (numE_at 0 a hi).1
    rw [h1, Nat.zero_add]
    exact (Stamps.ofList_at (by rw [List.getElem?_map, hx]; rfl)).symm

theorem putAll_some {h : T AObj} {i : Nat} {o : AObj} : ∀ {l : List (Nat × Option AObj)}, (putAll h l).get i = some o → (∃ k : Nat, l[k]? = some (i, some o)) ∨ (∀ p ∈ l, p.1 ≠ i) ∧ h.get i = some o
  | [], he => .inr ⟨fun p h => (by cases h), he⟩
  | p :: l, he => by
    rcases T.put_some (show ((putAll h l).put p.1 p.2).get i = some o from he) with ⟨e, hx⟩ | ⟨hne, hx⟩
    · refine .inl ⟨0, ?_⟩
      obtain ⟨p1, p2⟩ := p
      simp only at e hx
      subst e
      rw [hx]; rfl
    · rcases putAll_some hx with ⟨k, hk⟩ | ⟨h1, h2⟩
      · exact .inl ⟨k + 1, by simpa using hk⟩
      · refine .inr ⟨fun q hq => ?_, h2⟩
        rcases List.mem_cons.1 hq with rfl | hq
        · exact fun e => hne e.symm
        · exact h1 q hq
theorem putAll_ne {h : T AObj} {i : Nat} : ∀ {l : List (Nat × Option AObj)}, (∀ p ∈ l, p.1 ≠ i) → (putAll h l).get i = h.get i
  | [], _ => rfl
  | p :: l, hl => by
    show ((putAll h l).put p.1 p.2).get i = h.get i
    rw [T.put_ne _ _ _ _ (fun e => hl p (List.mem_cons_self ..) e.symm)]
    exact putAll_ne fun q hq => hl q (List.mem_cons_of_mem _ hq)
theorem putsO_some {h : T AObj} : ∀ {ids : List Nat} {t : Nat} {puts : List (Nat × Option AObj)}, putsO h ids t = some puts → puts.map (·.1) = ids ∧ ∀ (k i : Nat) (o : AObj), puts[k]? = some (i, some o) → ∃ o0, allO (t + k) o0 = some o
  | [], t, puts, he => by cases he; exact ⟨rfl, fun k i o h => by simp at h⟩
  | j :: ids, t, puts, he => by
    simp only [putsO] at he
    split at he
    · obtain ⟨l, h1, h2⟩ := oc_some he
      cases h2
      obtain ⟨q1, q2⟩ := putsO_some h1
      refine ⟨by simp [q1], fun k i o hk => ?_⟩
      cases k with
      | zero => simp at hk
      | succ k =>
        obtain ⟨o0, h0⟩ := q2 k i o (by simpa using hk)
        exact ⟨o0, by rw [← h0]; congr 1; show t + (k + 1) = Nat.succ t + k; omega⟩
    · rename_i o1 _
      obtain ⟨o2, h0, h3⟩ := oc_some he
      obtain ⟨l, h1, h2⟩ := oc_some h3
      cases h2
      obtain ⟨q1, q2⟩ := putsO_some h1
      refine ⟨by simp [q1], fun k i o hk => ?_⟩
      cases k with
      | zero => simp at hk; obtain ⟨_, rfl⟩ := hk; exact ⟨o1, h0⟩
      | succ k =>
        obtain ⟨o0, h0⟩ := q2 k i o (by simpa using hk)
        exact ⟨o0, by rw [← h0]; congr 1; show t + (k + 1) = Nat.succ t + k; omega⟩
theorem orBits_in {i : Nat} : ∀ {l : List Nat}, In (orBits l) i → i ∈ l
  | [], h => absurd h (not_in_zero i)
  | j :: l, h => by
    rcases (in_lor _ _ _).1 h with h | h
    · rw [(in_bit _ _).1 h]; exact List.mem_cons_self ..
    · exact List.mem_cons_of_mem _ (orBits_in h)
theorem bit_eq (i : Nat) : bit i = 2 ^ i := by show 1 <<< i = _; simp [Nat.shiftLeft_eq]
theorem orBits_mem {i : Nat} : ∀ {l : List Nat}, i ∈ l → In (orBits l) i
  | j :: l, h => by
    rcases List.mem_cons.1 h with rfl | h
    · exact (in_lor _ _ _).2 (.inl ((in_bit _ _).2 rfl))
    · exact (in_lor _ _ _).2 (.inr (orBits_mem h))
theorem low_in {c m i : Nat} : In (low c m) i ↔ i < c ∧ In m i := by
  show (m % bit c).testBit i = true ↔ _
  rw [bit_eq, Nat.testBit_mod_two_pow]
  simp [In]
theorem marksIn_in {c m i : Nat} (h1 : c ≤ i) (h2 : i < m) : In (marksIn c m) i := by
  show (bit m - bit c).testBit i = true
  rw [bit_eq, bit_eq]
  have e : 2 ^ m - 2 ^ c = 2 ^ c * (2 ^ (m - c) - 1) := by
    rw [Nat.mul_sub, ← Nat.pow_add, Nat.mul_one, Nat.add_sub_cancel' (by omega)]
  rw [e, Nat.testBit_two_pow_mul, Nat.testBit_two_pow_sub_one]
  simp; omega
theorem orAll_in {f : St → Nat} {i : Nat} : ∀ {l : List (List AV × St)} {m : Nat}, In (orAll f l m) i ↔ In m i ∨ ∃ x ∈ l, In (f x.2) i
  | [], m => by simp [orAll]
  | p :: r, m => by
    rw [show orAll f (p :: r) m = orAll f r (Nat.lor m (f p.2)) from rfl, orAll_in, in_lor]
    simp [or_assoc]
theorem maxAll_le {f : St → Nat} : ∀ {l : List (List AV × St)} {m : Nat}, m ≤ maxAll f l m ∧ ∀ x ∈ l, f x.2 ≤ maxAll f l m
  | [], m => ⟨Nat.le_refl _, fun x h => (by cases h)⟩
  | p :: r, m => by
    have key : m ≤ bi (Nat.blt m (f p.2)) (f p.2) m ∧ f p.2 ≤ bi (Nat.blt m (f p.2)) (f p.2) m := by
      rw [bi_blt]; split <;> omega
    obtain ⟨h1, h2⟩ := maxAll_le (f := f) (l := r) (m := bi (Nat.blt m (f p.2)) (f p.2) m)
    refine ⟨Nat.le_trans key.1 h1, fun x hx => ?_⟩
    rcases List.mem_cons.1 hx with rfl | hx
    · exact Nat.le_trans key.2 h1
    · exact h2 x hx
/-- What the look at a way has found. -/
structure WayOk (c m : Nat) (ps : Prs) (roots : List AV) (puts : List (Nat × Option AObj)) (x : List AV × St) : Prop where
  pr : ∀ p ∈ ps, c ≤ p.1 ∧ p.1 < m ∧ c ≤ p.2 ∧ p.2 < m
  once : onceQ ps = true
  roots : likeL c ps roots x.1 = true
  obj : ∀ i o, (i, some o) ∈ puts → ∃ j y, (if i < c then some i else lookP i ps) = some j ∧ x.2.h.get j = some y ∧ likeO c ps o y = true
theorem wayOk_ok {c m : Nat} {ps : Prs} {roots : List AV} {puts : List (Nat × Option AObj)} {x : List AV × St} (h : wayOk c m ps roots puts x = true) : WayOk c m ps roots puts x := by
  unfold wayOk at h
  rw [Bool.and_eq_true, Bool.and_eq_true, Bool.and_eq_true] at h
  obtain ⟨h1, h2, h3, h4⟩ := h
  refine ⟨prOk_mem h1, h2, h3, ?_⟩
  clear h1 h2 h3
  induction puts with
  | nil => intro i o h; cases h
  | cons p puts ih =>
    have h' : ((match p.2 with
      | none => true
      | some o => match (bi (Nat.blt p.1 c) (some p.1) (lookP p.1 ps)) with
        | none => false
        | some j => match x.2.h.get j with
          | none => false
          | some y => likeO c ps o y) && _) = true := h4
    rw [Bool.and_eq_true] at h'
    intro i o hm
    rcases List.mem_cons.1 hm with rfl | hm
    · have h1 := h'.1
      simp only [bi_blt] at h1
      split at h1
      · cases h1
      · rename_i j hj
        split at h1
        · cases h1
        · rename_i y hy
          exact ⟨j, y, hj, hy, h1⟩
    · exact ih h'.2 i o hm
theorem optP_ok {x : Option Prs} {k : Prs → Bool} (h : optP x k = true) : ∃ ps, x = some ps ∧ k ps = true := by
  cases x with
  | none => cases h
  | some ps => exact ⟨ps, rfl, h⟩
theorem waysOk_cons {c m : Nat} {roots : List AV} {old : List Nat} {puts : List (Nat × Option AObj)} {g : T AObj} (y : List AV × St) (r : List (List AV × St)) (h : waysOk c m roots old puts g (y :: r) = true) : (∃ ps, wayOk c m ps roots puts y = true) ∧ waysOk c m roots old puts g r = true := by
  rw [waysOk.eq_2, Bool.and_eq_true] at h
  obtain ⟨ps, _, h2⟩ := optP_ok h.1
  exact ⟨⟨ps, h2⟩, h.2⟩
theorem waysOk_ok {c m : Nat} {roots : List AV} {old : List Nat} {puts : List (Nat × Option AObj)} {g : T AObj} (l : List (List AV × St)) (h : waysOk c m roots old puts g l = true) : ∀ x ∈ l, ∃ ps, WayOk c m ps roots puts x := by
  induction l with
  | nil => intro x hx; cases hx
  | cons y r ih =>
    obtain ⟨⟨ps, h1⟩, h2⟩ := waysOk_cons y r h
    intro x hx
    rcases List.mem_cons.1 hx with rfl | hx
    · exact ⟨ps, wayOk_ok h1⟩
    · exact ih h2 x hx

/-- What an id of the one stands for in a way. -/
noncomputable def imgOf (c m' : Nat) (ps : Prs) (i : Nat) : Option Nat := if i < c ∨ m' ≤ i then some i else lookP i ps
noncomputable def joinE (E' : Env) (c m m' : Nat) (ps : Prs) (σ : Nat → Stamps) : Env :=
  ⟨fun i => match imgOf c m' ps i with | some j => E' j | none => .dead, E'.ρ, fun t => if m ≤ t ∧ t < m' then σ t else E'.st t⟩
theorem likeO_fixed {c : Nat} {ps : Prs} {o y : AObj} (h : likeO c ps o y = true) : y.fixed = false := by
  cases o <;> cases y <;> first | rfl | exact absurd (show false = true from h) (by decide)
theorem choose_stamps {m k : Nat} {Ψ : Nat → Stamps → Prop} (h : ∀ i, i < k → ∃ S, Ψ i S) : ∃ σ : Nat → Stamps, ∀ i, i < k → Ψ i (σ (m + i)) := by
  refine ⟨fun t => if h' : t - m < k then (h (t - m) h').choose else .same, fun i hi => ?_⟩
  have e : m + i - m = i := by omega
  have h' : m + i - m < k := by omega
  simp only [dif_pos h']
  have := (h (m + i - m) h').choose_spec
  simpa [e] using this

theorem sortE_len : ∀ {a b y : List Ent}, sortE a b = some y → y.length = a.length
  | [], [], y, h => by cases h; rfl
  | [], f :: m, y, h => by cases h
  | e :: l, m, y, h => by
    obtain ⟨x, r, h1, h2⟩ := oc2_some (show oc2 (pullE e.key m) (fun x r => oc (sortE l r) fun y => some (x :: y)) = some y from h)
    obtain ⟨y', h3, h4⟩ := oc_some h2
    cases h4
    simp [sortE_len h3]
theorem idS_img {c i j : Nat} {ps : Prs} (h : idS c ps i j = true) : (if i < c then some i else lookP i ps) = some j := by
  unfold idS at h
  rw [bi_blt] at h
  split at h
  · rename_i hc; rw [if_pos hc, Nat.eq_of_beq_eq_true h]
  · rename_i hc
    rw [if_neg hc]
    split at h
    · rename_i b' hb'; rw [hb', Nat.eq_of_beq_eq_true h]
    · cases h
theorem fstP_mem {a : Nat} : ∀ {ps : Prs}, a ∈ fstP ps → ∃ p ∈ ps, p.1 = a
  | p :: r, h => by
    rcases List.mem_cons.1 h with rfl | h
    · exact ⟨p, List.mem_cons_self .., rfl⟩
    · obtain ⟨q, h1, h2⟩ := fstP_mem h; exact ⟨q, List.mem_cons_of_mem _ h1, h2⟩
theorem allO_umap {t : Nat} {o0 : AObj} {es : List Ent} {n t' : Nat} (h : allO t o0 = some (.umap es n t')) : ∃ a, es = numE 0 a ∧ n = a.length ∧ t' = t := by
  cases o0 <;> first | (cases h; done) | (cases h; exact ⟨_, rfl, rfl, rfl⟩)
/-- A map of one way, as it is told of all. -/
theorem likeMap_ok {E' : Env} {c : Nat} {ps : Prs} {a : List Ent} {t j : Nat} {y : AObj} {ob : Obj} (hlike : likeO c ps (.umap (numE 0 a) a.length t) y = true) (hok : OkObj E' j y ob) :
    ∃ S : Stamps, ∃ arr, ob = .map arr (S.f a.length) ∧ ∀ {F : Env}, (∀ i j, idS c ps i j = true → F i = E' j) → F.ρ = E'.ρ → F t = .dead → F.st t = S → AnyMap F (numE 0 a) a.length t arr := by
  cases y <;> first | (exact absurd (show false = true from hlike) (by decide)) | skip
  case map b K =>
    have h' : (Nat.beq a.length (numE 0 a).length && (bornsOk K b [] && optB (sortE (numE 0 a) b) (likeE c ps (numE 0 a)))) = true := hlike
    simp only [Bool.and_eq_true] at h'
    obtain ⟨_, hb, hq⟩ := h'
    obtain ⟨arr, rfl, hr⟩ := hok
    cases hy : sortE (numE 0 a) b with
    | none => rw [hy] at hq; cases hq
    | some ys =>
      rw [hy] at hq
      obtain ⟨q1, q2⟩ := bornsOk_ok hb
      obtain ⟨S, s1, s2, s3⟩ := anyMap_of (E' := E') (S' := .same) (l0 := arr.toList) (K := K) hr.same (.refl _) q2 (fun e he => (q1 e he).1) (Nat.zero_le _) (sortE_perm hy) (by rw [sortE_len hy, numE_len]) hq
      exact ⟨S, arr, by rw [s2]; rfl, fun hid hρ ht hst => s3 hid hρ ht hst⟩
  case umap b K t' =>
    have h' : (Nat.beq a.length (numE 0 a).length && optB (sortE (numE 0 a) b) (likeE c ps (numE 0 a))) = true := hlike
    simp only [Bool.and_eq_true] at h'
    obtain ⟨_, hq⟩ := h'
    obtain ⟨arr, rfl, hm⟩ := hok
    obtain ⟨l, hp, hr⟩ := hm.rel
    cases hy : sortE (numE 0 a) b with
    | none => rw [hy] at hq; cases hq
    | some ys =>
      rw [hy] at hq
      obtain ⟨S, s1, s2, s3⟩ := anyMap_of (E' := E') (S' := E'.st t') (K := K) hr hp hm.once hm.lt hm.le (sortE_perm hy) (by rw [sortE_len hy, numE_len]) hq
      exact ⟨S, arr, by rw [s2], fun hid hρ ht hst => s3 hid hρ ht hst⟩
/-- Another object of one way. -/
theorem likeObj_ok {E' F : Env} {c : Nat} {ps : Prs} {o y : AObj} {i j : Nat} {ob : Obj} (hid : ∀ i j, idS c ps i j = true → F i = E' j) (hρ : F.ρ = E'.ρ) (hij : F i = E' j) (hlike : likeO c ps o y = true) (hno : ∀ es n t, o ≠ .umap es n t) (hok : OkObj E' j y ob) : OkObj F i o ob := by
  cases o <;> cases y <;> first | (exact absurd (show false = true from hlike) (by decide)) | (exact absurd rfl (hno _ _ _)) | skip
  case cells.cells a e f p b e' f' p' =>
    have h' : (likeL c ps a b && (Nat.beq e e' && (fzEq f f' && natO p p'))) = true := hlike
    simp only [Bool.and_eq_true] at h'
    obtain ⟨h1, h2, h3, h4⟩ := h'
    have he0 : e' = e := (Nat.eq_of_beq_eq_true h2).symm
    obtain rfl := natO_ok h4
    have hf : f = f' := by
      obtain ⟨f1, f2⟩ := f; obtain ⟨g1, g2⟩ := f'
      have h3' : (Nat.beq f1 g1 && Nat.beq f2 g2) = true := h3
      rw [Bool.and_eq_true] at h3'
      rw [Nat.eq_of_beq_eq_true h3'.1, Nat.eq_of_beq_eq_true h3'.2]
    subst hf
    cases p with
    | none =>
      obtain ⟨c', f', rfl, hr, hfz⟩ := hok
      exact ⟨c', f', by rw [he0], likeL_ok hid hρ h1 hr, hfz⟩
    | some z =>
      obtain ⟨c', f', xs, rest, b', C, rfl, hx, hr, he, hsz, hfz⟩ := hok
      exact ⟨c', f', xs, rest, b', C, by rw [he0], hx, likeL_ok hid hρ h1 hr, by rw [hij]; exact he, hsz, hfz⟩
  case part.part a b =>
    have h' : likeL c ps a b = true := hlike
    obtain ⟨c', e, f, xs, rest, rfl, hx, hr⟩ := hok
    exact ⟨c', e, f, xs, rest, rfl, hx, likeL_ok hid hρ h' hr⟩

/-- Many ways, told as one: what the one says is so on each of them. -/
theorem mrg_ok {base T : St} {ways : List (List AV × St)} (h : mrg base ways = some T) (hbl : ∀ j, In base.w j → In base.l j) (hst : ∀ x ∈ ways, Step base x.2) :
    Step base T ∧ (∀ x ∈ ways, ∀ j, In x.2.l j → In T.l j) ∧ ∃ roots s1 rest, ways = (roots, s1) :: rest ∧
    ∀ {G : Nat → Prop} {B : Nat} {E0 : Env} {w0 : World}, (∀ j, In T.l j → G j) → Sat G B E0 base w0 → ∀ x ∈ ways, ∀ {E' : Env} {w' : World} {vals : List Value}, Sat G B E' x.2 w' → Ext B x.2.w E0 E' w0 w' → RelL E' x.1 vals →
      ∃ F, Sat G B F T w' ∧ RelL F roots vals ∧ Ext B T.w E0 F w0 w' := by
  unfold mrg at h
  split at h
  case h_2 => cases h
  rename_i x0 y0 rest
  simp only [Ev.force_eq] at h
  generalize hways : x0 :: y0 :: rest = ways at *
  generalize hm : maxAll St.c ways 0 = m at *
  generalize hold : bitsOf m (low base.c (orAll St.w ways 0)) [] = old at *
  obtain ⟨hcov, h⟩ := bc_some h
  obtain ⟨ps0, hps0, h⟩ := oc_some h
  obtain ⟨hpr0, h⟩ := bc_some h
  obtain ⟨puts, hputs, h⟩ := oc_some h
  obtain ⟨h64, h⟩ := bc_some h
  obtain ⟨hcm, h⟩ := bc_some h
  obtain ⟨hwo, h⟩ := bc_some h
  cases h
  have h64' : 64 ≤ base.c := by simpa using h64
  have hcm' : base.c ≤ m := by simpa using hcm
  have hcov' : orBits old = low base.c (orAll St.w ways 0) := by simpa using hcov
  have hmx : ∀ x ∈ ways, x.2.c ≤ m := fun x hx => by rw [← hm]; exact (maxAll_le (f := St.c)).2 x hx
  have hx0 : x0 ∈ ways := by rw [← hways]; exact List.mem_cons_self ..
  obtain ⟨hids, hobs⟩ := putsO_some hputs
  generalize hm' : Nat.add m puts.length = m' at *
  have hmm : m' = m + puts.length := by rw [← hm']; rfl
  have hways' := waysOk_ok ways hwo
  have hold' : ∀ i, i ∈ old → i < base.c ∧ In (orAll St.w ways 0) i := fun i hi => low_in.1 (by rw [← hcov']; exact orBits_mem hi)
  have hputid : ∀ p ∈ puts, p.1 ∈ old ∨ p.1 ∈ fstP ps0 := fun p hp => by
    have : p.1 ∈ puts.map (·.1) := List.mem_map_of_mem hp
    rw [hids] at this
    exact List.mem_append.1 this
  have hA : ∀ a ∈ fstP ps0, base.c ≤ a ∧ a < m := fun a ha => by
    obtain ⟨p, hp, rfl⟩ := fstP_mem ha
    have := prOk_mem hpr0 p hp
    exact ⟨this.1, this.2.1⟩
  have hput : ∀ p ∈ puts, (p.1 < base.c ∧ In (orAll St.w ways 0) p.1) ∨ (base.c ≤ p.1 ∧ p.1 < m) := fun p hp => by
    rcases hputid p hp with h | h
    · exact .inl (hold' _ h)
    · exact .inr (hA _ h)
  have hinL : ∀ x ∈ ways, ∀ j, In x.2.l j → In (Nat.lor (orAll St.l ways 0) (marksIn base.c m')) j := fun x hx j hj => (in_lor _ _ _).2 (.inl (orAll_in.2 (.inr ⟨x, hx, hj⟩)))
  have hinW : ∀ x ∈ ways, ∀ j, In x.2.w j → In (Nat.lor (orAll St.w ways 0) (marksIn base.c m')) j := fun x hx j hj => (in_lor _ _ _).2 (.inl (orAll_in.2 (.inr ⟨x, hx, hj⟩)))
  have hrg : ∀ j, base.c ≤ j → j < m' → In (marksIn base.c m') j := fun j h1 h2 => marksIn_in h1 h2
  refine ⟨⟨fun j hj => hinL x0 hx0 j ((hst x0 hx0).l j hj), fun j hj => hinW x0 hx0 j ((hst x0 hx0).w j hj), fun hwl j hj => ?_, fun j hj => ?_, rfl⟩, hinL, x0.1, x0.2, y0 :: rest, hways.symm, ?_⟩
  · rcases (in_lor _ _ _).1 hj with hj | hj
    · rcases orAll_in.1 hj with hj | ⟨x, hx, hj⟩
      · exact absurd hj (not_in_zero j)
      · exact hinL x hx j ((hst x hx).wl hwl j hj)
    · exact (in_lor _ _ _).2 (.inr hj)
  · refine putAll_ne fun p hp e => hj ?_
    subst e
    rcases hput p hp with ⟨_, h2⟩ | ⟨h1, h2⟩
    · exact (in_lor _ _ _).2 (.inl h2)
    · exact (in_lor _ _ _).2 (.inr (hrg _ h1 (by omega)))
  intro G B E0 w0 hG hs0 x hx E' w' vals hs hext hvals
  obtain ⟨ps, hw⟩ := hways' x hx
  have hGr : ∀ j, base.c ≤ j → j < m' → G j := fun j h1 h2 => hG j ((in_lor _ _ _).2 (.inr (hrg j h1 h2)))
  have hxc := hmx x hx
  have hlk : ∀ {i j}, lookP i ps = some j → base.c ≤ i ∧ i < m ∧ base.c ≤ j ∧ j < m := fun h => hw.pr _ (lookP_mem h)
  have himg : ∀ {i j}, (if i < base.c then some i else lookP i ps) = some j → imgOf base.c m' ps i = some j := by
    intro i j hij
    unfold imgOf
    split at hij
    · rename_i h; rw [if_pos (.inl h)]; exact hij
    · rename_i h
      have := hlk hij
      rw [if_neg (by omega)]; exact hij
  have hinj : ∀ {i j k}, imgOf base.c m' ps i = some k → imgOf base.c m' ps j = some k → i = j := by
    intro i j k hi hj
    unfold imgOf at hi hj
    split at hi <;> split at hj
    · cases hi; cases hj; rfl
    · cases hi; have := hlk hj; omega
    · cases hj; have := hlk hi; omega
    · exact onceQ_inj hw.once hi hj
  have hGput : ∀ i o, (i, some o) ∈ puts → ∀ j, (if i < base.c then some i else lookP i ps) = some j → G j := by
    intro i o hmem j hij
    split at hij
    · rename_i h; cases hij
      rcases hput _ hmem with ⟨_, h2⟩ | ⟨h1, _⟩
      · rcases orAll_in.1 h2 with h2 | ⟨x', hx', h2⟩
        · exact absurd h2 (not_in_zero _)
        · exact hG _ (hinL x' hx' _ ((hst x' hx').wl hbl _ h2))
      · exact absurd h (by omega)
    · have := hlk hij; exact hGr _ this.2.2.1 (by omega)
  have hmaps : ∀ k, k < puts.length → ∃ S : Stamps, ∀ i es n t, puts[k]? = some (i, some (.umap es n t)) → t = m + k ∧ ∃ j b C arr, imgOf base.c m' ps i = some j ∧ E' j = .live b C ∧ w'.heap[b]? = some (.map arr (S.f n)) ∧ B ≤ b ∧ ∀ {F : Env}, (∀ i j, idS base.c ps i j = true → F i = E' j) → F.ρ = E'.ρ → F (m + k) = .dead → F.st (m + k) = S → AnyMap F es n (m + k) arr := by
    intro k hk
    obtain ⟨p, hp⟩ : ∃ p, puts[k]? = some p := ⟨puts[k], List.getElem?_eq_getElem hk⟩
    obtain ⟨i, oo⟩ := p
    by_cases hu : ∃ es n t, oo = some (.umap es n t)
    · obtain ⟨es, n, t, rfl⟩ := hu
      obtain ⟨o0, ho0⟩ := hobs k i _ hp
      obtain ⟨a, rfl, rfl, rfl⟩ := allO_umap ho0
      have hmem := List.mem_of_getElem? hp
      obtain ⟨j, y, hij, hy, hlike⟩ := hw.obj i _ hmem
      obtain ⟨b, C, ob, he, hh, hok, hfx⟩ := hs.fact j y (hGput i _ hmem j hij) hy
      have hB : B ≤ b := by
        rcases hfx with h | h
        · rw [likeO_fixed hlike] at h; cases h
        · exact h
      obtain ⟨S, arr, rfl, hany⟩ := likeMap_ok hlike hok
      refine ⟨S, fun i' es' n' t' he' => ?_⟩
      rw [hp] at he'
      cases he'
      exact ⟨rfl, j, b, C, arr, himg hij, he, hh, hB, fun hid hρ ht hst => hany hid hρ ht hst⟩
    · exact ⟨.same, fun i' es n t he => by rw [hp] at he; cases he; exact absurd ⟨_, _, _, rfl⟩ hu⟩
  obtain ⟨σ, hσ⟩ := choose_stamps hmaps
  have hF : ∀ i, joinE E' base.c m m' ps σ i = match imgOf base.c m' ps i with | some j => E' j | none => .dead := fun _ => rfl
  have hFs : ∀ {i j}, imgOf base.c m' ps i = some j → joinE E' base.c m m' ps σ i = E' j := fun h => by rw [hF, h]
  have hid : ∀ i j, idS base.c ps i j = true → joinE E' base.c m m' ps σ i = E' j := fun i j h => hFs (himg (idS_img h))
  have hρ : (joinE E' base.c m m' ps σ).ρ = E'.ρ := rfl
  have hout : ∀ i, i < base.c ∨ m' ≤ i → joinE E' base.c m m' ps σ i = E' i := fun i h => hFs (by unfold imgOf; rw [if_pos h])
  have htag : ∀ k, k < puts.length → joinE E' base.c m m' ps σ (m + k) = .dead := by
    intro k hk
    rw [hF]
    have : imgOf base.c m' ps (m + k) = none := by
      unfold imgOf
      rw [if_neg (by omega)]
      cases hl : lookP (m + k) ps with
      | none => rfl
      | some j => have := hlk hl; omega
    rw [this]
  have hle : E0.le (joinE E' base.c m m' ps σ) := by
    refine ⟨fun i => ?_, hext.le.ρ, fun t ht => ?_⟩
    · by_cases h : i < base.c ∨ m' ≤ i
      · rw [hout i h]; exact hext.le i
      · rw [hs0.fresh i (by omega) (hGr i (by omega) (by omega))]; trivial
    · show (if m ≤ t ∧ t < m' then σ t else E'.st t) = _
      rw [if_neg]
      · exact hext.le.st t ht
      · intro hc
        rw [hs0.fresh t (by omega) (hGr t (by omega) (by omega))] at ht; cases ht
  have hkeep : ∀ j, ¬ In (Nat.lor (orAll St.w ways 0) (marksIn base.c m')) j → joinE E' base.c m m' ps σ j = E0 j := by
    intro j hj
    have hnr : j < base.c ∨ m' ≤ j := by
      by_cases h : base.c ≤ j ∧ j < m'
      · exact absurd ((in_lor _ _ _).2 (.inr (hrg j h.1 h.2))) hj
      · omega
    rw [hout j hnr]
    exact hext.keep j fun h => hj (hinW x hx j h)
  refine ⟨joinE E' base.c m m' ps σ, ⟨?_, ?_, hs.base, fun g hg => ?_, ?_, ?_, ?_⟩, likeL_ok hid hρ hw.roots hvals, ⟨hle, hkeep, fun j b C hj he => ?_, hext.below⟩⟩
  · intro i j b C D hb hi hj
    rw [hF] at hi hj
    cases h1 : imgOf base.c m' ps i with
    | none => rw [h1] at hi; cases hi
    | some i' =>
      cases h2 : imgOf base.c m' ps j with
      | none => rw [h2] at hj; cases hj
      | some j' =>
        rw [h1] at hi; rw [h2] at hj
        obtain rfl := hs.inj i' j' b C D hb hi hj
        exact hinj h1 h2
  · intro i b C hi
    rw [hF] at hi
    cases h1 : imgOf base.c m' ps i with
    | none => rw [h1] at hi; cases hi
    | some i' => rw [h1] at hi; exact hs.lt i' b C hi
  · rw [hout g (.inl (by omega))]; exact hs.glob g hg
  · intro i hi hgi
    have hi' : m' ≤ i := hi
    rw [hout i (.inr hi')]
    exact hs.fresh i (by omega) hgi
  · intro i o hgi hget
    rcases putAll_some (show (putAll base.h puts).get i = some o from hget) with ⟨k, hk⟩ | ⟨hne, hb⟩
    · have hmem := List.mem_of_getElem? hk
      obtain ⟨j, y, hij, hy, hlike⟩ := hw.obj i o hmem
      have hki : k < puts.length := by
        rcases Nat.lt_or_ge k puts.length with h | h
        · exact h
        · rw [List.getElem?_eq_none h] at hk; cases hk
      by_cases hu : ∃ es n t, o = .umap es n t
      · obtain ⟨es, n, t, rfl⟩ := hu
        obtain ⟨rfl, j', b, C, arr, h1, h2, h3, h4, h5⟩ := hσ k hki i es n t hk
        refine ⟨b, C, _, by rw [hFs h1]; exact h2, h3, ⟨arr, ?_, h5 hid hρ (htag k hki) ?_⟩, .inr h4⟩
        · show _ = Obj.map arr ((if m ≤ m + k ∧ m + k < m' then σ (m + k) else E'.st (m + k)).f n)
          rw [if_pos (by omega)]
        · show (if m ≤ m + k ∧ m + k < m' then σ (m + k) else E'.st (m + k)) = _
          rw [if_pos (by omega)]
      · obtain ⟨b, C, ob, he, hh, hok, hfx⟩ := hs.fact j y (hGput i o hmem j hij) hy
        have hFi := hFs (himg hij)
        refine ⟨b, C, ob, by rw [hFi]; exact he, hh, likeObj_ok hid hρ hFi hlike (fun es n t e => hu ⟨es, n, t, e⟩) hok, .inr ?_⟩
        rcases hfx with h | h
        · rw [likeO_fixed hlike] at h; cases h
        · exact h
    · obtain ⟨b, C, ob, he, hh, hok, hfx⟩ := hs0.fact i o hgi hb
      have hic : i < base.c := by
        rcases Nat.lt_or_ge i base.c with h | h
        · exact h
        · rw [hs0.fresh i h hgi] at he; cases he
      have hnw : ¬ In x.2.w i := by
        intro hin
        have : i ∈ old := orBits_in (by rw [hcov']; exact low_in.2 ⟨hic, orAll_in.2 (.inr ⟨x, hx, hin⟩)⟩)
        have : i ∈ puts.map (·.1) := by rw [hids]; exact List.mem_append_left _ this
        obtain ⟨p, hp, e⟩ := List.mem_map.1 this
        exact hne p hp e
      have hEi : E' i = E0 i := hext.keep i hnw
      have hFi : joinE E' base.c m m' ps σ i = E0 i := by rw [hout i (.inl hic), hEi]
      exact ⟨b, C, ob, by rw [hFi]; exact he, by rw [hext.block i b C hnw he]; exact hh, hok.mono hle (fun b' C' h => by rw [hFi]; exact h), hfx⟩
  · show OrcOk base.o E'.ρ
    rw [hext.le.ρ]; exact hs0.orc
  · exact hext.block j b C (fun h => hj (hinW x hx j h)) he
end Ev
end Go.Proofs.YtbjllaknnpbkkaaGreatDoor
