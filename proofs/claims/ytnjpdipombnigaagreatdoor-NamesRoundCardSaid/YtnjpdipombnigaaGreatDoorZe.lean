/-
  The symbolic evaluator: a call run once, told wherever its arguments are the same, the new blocks under moved ids.
  The symbolic evaluator: the memo is a contract.
  The symbolic evaluator: many memos of one function, tried in turn.
  The symbolic evaluator: a memo whose new blocks are renamed, so that runs that lay other numbers of blocks are told alike.
-/
import Derived.Test.YtnjpdipombnigaaGreatDoorZd
namespace Go.Proofs.YtnjpdipombnigaaGreatDoor
namespace Ev
open Go.RowKit

noncomputable def shI (c0 d i : Nat) : Nat := bi (Nat.blt i c0) i (Nat.add i d)
noncomputable def mapO {α β : Type} (f : α → Option β) (l : List α) : Option (List β) :=
  List.rec (motive := fun _ => Option (List β)) (some []) (fun x _ ih => oc (f x) fun y => oc ih fun l => some (y :: l)) l
/-- Ids from c0 on, moved by d. -/
noncomputable def shV (c0 d : Nat) (n : Nat) : AV → Option AV :=
  Nat.rec (motive := fun _ => AV → Option AV) (fun _ => none) (fun _ ih x => match x with
    | .bool b => some (.bool b)
    | .int k n => some (.int k n)
    | .sint k e => some (.sint k e)
    | .str l => some (.str l)
    | .nilptr => some .nilptr
    | .ptr i o => some (.ptr (shI c0 d i) o)
    | .nilslice => some .nilslice
    | .slice i o l k q => some (.slice (shI c0 d i) o l k q)
    | .eslice => some .eslice
    | .nilmap => some .nilmap
    | .map i => some (.map (shI c0 d i))
    | .func f p q => oc (mapO ih p) fun p => oc (mapO ih q) fun q => some (.func f p q)
    | .nilFunc => some .nilFunc
    | .iface t v => oc (ih v) fun v => some (.iface t v)
    | .nilIface => some .nilIface
    | .agg l => oc (mapO ih l) fun l => some (.agg l)
    | .tuple l => oc (mapO ih l) fun l => some (.tuple l)
    | .pstr ps => some (.pstr ps)
    | .fslice i n => some (.fslice (shI c0 d i) n)
    | .aslice i o n => some (.aslice (shI c0 d i) o n)
    | _ => none) n
noncomputable def shL (c0 d : Nat) (l : List AV) : Option (List AV) := mapO (shV c0 d (nat_lit 40)) l
noncomputable def shE (c0 d : Nat) : List Ent → Option (List Ent)
  | [] => some []
  | e :: r => oc (shV c0 d (nat_lit 40) e.key) fun k => oc (shV c0 d (nat_lit 40) e.val) fun v => oc (shE c0 d r) fun r => some (⟨k, v, e.born⟩ :: r)
noncomputable def shO (c0 d : Nat) : AObj → Option AObj
  | .cells vs e f p => oc (shL c0 d vs) fun vs => some (.cells vs e f p)
  | .part vs => oc (shL c0 d vs) fun vs => some (.part vs)
  | .map es c => oc (shE c0 d es) fun es => some (.map es c)
  | .umap es c t => oc (shE c0 d es) fun es => some (.umap es c (shI c0 d t))
  | _ => none
/-- The same object, of any kind that may stand in a template. -/
noncomputable def sameX (c : Nat) (x y : AObj) : Bool := match x, y with
  | .umap a n t, .umap b k u => Nat.beq n k && (idS c [] t u && entsX c a b)
  | .row a, .row b => likeL c [] a b
  | x, y => sameO c x y
noncomputable def sameXAt (c : Nat) (x : AObj) (o : Option AObj) : Bool := match o with
  | some y => sameX c x y
  | none => false
noncomputable def objsAt (c0 : Nat) (h : T AObj) : List (Nat × AObj) → Bool
  | [] => true
  | p :: r => Nat.ble (nat_lit 64) p.1 && (Nat.blt p.1 c0 && (sameXAt c0 p.2 (h.get p.1) && objsAt c0 h r))
noncomputable def hasId (i : Nat) : List (Nat × AObj) → Bool
  | [] => false
  | p :: r => bi (Nat.beq p.1 i) true (hasId i r)
/-- What is laid behind the run: old blocks are the template's. -/
noncomputable def putsIn (c0 c1 : Nat) (objs : List (Nat × AObj)) (h : T AObj) : List (Nat × Option AObj) → Bool
  | [] => true
  | p :: r => (match p.2 with
    | some o => Nat.blt p.1 c1 && (sameXAt c1 o (h.get p.1) && (Nat.ble c0 p.1 || hasId p.1 objs))
    | none => Nat.blt p.1 c0 && hasId p.1 objs) && putsIn c0 c1 objs h r
noncomputable def oldIds (c0 : Nat) : List (Nat × Option AObj) → Nat
  | [] => nat_lit 0
  | p :: r => bi (Nat.blt p.1 c0) (Nat.lor (bit p.1) (oldIds c0 r)) (oldIds c0 r)
noncomputable def idsO : List (Nat × AObj) → Nat
  | [] => nat_lit 0
  | p :: r => Nat.lor (bit p.1) (idsO r)
structure Memo where
  c0 : Nat
  args : List AV
  objs : List (Nat × AObj)
  fs : List Fact
  c1 : Nat
  v : AV
  puts : List (Nat × Option AObj)
noncomputable def memChk (M : Memo) (x : R) : Bool := match x with
  | some (u, s1) => Nat.beq s1.c M.c1 && (Nat.ble M.c0 M.c1 && (Nat.ble (nat_lit 64) M.c0 && (likeV M.c1 [] (nat_lit 40) M.v u && (putsIn M.c0 M.c1 M.objs s1.h M.puts && (Nat.beq (Nat.lor (low M.c0 s1.w) (oldIds M.c0 M.puts)) (oldIds M.c0 M.puts) && Nat.beq (Nat.shiftRight s1.l M.c1) (nat_lit 0))))))
  | none => false
noncomputable def shPuts (c0 d : Nat) : List (Nat × Option AObj) → Option (List (Nat × Option AObj))
  | [] => some []
  | p :: r => match p.2 with
    | none => oc (shPuts c0 d r) fun r => some ((shI c0 d p.1, none) :: r)
    | some o => oc (shO c0 d o) fun o => oc (shPuts c0 d r) fun r => some ((shI c0 d p.1, some o) :: r)
noncomputable def memA (tabs : List (Nat × List AV)) (M : Memo) (args : List AV) (s : St) : R :=
  bc (Nat.ble M.c0 s.c) (bc (likeL M.c0 [] M.args args) (bc (tabsIn s tabs) (bc (objsAt M.c0 s.h M.objs) (bc (instFs s.o [] M.fs)
    (force (Nat.sub s.c M.c0) fun d => oc (shV M.c0 d (nat_lit 40) M.v) fun v => oc (shPuts M.c0 d M.puts) fun ps =>
      force (Nat.add M.c1 d) fun c' => some (v, ⟨c', putAll s.h ps, Nat.lor (Nat.lor (seeAll s tabs).l (idsO M.objs)) (Nat.lor (oldIds M.c0 M.puts) (marksIn s.c c')), Nat.lor s.w (Nat.lor (oldIds M.c0 M.puts) (marksIn s.c c')), s.o⟩))))))

section
variable {E1 E' : Env} {c0 d : Nat}
theorem mapO_rel {f : AV → Option AV} (hf : ∀ x y v, f x = some y → Rel E1 x v → Rel E' y v) : ∀ {l m : List AV} {vs : List Value}, mapO f l = some m → RelL E1 l vs → RelL E' m vs
  | [], m, vs, h, hr => by cases h; cases hr; exact .nil
  | x :: l, m, vs, h, hr => by
    obtain ⟨y, h1, h⟩ := oc_some (show oc (f x) (fun y => oc (mapO f l) fun l => some (y :: l)) = some m from h)
    obtain ⟨k, h2, h⟩ := oc_some h
    cases h
    cases hr with
    | cons h3 h4 => exact .cons (hf _ _ _ h1 h3) (mapO_rel hf h2 h4)
theorem not_unborn_at {x : Slot} {b : Nat} (h : x.at b) : x ≠ .unborn := by intro e; subst e; exact h
theorem not_unborn_row {x : Slot} {b C : Nat} (h : x.row b C) : x ≠ .unborn := by intro e; subst e; exact h
theorem shV_ok (hid : ∀ i, E1 i ≠ .unborn → E' (shI c0 d i) = E1 i) (hρ : E'.ρ = E1.ρ) : ∀ (n : Nat) (x y : AV) (v : Value), shV c0 d n x = some y → Rel E1 x v → Rel E' y v := by
  intro n
  induction n with
  | zero => intro x y v h; cases h
  | succ n ih =>
    intro x y v h hr
    cases x <;> first | (cases h; done) | skip
    case bool => cases h; cases hr; exact .bool _
    case int => cases h; cases hr; exact .int _ _
    case sint => cases h; cases hr; rw [← hρ]; exact .sint _ _
    case str => cases h; cases hr; exact .str _
    case nilptr => cases h; cases hr; exact .nilptr
    case ptr i o => cases h; cases hr; rename_i hb; exact .ptr (by rw [hid i (not_unborn_at hb)]; exact hb)
    case nilslice => cases h; cases hr; exact .nilslice
    case slice i o l k q => cases h; cases hr; rename_i hb hc; exact .slice (by rw [hid i (not_unborn_at hb)]; exact hb) (by rw [hid i (not_unborn_at hb)]; exact hc)
    case eslice => cases h; cases hr; exact .eslice
    case nilmap => cases h; cases hr; exact .nilmap
    case map i => cases h; cases hr; rename_i hb; exact .map (by rw [hid i (not_unborn_at hb)]; exact hb)
    case func f p q =>
      obtain ⟨p', h1, h⟩ := oc_some (show oc (mapO (shV c0 d n) p) (fun p => oc (mapO (shV c0 d n) q) fun q => some (.func f p q)) = some y from h)
      obtain ⟨q', h2, h⟩ := oc_some h
      cases h
      cases hr
      rename_i hp hq
      exact .func (mapO_rel ih h1 hp) (mapO_rel ih h2 hq)
    case nilFunc => cases h; cases hr; exact .nilFunc
    case iface t u =>
      obtain ⟨u', h1, h⟩ := oc_some (show oc (shV c0 d n u) (fun v => some (.iface t v)) = some y from h)
      cases h
      cases hr
      rename_i hv
      exact .iface (ih _ _ _ h1 hv)
    case nilIface => cases h; cases hr; exact .nilIface
    case agg l =>
      obtain ⟨l', h1, h⟩ := oc_some (show oc (mapO (shV c0 d n) l) (fun l => some (.agg l)) = some y from h)
      cases h
      cases hr
      rename_i hl
      exact .agg (mapO_rel ih h1 hl)
    case tuple l =>
      obtain ⟨l', h1, h⟩ := oc_some (show oc (mapO (shV c0 d n) l) (fun l => some (.tuple l)) = some y from h)
      cases h
      cases hr
      rename_i hl
      exact .tuple (mapO_rel ih h1 hl)
    case pstr ps => cases h; cases hr; rw [← hρ]; exact .pstr _
    case fslice i m => cases h; cases hr; rename_i hb; rw [← hρ]; exact .fslice (by rw [hid i (not_unborn_at hb)]; exact hb)
    case aslice i o m => cases h; cases hr; rename_i hb hc; exact .aslice (by rw [hid i (not_unborn_row hb)]; exact hb) hc
theorem shL_ok (hid : ∀ i, E1 i ≠ .unborn → E' (shI c0 d i) = E1 i) (hρ : E'.ρ = E1.ρ) {l m : List AV} {vs : List Value} (h : shL c0 d l = some m) (hr : RelL E1 l vs) : RelL E' m vs := mapO_rel (shV_ok hid hρ 40) h hr
theorem shE_ok (hid : ∀ i, E1 i ≠ .unborn → E' (shI c0 d i) = E1 i) (hρ : E'.ρ = E1.ρ) : ∀ {l m : List Ent} {zs : List MapEntry}, shE c0 d l = some m → RelE E1 l zs → RelE E' m zs
  | [], m, zs, h, hr => by cases h; cases hr; exact .nil
  | e :: l, m, zs, h, hr => by
    obtain ⟨k, h1, h⟩ := oc_some (show oc (shV c0 d 40 e.key) (fun k => oc (shV c0 d 40 e.val) fun v => oc (shE c0 d l) fun r => some (⟨k, v, e.born⟩ :: r)) = some m from h)
    obtain ⟨v, h2, h⟩ := oc_some h
    obtain ⟨r, h3, h⟩ := oc_some h
    cases h
    cases hr with
    | cons a1 a2 a3 a4 => exact .cons (shV_ok hid hρ 40 _ _ _ h1 a1) (shV_ok hid hρ 40 _ _ _ h2 a2) a3 (shE_ok hid hρ h3 a4)
theorem shE_S (hid : ∀ i, E1 i ≠ .unborn → E' (shI c0 d i) = E1 i) (hρ : E'.ρ = E1.ρ) {S : Stamps} : ∀ {l m : List Ent} {zs : List MapEntry}, shE c0 d l = some m → RelS E1 S l zs → RelS E' S m zs
  | [], m, zs, h, hr => by cases h; cases hr; exact .nil
  | e :: l, m, zs, h, hr => by
    obtain ⟨k, h1, h⟩ := oc_some (show oc (shV c0 d 40 e.key) (fun k => oc (shV c0 d 40 e.val) fun v => oc (shE c0 d l) fun r => some (⟨k, v, e.born⟩ :: r)) = some m from h)
    obtain ⟨v, h2, h⟩ := oc_some h
    obtain ⟨r, h3, h⟩ := oc_some h
    cases h
    cases hr with
    | cons a1 a2 a3 a4 => exact .cons (shV_ok hid hρ 40 _ _ _ h1 a1) (shV_ok hid hρ 40 _ _ _ h2 a2) a3 (shE_S hid hρ h3 a4)
theorem shE_borns : ∀ {l m : List Ent}, shE c0 d l = some m → m.map Ent.born = l.map Ent.born
  | [], m, h => by cases h; rfl
  | e :: l, m, h => by
    obtain ⟨k, h1, h⟩ := oc_some (show oc (shV c0 d 40 e.key) (fun k => oc (shV c0 d 40 e.val) fun v => oc (shE c0 d l) fun r => some (⟨k, v, e.born⟩ :: r)) = some m from h)
    obtain ⟨v, h2, h⟩ := oc_some h
    obtain ⟨r, h3, h⟩ := oc_some h
    cases h
    simp [shE_borns h3]
theorem shO_ok (hid : ∀ i, E1 i ≠ .unborn → E' (shI c0 d i) = E1 i) (hst : ∀ i, E1 i ≠ .unborn → E'.st (shI c0 d i) = E1.st i) (hρ : E'.ρ = E1.ρ) {x y : AObj} {i : Nat} {ob : Obj} (h : shO c0 d x = some y) (hi : E' (shI c0 d i) = E1 i) (hok : OkObj E1 i x ob) : OkObj E' (shI c0 d i) y ob := by
  cases x <;> first | (cases h; done) | skip
  case cells vs e f p =>
    obtain ⟨vs', h1, h⟩ := oc_some (show oc (shL c0 d vs) (fun vs => some (.cells vs e f p)) = some y from h)
    cases h
    cases p with
    | none =>
      obtain ⟨c', f', rfl, hr, hfz⟩ := hok
      exact ⟨c', f', rfl, shL_ok hid hρ h1 hr, hfz⟩
    | some z =>
      obtain ⟨c', f', xs, rest, b', C, rfl, hx, hr, he, hsz, hfz⟩ := hok
      exact ⟨c', f', xs, rest, b', C, rfl, hx, shL_ok hid hρ h1 hr, by rw [hi]; exact he, hsz, hfz⟩
  case part vs =>
    obtain ⟨vs', h1, h⟩ := oc_some (show oc (shL c0 d vs) (fun vs => some (.part vs)) = some y from h)
    cases h
    obtain ⟨c', e, f, xs, rest, rfl, hx, hr⟩ := hok
    exact ⟨c', e, f, xs, rest, rfl, hx, shL_ok hid hρ h1 hr⟩
  case map es c =>
    obtain ⟨es', h1, h⟩ := oc_some (show oc (shE c0 d es) (fun es => some (.map es c)) = some y from h)
    cases h
    obtain ⟨a, rfl, hr⟩ := hok
    exact ⟨a, rfl, shE_ok hid hρ h1 hr⟩
  case umap es c t =>
    obtain ⟨es', h1, h⟩ := oc_some (show oc (shE c0 d es) (fun es => some (.umap es c (shI c0 d t))) = some y from h)
    cases h
    obtain ⟨a, rfl, hm⟩ := hok
    have hne : E1 t ≠ .unborn := by rw [hm.tag]; simp
    have hb := shE_borns h1
    obtain ⟨l, hp, hr⟩ := hm.rel
    refine ⟨a, by rw [hst t hne], ⟨by rw [hid t hne]; exact hm.tag, by rw [hst t hne]; exact hm.le, fun e he => ?_, by rw [hb]; exact hm.once, l, hp, by rw [hst t hne]; exact shE_S hid hρ h1 hr⟩⟩
    have : e.born ∈ es.map Ent.born := by rw [← hb]; exact List.mem_map.2 ⟨e, he, rfl⟩
    obtain ⟨e', he', hbe⟩ := List.mem_map.1 this
    rw [← hbe]; exact hm.lt e' he'
end
theorem entsX_S {E : Env} {c : Nat} {S : Stamps} : ∀ {a b : List Ent} {zs : List MapEntry}, entsX c a b = true → RelS E S b zs → RelS E S a zs
  | [], [], _, _, .nil => .nil
  | _ :: _, _ :: _, _, h, .cons h1 h2 h3 t => by
    simp only [entsX, Bool.and_eq_true] at h
    have hid : ∀ i j, idS c [] i j = true → E i = E j := fun i j h => by rw [idS_nil h]
    exact .cons (likeV_ok hid rfl 40 _ _ _ h.1 h1) (likeV_ok hid rfl 40 _ _ _ h.2.1 h2) (by rw [Nat.eq_of_beq_eq_true h.2.2.1]; exact h3) (entsX_S h.2.2.2 t)
  | [], _ :: _, _, h, _ => by cases h
  | _ :: _, [], _, h, _ => by cases h
theorem entsX_borns {c : Nat} : ∀ {a b : List Ent}, entsX c a b = true → a.map Ent.born = b.map Ent.born
  | [], [], _ => rfl
  | x :: l, y :: m, h => by
    simp only [entsX, Bool.and_eq_true] at h
    rw [List.map_cons, List.map_cons, Nat.eq_of_beq_eq_true h.2.2.1, entsX_borns h.2.2.2]
  | [], _ :: _, h => by cases h
  | _ :: _, [], h => by cases h
theorem sameX_ok {E : Env} {c i : Nat} {x y : AObj} {ob : Obj} (h : sameX c x y = true) (hok : OkObj E i y ob) : OkObj E i x ob := by
  have hid : ∀ i j, idS c [] i j = true → E i = E j := fun i j h => by rw [idS_nil h]
  unfold sameX at h
  split at h
  · rename_i a n t b k u
    simp only [Bool.and_eq_true] at h
    obtain ⟨h1, h2, h3⟩ := h
    obtain rfl := Nat.eq_of_beq_eq_true h1
    obtain rfl := idS_nil h2
    obtain ⟨arr, rfl, hm⟩ := hok
    have hb := entsX_borns h3
    obtain ⟨l, hp, hr⟩ := hm.rel
    refine ⟨arr, rfl, ⟨hm.tag, hm.le, fun e he => ?_, by rw [hb]; exact hm.once, l, hp, entsX_S h3 hr⟩⟩
    have : e.born ∈ b.map Ent.born := by rw [← hb]; exact List.mem_map.2 ⟨e, he, rfl⟩
    obtain ⟨e', he', hbe⟩ := List.mem_map.1 this
    rw [← hbe]; exact hm.lt e' he'
  · obtain ⟨c', e, f, b', C, xs, rest, rfl, he, hx, hr⟩ := hok
    exact ⟨c', e, f, b', C, xs, rest, rfl, he, hx, likeL_ok hid rfl h hr⟩
  · exact sameO_ok h hok
theorem sameXAt_some {c : Nat} {x : AObj} {o : Option AObj} (h : sameXAt c x o = true) : ∃ y, o = some y ∧ sameX c x y = true := by
  unfold sameXAt at h
  split at h
  · exact ⟨_, rfl, h⟩
  · cases h
theorem objsAt_ok {c0 : Nat} {h : T AObj} : ∀ {l : List (Nat × AObj)}, objsAt c0 h l = true → ∀ p ∈ l, 64 ≤ p.1 ∧ p.1 < c0 ∧ ∃ y, h.get p.1 = some y ∧ sameX c0 p.2 y = true
  | [], _, p, hm => by cases hm
  | q :: r, hl, p, hm => by
    simp only [objsAt, Bool.and_eq_true] at hl
    rcases List.mem_cons.1 hm with rfl | hm
    · exact ⟨by simpa using hl.1, by simpa using hl.2.1, sameXAt_some hl.2.2.1⟩
    · exact objsAt_ok hl.2.2.2 p hm
theorem hasId_ok {i : Nat} : ∀ {l : List (Nat × AObj)}, hasId i l = true → ∃ o, (i, o) ∈ l
  | [], h => by cases h
  | p :: r, h => by
    have h' : bi (Nat.beq p.1 i) true (hasId i r) = true := h
    cases hb : Nat.beq p.1 i with
    | true =>
      obtain rfl := Nat.eq_of_beq_eq_true hb
      exact ⟨p.2, List.mem_cons_self ..⟩
    | false =>
      rw [hb, bi_false] at h'
      obtain ⟨o, ho⟩ := hasId_ok h'
      exact ⟨o, List.mem_cons_of_mem _ ho⟩
theorem putsIn_ok {c0 c1 : Nat} {objs : List (Nat × AObj)} {h : T AObj} : ∀ {l : List (Nat × Option AObj)}, putsIn c0 c1 objs h l = true → ∀ p ∈ l, (∀ o, p.2 = some o → p.1 < c1 ∧ ∃ y, h.get p.1 = some y ∧ sameX c1 o y = true) ∧ (p.2 = none → p.1 < c0) ∧ (p.1 < c0 → ∃ o, (p.1, o) ∈ objs)
  | [], _, p, hm => by cases hm
  | q :: r, hl, p, hm => by
    simp only [putsIn, Bool.and_eq_true] at hl
    rcases List.mem_cons.1 hm with rfl | hm
    · have h1 := hl.1
      split at h1
      · rename_i o ho
        simp only [Bool.and_eq_true, Bool.or_eq_true] at h1
        obtain ⟨k1, k2, k3⟩ := h1
        refine ⟨fun o' ho' => ?_, fun hn => (by rw [ho] at hn; cases hn), fun hlt => ?_⟩
        · rw [ho] at ho'
          cases ho'
          exact ⟨by simpa using k1, sameXAt_some k2⟩
        · rcases k3 with k3 | k3
          · have k3 : c0 ≤ p.1 := by simpa using k3
            omega
          · exact hasId_ok k3
      · rename_i hn
        rw [Bool.and_eq_true] at h1
        exact ⟨fun o ho => (by rw [hn] at ho; cases ho), fun _ => (by simpa using h1.1), fun _ => hasId_ok h1.2⟩
    · exact putsIn_ok hl.2 p hm
theorem oldIds_in {c0 i : Nat} : ∀ {l : List (Nat × Option AObj)}, In (oldIds c0 l) i ↔ i < c0 ∧ ∃ o, (i, o) ∈ l
  | [] => by
    constructor
    · intro h; exact absurd h (not_in_zero _)
    · rintro ⟨_, o, ho⟩; cases ho
  | p :: r => by
    have h : oldIds c0 (p :: r) = bi (Nat.blt p.1 c0) (Nat.lor (bit p.1) (oldIds c0 r)) (oldIds c0 r) := rfl
    rw [h]
    cases hb : Nat.blt p.1 c0 with
    | true =>
      have hlt : p.1 < c0 := by simpa using hb
      rw [bi_true, in_lor, in_bit, oldIds_in]
      constructor
      · rintro (h1 | ⟨h1, o, ho⟩)
        · subst h1; exact ⟨hlt, p.2, List.mem_cons_self ..⟩
        · exact ⟨h1, o, List.mem_cons_of_mem _ ho⟩
      · rintro ⟨h1, o, ho⟩
        rcases List.mem_cons.1 ho with h2 | h2
        · left; rw [← h2]
        · right; exact ⟨h1, o, h2⟩
    | false =>
      have hlt : ¬ p.1 < c0 := fun h => by rw [show Nat.blt p.1 c0 = true from Eq.mpr Nat.blt_eq h] at hb; cases hb
      rw [bi_false, oldIds_in]
      constructor
      · rintro ⟨h1, o, ho⟩; exact ⟨h1, o, List.mem_cons_of_mem _ ho⟩
      · rintro ⟨h1, o, ho⟩
        rcases List.mem_cons.1 ho with h2 | h2
        · rw [← h2] at hlt; exact absurd h1 hlt
        · exact ⟨h1, o, h2⟩
theorem idsO_in {i : Nat} : ∀ {l : List (Nat × AObj)} {o : AObj}, (i, o) ∈ l → In (idsO l) i
  | [], o, h => by cases h
  | p :: r, o, h => by
    have e : idsO (p :: r) = Nat.lor (bit p.1) (idsO r) := rfl
    rw [e, in_lor]
    rcases List.mem_cons.1 h with h1 | h1
    · exact .inl ((in_bit _ _).2 (by rw [← h1]))
    · exact .inr (idsO_in h1)
theorem shPuts_ok {c0 d : Nat} : ∀ {l m : List (Nat × Option AObj)}, shPuts c0 d l = some m → (∀ p ∈ m, ∃ q ∈ l, p.1 = shI c0 d q.1 ∧ ∀ o, p.2 = some o → ∃ o0, q.2 = some o0 ∧ shO c0 d o0 = some o) ∧ ∀ q ∈ l, ∃ p ∈ m, p.1 = shI c0 d q.1
  | [], m, h => by cases h; exact ⟨fun p hp => (by cases hp), fun p hp => (by cases hp)⟩
  | q :: l, m, h => by
    simp only [shPuts] at h
    split at h
    · rename_i hn
      obtain ⟨r, h1, h2⟩ := oc_some h
      cases h2
      obtain ⟨k1, k2⟩ := shPuts_ok h1
      refine ⟨fun p hp => ?_, fun q' hq => ?_⟩
      · rcases List.mem_cons.1 hp with rfl | hp
        · exact ⟨q, List.mem_cons_self .., rfl, fun o ho => by cases ho⟩
        · obtain ⟨q', h3, h4⟩ := k1 p hp
          exact ⟨q', List.mem_cons_of_mem _ h3, h4⟩
      · rcases List.mem_cons.1 hq with rfl | hq
        · exact ⟨_, List.mem_cons_self .., rfl⟩
        · obtain ⟨p, h3, h4⟩ := k2 q' hq
          exact ⟨p, List.mem_cons_of_mem _ h3, h4⟩
    · rename_i o0 ho0
      obtain ⟨o, h0, h3⟩ := oc_some h
      obtain ⟨r, h1, h2⟩ := oc_some h3
      cases h2
      obtain ⟨k1, k2⟩ := shPuts_ok h1
      refine ⟨fun p hp => ?_, fun q' hq => ?_⟩
      · rcases List.mem_cons.1 hp with rfl | hp
        · exact ⟨q, List.mem_cons_self .., rfl, fun o' ho' => by cases ho'; exact ⟨o0, ho0, h0⟩⟩
        · obtain ⟨q', h3, h4⟩ := k1 p hp
          exact ⟨q', List.mem_cons_of_mem _ h3, h4⟩
      · rcases List.mem_cons.1 hq with rfl | hq
        · exact ⟨_, List.mem_cons_self .., rfl⟩
        · obtain ⟨p, h3, h4⟩ := k2 q' hq
          exact ⟨p, List.mem_cons_of_mem _ h3, h4⟩
end Ev
end Go.Proofs.YtnjpdipombnigaaGreatDoor
namespace Go.Proofs.YtnjpdipombnigaaGreatDoor
namespace Ev
open Go.RowKit

/-- The state's ids, as the run has them: below c0 as they are; the new ones back by d; the others beyond c1. -/
def phi (c0 c1 sc d i : Nat) : Nat := if i < c0 then i else if sc ≤ i ∧ i < c1 + d then i - d else c1 + (i - c0)
def psi (c0 c1 i : Nat) : Nat := if i < c0 then i else i - c1 + c0
def memE (E : Env) (c0 c1 : Nat) : Env := ⟨fun i => if c0 ≤ i ∧ i < c1 then .unborn else E (psi c0 c1 i), E.ρ, fun t => E.st (psi c0 c1 t), E.δ, E.K, E.hp⟩
theorem memE_live {E : Env} {c0 c1 i b X : Nat} (h : memE E c0 c1 i = .live b X) : ∃ i', E i' = .live b X := by
  simp only [memE] at h
  split at h
  · cases h
  · exact ⟨_, h⟩
def memE' (E E1 : Env) (c0 c1 sc d : Nat) : Env := ⟨fun i => E1 (phi c0 c1 sc d i), E.ρ, fun t => E1.st (phi c0 c1 sc d t), E.δ, E1.K, E1.hp⟩
theorem phi_lo {c0 c1 sc d i : Nat} (h : i < c0) : phi c0 c1 sc d i = i := by unfold phi; rw [if_pos h]
theorem phi_new {c0 c1 sc d i : Nat} (h0 : ¬ i < c0) (h : sc ≤ i ∧ i < c1 + d) : phi c0 c1 sc d i = i - d := by unfold phi; rw [if_neg h0, if_pos h]
theorem phi_out {c0 c1 sc d i : Nat} (h0 : ¬ i < c0) (h : ¬ (sc ≤ i ∧ i < c1 + d)) : phi c0 c1 sc d i = c1 + (i - c0) := by unfold phi; rw [if_neg h0, if_neg h]
theorem phi_inj {c0 c1 sc d : Nat} (h1 : c0 ≤ c1) (h2 : sc = c0 + d) {i j : Nat} (h : phi c0 c1 sc d i = phi c0 c1 sc d j) : i = j := by
  by_cases a0 : i < c0
  · rw [phi_lo a0] at h
    by_cases b0 : j < c0
    · rw [phi_lo b0] at h; exact h
    · by_cases b1 : sc ≤ j ∧ j < c1 + d
      · rw [phi_new b0 b1] at h; omega
      · rw [phi_out b0 b1] at h; omega
  · by_cases a1 : sc ≤ i ∧ i < c1 + d
    · rw [phi_new a0 a1] at h
      by_cases b0 : j < c0
      · rw [phi_lo b0] at h; omega
      · by_cases b1 : sc ≤ j ∧ j < c1 + d
        · rw [phi_new b0 b1] at h; omega
        · rw [phi_out b0 b1] at h; omega
    · rw [phi_out a0 a1] at h
      by_cases b0 : j < c0
      · rw [phi_lo b0] at h; omega
      · by_cases b1 : sc ≤ j ∧ j < c1 + d
        · rw [phi_new b0 b1] at h; omega
        · rw [phi_out b0 b1] at h; omega
theorem shI_eq (c0 d i : Nat) : shI c0 d i = if i < c0 then i else i + d := by
  show bi (Nat.blt i c0) i (Nat.add i d) = _
  rw [bi_blt]; rfl
theorem phi_sh {c0 c1 sc d : Nat} (h2 : sc = c0 + d) {i : Nat} (hi : i < c1) : phi c0 c1 sc d (shI c0 d i) = i := by
  rw [shI_eq]
  by_cases h : i < c0
  · rw [if_pos h, phi_lo h]
  · rw [if_neg h, phi_new (by omega) (by omega)]; omega
theorem idS_lt {c i j : Nat} (h : idS c [] i j = true) : i < c ∧ i = j := by
  have h' : bi (Nat.blt i c) (Nat.beq i j) false = true := h
  cases hb : Nat.blt i c with
  | false => rw [hb, bi_false] at h'; cases h'
  | true => rw [hb, bi_true] at h'; exact ⟨by simpa using hb, Nat.eq_of_beq_eq_true h'⟩
section
variable {E F : Env} {c : Nat}
theorem idS_env (hid : ∀ j, j < c → F j = E j) : ∀ i j, idS c [] i j = true → F i = E j := fun i j h => by
  obtain ⟨h1, h2⟩ := idS_lt h
  rw [← h2]; exact hid i h1
theorem entsX_at (hid : ∀ j, j < c → F j = E j) (hρ : F.ρ = E.ρ) : ∀ {a b : List Ent} {zs : List MapEntry}, entsX c a b = true → RelE E b zs → RelE F a zs
  | [], [], _, _, .nil => .nil
  | _ :: _, _ :: _, _, h, .cons h1 h2 h3 t => by
    simp only [entsX, Bool.and_eq_true] at h
    exact .cons (likeV_ok (idS_env hid) hρ 40 _ _ _ h.1 h1) (likeV_ok (idS_env hid) hρ 40 _ _ _ h.2.1 h2) ((Nat.eq_of_beq_eq_true h.2.2.1).trans h3) (entsX_at hid hρ h.2.2.2 t)
  | [], _ :: _, _, h, _ => by cases h
  | _ :: _, [], _, h, _ => by cases h
theorem entsX_Sat (hid : ∀ j, j < c → F j = E j) (hρ : F.ρ = E.ρ) {S : Stamps} : ∀ {a b : List Ent} {zs : List MapEntry}, entsX c a b = true → RelS E S b zs → RelS F S a zs
  | [], [], _, _, .nil => .nil
  | _ :: _, _ :: _, _, h, .cons h1 h2 h3 t => by
    simp only [entsX, Bool.and_eq_true] at h
    exact .cons (likeV_ok (idS_env hid) hρ 40 _ _ _ h.1 h1) (likeV_ok (idS_env hid) hρ 40 _ _ _ h.2.1 h2) (by rw [Nat.eq_of_beq_eq_true h.2.2.1]; exact h3) (entsX_Sat hid hρ h.2.2.2 t)
  | [], _ :: _, _, h, _ => by cases h
  | _ :: _, [], _, h, _ => by cases h
theorem sameX_at (hid : ∀ j, j < c → F j = E j) (hst : ∀ j, j < c → F.st j = E.st j) (hρ : F.ρ = E.ρ) {i : Nat} {x y : AObj} {ob : Obj} (hi : F i = E i) (h : sameX c x y = true) (hok : OkObj E i y ob) : OkObj F i x ob := by
  unfold sameX at h
  split at h
  · rename_i a n t b k u
    simp only [Bool.and_eq_true] at h
    obtain ⟨h1, h2, h3⟩ := h
    obtain rfl := Nat.eq_of_beq_eq_true h1
    obtain ⟨h4, rfl⟩ := idS_lt h2
    obtain ⟨arr, rfl, hm⟩ := hok
    have hb := entsX_borns h3
    obtain ⟨l, hp, hr⟩ := hm.rel
    refine ⟨arr, by rw [hst t h4], ⟨by rw [hid t h4]; exact hm.tag, by rw [hst t h4]; exact hm.le, fun e he => ?_, by rw [hb]; exact hm.once, l, hp, by rw [hst t h4]; exact entsX_Sat hid hρ h3 hr⟩⟩
    have : e.born ∈ b.map Ent.born := by rw [← hb]; exact List.mem_map.2 ⟨e, he, rfl⟩
    obtain ⟨e', he', hbe⟩ := List.mem_map.1 this
    rw [← hbe]; exact hm.lt e' he'
  · obtain ⟨c', e, f, b', C, xs, rest, rfl, he, hx, hr⟩ := hok
    exact ⟨c', e, f, b', C, xs, rest, rfl, by rw [hi]; exact he, hx, likeL_ok (idS_env hid) hρ h hr⟩
  · unfold sameO at h
    split at h
    · exact likeObj_ok (idS_env hid) hρ hi h (fun _ _ _ e => by cases e) hok
    · exact likeObj_ok (idS_env hid) hρ hi h (fun _ _ _ e => by cases e) hok
    · rw [Bool.and_eq_true] at h
      obtain ⟨a, rfl, hr⟩ := hok
      exact ⟨a, by rw [Nat.eq_of_beq_eq_true h.1], entsX_at hid hρ h.2 hr⟩
    · cases h
end
theorem sameX_fix {c : Nat} {x y : AObj} (h : sameX c x y = true) : x.fixed = y.fixed := by
  unfold sameX at h
  split at h
  · rfl
  · rfl
  · unfold sameO at h
    split at h <;> first | rfl | (cases h)
theorem shO_fix {c0 d : Nat} {x y : AObj} (h : shO c0 d x = some y) : x.fixed = false := by
  cases x <;> first | rfl | (cases h)
/-- The ids below c1 alone. -/
def cutE (E : Env) (c1 : Nat) : Env := ⟨fun i => if i < c1 then E i else .unborn, E.ρ, E.st, E.δ, E.K, E.hp⟩
theorem sh_new {c0 c1 sc d : Nat} (h2 : sc = c0 + d) {i : Nat} (hi : i < c1) : shI c0 d i < c0 ∨ (sc ≤ shI c0 d i ∧ shI c0 d i < c1 + d) := by
  have e : shI c0 d i = if i < c0 then i else i + d := by
    show bi (Nat.blt i c0) i (Nat.add i d) = _
    rw [bi_blt]; rfl
  rw [e]
  split <;> omega
theorem lowIn {c m k i : Nat} (h : Nat.lor (low c m) k = k) (hi : i < c) (hm : In m i) : In k i := by
  rw [← h]
  exact (in_lor _ _ _).2 (.inl (low_in.2 ⟨hi, hm⟩))
theorem shr_out {l c j : Nat} (h : Nat.shiftRight l c = 0) (hj : In l j) : j < c := by
  rcases Nat.lt_or_ge j c with h1 | h1
  · exact h1
  · exfalso
    have h2 : l / 2 ^ c = 0 := by rw [← Nat.shiftRight_eq_div_pow]; exact h
    have h3 : l < 2 ^ c := by
      rcases Nat.lt_or_ge l (2 ^ c) with h4 | h4
      · exact h4
      · have := Nat.div_pos h4 (Nat.two_pow_pos c); omega
    have h4 : l < 2 ^ j := Nat.lt_of_lt_of_le h3 (Nat.pow_le_pow_right (by decide) h1)
    have h5 : Nat.testBit l j = true := hj
    rw [Nat.testBit_lt_two_pow h4] at h5
    cases h5
theorem marksIn_out {c m i : Nat} (hcm : c ≤ m) (h : In (marksIn c m) i) : c ≤ i ∧ i < m := by
  have h' : (bit m - bit c).testBit i = true := h
  rw [bit_eq, bit_eq] at h'
  have e : 2 ^ m - 2 ^ c = 2 ^ c * (2 ^ (m - c) - 1) := by
    rw [Nat.mul_sub, ← Nat.pow_add, Nat.mul_one, Nat.add_sub_cancel' hcm]
  rw [e, Nat.testBit_two_pow_mul, Nat.testBit_two_pow_sub_one] at h'
  simp at h'; omega
theorem mem_ok {P : Program} [IsProg P] {tabs : List (Nat × List AV)} {ctr : Ctr} (hctr : CtrOk P ctr) (hmix : P.follows .mixedOrders = true) (hnames : (P.funcs.toList.all fun fn => fn.name != "runtime.NumGoroutine") = true) {n : Nat} {f : FuncId} {M : Memo}
    (hrun : memChk M ((ev P ctr n).call f M.args (tmplSt tabs M.c0 M.objs M.fs)) = true) : ∀ {args : List AV} {s : St} {v : AV} {s' : St}, memA tabs M args s = some (v, s') → Step s s' ∧ ∀ {G : Nat → Prop} {B : Nat} {E : Env} {w : World} {args' : Array Value}, (∀ j, In s'.l j → G j) → Sat G B E s w → RelL E args args'.toList →
      CallRes P f args' w (RetOk G B s' v E w) := by
  intro args s v s' h
  unfold memChk at hrun
  split at hrun
  case h_2 => cases hrun
  rename_i u s1 hs1
  simp only [Bool.and_eq_true] at hrun
  obtain ⟨k1, k2, k3, k4, k5, k6, k7⟩ := hrun
  have k1 : s1.c = M.c1 := Nat.eq_of_beq_eq_true k1
  have k2 : M.c0 ≤ M.c1 := by simpa using k2
  have k3 : 64 ≤ M.c0 := by simpa using k3
  have k6 := Nat.eq_of_beq_eq_true k6
  have k7 := Nat.eq_of_beq_eq_true k7
  have hput := putsIn_ok k5
  obtain ⟨hc, h⟩ := bc_some h
  obtain ⟨hargs, h⟩ := bc_some h
  obtain ⟨ht, h⟩ := bc_some h
  obtain ⟨hob, h⟩ := bc_some h
  obtain ⟨hfs, h⟩ := bc_some h
  rw [force_eq] at h
  obtain ⟨v', hv, h⟩ := oc_some h
  obtain ⟨ps, hps, h⟩ := oc_some h
  rw [force_eq] at h
  have h := Option.some.inj h
  obtain ⟨rfl, rfl⟩ := Prod.mk.inj h
  have hc : M.c0 ≤ s.c := by simpa using hc
  obtain ⟨d, hd⟩ : ∃ d, d = Nat.sub s.c M.c0 := ⟨_, rfl⟩
  rw [← hd] at hv hps ⊢
  have hsc : s.c = M.c0 + d := by have : d = s.c - M.c0 := hd; omega
  have hob := objsAt_ok hob
  obtain ⟨g1, g2⟩ := shPuts_ok hps
  obtain ⟨q1, q2, q3, q4, q5⟩ := seeAll_step tabs s
  have hmk : ∀ j, s.c ≤ j → j < M.c1 + d → In (marksIn s.c (Nat.add M.c1 d)) j := fun j h1 h2 => marksIn_in h1 h2
  have hcase : ∀ p ∈ ps, In (Nat.lor (oldIds M.c0 M.puts) (marksIn s.c (Nat.add M.c1 d))) p.1 := by
    intro p hp
    obtain ⟨q, hq, e, _⟩ := g1 p hp
    have hlt : q.1 < M.c1 := by
      rcases hq2 : q.2 with _ | o
      · have := (hput q hq).2.1 hq2; omega
      · exact ((hput q hq).1 o hq2).1
    rcases sh_new (c0 := M.c0) (c1 := M.c1) (sc := s.c) (d := d) hsc hlt with h1 | h1
    · have hq0 : q.1 < M.c0 := by
        have e2 : shI M.c0 d q.1 = if q.1 < M.c0 then q.1 else q.1 + d := by
          show bi (Nat.blt q.1 M.c0) q.1 (Nat.add q.1 d) = _
          rw [bi_blt]; rfl
        rw [e2] at h1
        split at h1 <;> omega
      have e2 : shI M.c0 d q.1 = q.1 := by
        show bi (Nat.blt q.1 M.c0) q.1 (Nat.add q.1 d) = _
        rw [bi_blt, if_pos hq0]
      rw [e, e2]
      exact (in_lor _ _ _).2 (.inl (oldIds_in.2 ⟨hq0, q.2, hq⟩))
    · rw [e]
      exact (in_lor _ _ _).2 (.inr (hmk _ h1.1 h1.2))
  have hstep : Step s ⟨Nat.add M.c1 d, putAll s.h ps, Nat.lor (Nat.lor (seeAll s tabs).l (idsO M.objs)) (Nat.lor (oldIds M.c0 M.puts) (marksIn s.c (Nat.add M.c1 d))), Nat.lor s.w (Nat.lor (oldIds M.c0 M.puts) (marksIn s.c (Nat.add M.c1 d))), s.o⟩ := by
    refine ⟨fun j hj => (in_lor _ _ _).2 (.inl ((in_lor _ _ _).2 (.inl (q1.l j hj)))), fun j hj => (in_lor _ _ _).2 (.inl hj), fun hwl j hj => ?_, fun j hj => ?_, rfl⟩
    · rcases (in_lor _ _ _).1 hj with h | h
      · exact (in_lor _ _ _).2 (.inl ((in_lor _ _ _).2 (.inl (q1.l j (hwl j h)))))
      · exact (in_lor _ _ _).2 (.inr h)
    · exact putAll_ne fun p hp e => hj ((in_lor _ _ _).2 (.inr (by rw [← e]; exact hcase p hp)))
  refine ⟨hstep, fun {G B E w args'} hG hs ha => ?_⟩
  have hGt : ∀ g l, (g, l) ∈ tabs → G g := fun g l hm => hG g ((in_lor _ _ _).2 (.inl ((in_lor _ _ _).2 (.inl (q5 g l hm)))))
  have hGo : ∀ p ∈ M.objs, G p.1 := fun p hp => hG p.1 ((in_lor _ _ _).2 (.inl ((in_lor _ _ _).2 (.inr (idsO_in (o := p.2) hp)))))
  have hGn : ∀ j, s.c ≤ j → j < M.c1 + d → G j := fun j h1 h2 => hG j ((in_lor _ _ _).2 (.inr ((in_lor _ _ _).2 (.inr (hmk j h1 h2)))))
  have htab := tabsIn_ok hs ht hGt
  have hlive := tabsIn_live hs ht hGt
  -- the run's own state
  have eT : ∀ i, i < M.c0 → memE E M.c0 M.c1 i = E i := fun i hi => by
    simp only [memE, psi]; rw [if_neg (by omega), if_pos hi]
  have eM : ∀ i, M.c1 ≤ i → memE E M.c0 M.c1 i = E (i - M.c1 + M.c0) := fun i hi => by
    simp only [memE, psi]; rw [if_neg (by omega), if_neg (by omega)]
  have eN : ∀ i, M.c0 ≤ i → i < M.c1 → memE E M.c0 M.c1 i = .unborn := fun i h1 h2 => by simp only [memE]; rw [if_pos ⟨h1, h2⟩]
  have hsT : Sat (fun i => i < M.c1) B (memE E M.c0 M.c1) (tmplSt tabs M.c0 M.objs M.fs) w := by
    refine ⟨?_, ?_, hs.base, fun g hg => by rw [eT g (by omega)]; exact hs.glob g hg, fun i hi hg => eN i hi hg, ?_, orcI_ok (instFs_ok (ρ' := E.ρ) hs.orc (fun k _ => rfl) hfs), fun b hb => ⟨(hs.prot b hb).1, (hs.prot b hb).2.1, fun j C hj => let ⟨i', hi'⟩ := memE_live hj; (hs.prot b hb).2.2 i' C hi'⟩, fun d hd => absurd hd List.not_mem_nil⟩
    · intro i j b X Y hb hi hj
      have key : ∀ i b X, memE E M.c0 M.c1 i = .live b X → (i < M.c0 ∧ E i = .live b X) ∨ (M.c1 ≤ i ∧ E (i - M.c1 + M.c0) = .live b X) := by
        intro i b X hi
        by_cases h1 : i < M.c0
        · rw [eT i h1] at hi; exact .inl ⟨h1, hi⟩
        · by_cases h2 : i < M.c1
          · rw [eN i (by omega) h2] at hi; cases hi
          · rw [eM i (by omega)] at hi; exact .inr ⟨by omega, hi⟩
      rcases key i b X hi with ⟨a1, a2⟩ | ⟨a1, a2⟩ <;> rcases key j b Y hj with ⟨b1, b2⟩ | ⟨b1, b2⟩
      · exact hs.inj i j b X Y hb a2 b2
      · have := hs.inj _ _ b X Y hb a2 b2; omega
      · have := hs.inj _ _ b X Y hb a2 b2; omega
      · have := hs.inj _ _ b X Y hb a2 b2; omega
    · intro i b X hi
      by_cases h1 : i < M.c0
      · rw [eT i h1] at hi; exact hs.lt _ _ _ hi
      · by_cases h2 : i < M.c1
        · rw [eN i (by omega) h2] at hi; cases hi
        · rw [eM i (by omega)] at hi; exact hs.lt _ _ _ hi
    · intro i o _ ho
      rcases putsL_some (show (putsL (initH tabs) M.objs).get i = some o from ho) with hm | ⟨_, hm⟩
      · obtain ⟨_, a2, y, a3, a4⟩ := hob _ hm
        obtain ⟨b, C, ob, b1, b2, b3, b4⟩ := hs.fact i y (hGo _ hm) a3
        have e := eT i a2
        refine ⟨b, C, ob, e.trans b1, b2, ?_, ?_⟩
        · refine sameX_at (fun j hj => eT j hj) (fun j hj => ?_) rfl e a4 b3
          simp only [memE, psi]; rw [if_pos hj]
        · rcases b4 with b4 | b4
          · left; rw [sameX_fix a4]; exact b4
          · exact .inr b4
      · obtain ⟨vs, hm2, rfl⟩ := initH_get hm
        obtain ⟨hl, c', e, f', hh, hr⟩ := htab _ _ hm2
        obtain ⟨C, hC⟩ := hlive i vs hm2
        exact ⟨i, C, _, by rw [eT i (by omega)]; exact hC, hh, ⟨c', e, f', rfl, hr _⟩, .inl rfl⟩
  have hoT : Sat (fun i => i < M.c1) B (memE E M.c0 M.c1) (tmplSt tabs M.c0 M.objs M.fs) w := hsT
  have haT : RelL (memE E M.c0 M.c1) M.args args'.toList := likeL_ok (idS_env (fun j hj => eT j hj)) rfl hargs ha
  obtain ⟨hst1, hcall1⟩ := (ev_ok hmix hctr (names_of hnames) n).call hs1
  have hw1 : ∀ j, In s1.w j → j < M.c1 := fun j hj => shr_out k7 (hst1.wl (fun j hj => absurd hj (not_in_zero j)) j hj)
  obtain ⟨hent, hcalls⟩ := hcall1 (fun j hj => shr_out k7 hj) hoT haT
  refine ⟨hent, hcalls.mono fun e w' he => ?_⟩
  obtain ⟨E1, v1, rfl, hv1, hs', hx⟩ := he
  have hρ1 : E1.ρ = E.ρ := hx.le.ρ
  let E' := memE' E E1 M.c0 M.c1 s.c d
  have eV : ∀ i, E' i = E1 (phi M.c0 M.c1 s.c d i) := fun i => rfl
  have eS : ∀ i, E'.st i = E1.st (phi M.c0 M.c1 s.c d i) := fun i => rfl
  have e1hi : ∀ i, M.c1 ≤ i → E1 i = E (i - M.c1 + M.c0) := fun i hi => by rw [hx.keep i (fun hin => by have := hw1 i hin; omega)]; exact eM i hi
  have hEf : ∀ i, s.c ≤ i → i < M.c1 + d → E i = .unborn := fun i h1 h2 => hs.fresh i h1 (hGn i h1 h2)
  have eOut : ∀ i, ¬ i < M.c0 → ¬ (s.c ≤ i ∧ i < M.c1 + d) → E' i = E i := fun i h1 h2 => by
    rw [eV, phi_out h1 h2, e1hi _ (by omega)]
    congr 1
    omega
  have eLo : ∀ i, i < M.c0 → E' i = E1 i := fun i h1 => by rw [eV, phi_lo h1]
  have eKeep : ∀ i, i < M.c0 → ¬ In (oldIds M.c0 M.puts) i → ¬ In s1.w i := fun i h1 h2 hin => h2 (lowIn k6 h1 hin)
  have hle : E.le E' := by
    refine ⟨fun i => ?_, rfl, fun t htd => ?_, rfl, hx.le.K, hx.le.hp⟩
    · by_cases h1 : i < M.c0
      · rw [eLo i h1, ← eT i h1]; exact hx.le i
      · by_cases h2 : s.c ≤ i ∧ i < M.c1 + d
        · rw [hEf i h2.1 h2.2]; trivial
        · rw [eOut i h1 h2]; exact Slot.le_refl _
    · by_cases h1 : t < M.c0
      · rw [eS, phi_lo h1, hx.le.st t (by rw [eT t h1]; exact htd)]
        simp only [memE, psi]; rw [if_pos h1]
      · by_cases h2 : s.c ≤ t ∧ t < M.c1 + d
        · rw [hEf t h2.1 h2.2] at htd; cases htd
        · have e3 : psi M.c0 M.c1 (M.c1 + (t - M.c0)) = t := by unfold psi; rw [if_neg (by omega)]; omega
          rw [eS, phi_out h1 h2, hx.le.st _ (by rw [eM _ (by omega), show M.c1 + (t - M.c0) - M.c1 + M.c0 = t by omega]; exact htd)]
          simp only [memE]; rw [e3]
  -- the run's env below c1
  have cE : ∀ i, i < M.c1 → cutE E1 M.c1 i = E1 i := fun i hi => by simp only [cutE]; rw [if_pos hi]
  have cN : ∀ i, cutE E1 M.c1 i ≠ .unborn → i < M.c1 := fun i hi => by
    rcases Nat.lt_or_ge i M.c1 with h | h
    · exact h
    · exfalso; apply hi; simp only [cutE]; rw [if_neg (by omega)]
  have hid : ∀ i, cutE E1 M.c1 i ≠ .unborn → E' (shI M.c0 d i) = cutE E1 M.c1 i := fun i hi => by
    rw [eV, phi_sh hsc (cN i hi), cE i (cN i hi)]
  have hidst : ∀ i, cutE E1 M.c1 i ≠ .unborn → E'.st (shI M.c0 d i) = (cutE E1 M.c1).st i := fun i hi => by
    rw [eS, phi_sh hsc (cN i hi)]; rfl
  have hρ' : E'.ρ = (cutE E1 M.c1).ρ := hρ1.symm
  -- what is not laid is as it was
  have hold : ∀ i b C, ¬ In (Nat.lor (oldIds M.c0 M.puts) (marksIn s.c (Nat.add M.c1 d))) i → E i = .live b C → w'.heap[b]? = w.heap[b]? := by
    intro i b C hni hi
    have hn1 : ¬ In (oldIds M.c0 M.puts) i := fun h => hni ((in_lor _ _ _).2 (.inl h))
    by_cases h1 : i < M.c0
    · exact hx.block i b C (eKeep i h1 hn1) (by rw [eT i h1]; exact hi)
    · have h2 : ¬ (s.c ≤ i ∧ i < M.c1 + d) := fun h => hni ((in_lor _ _ _).2 (.inr (hmk i h.1 h.2)))
      exact hx.block (M.c1 + (i - M.c0)) b C (fun hin => by have := hw1 _ hin; omega) (by rw [eM _ (by omega), show M.c1 + (i - M.c0) - M.c1 + M.c0 = i by omega]; exact hi)
  have hkeep : ∀ i, ¬ In (Nat.lor (oldIds M.c0 M.puts) (marksIn s.c (Nat.add M.c1 d))) i → E' i = E i := by
    intro i hni
    have hn1 : ¬ In (oldIds M.c0 M.puts) i := fun h => hni ((in_lor _ _ _).2 (.inl h))
    by_cases h1 : i < M.c0
    · rw [eLo i h1, hx.keep i (eKeep i h1 hn1), eT i h1]
    · exact eOut i h1 fun h => hni ((in_lor _ _ _).2 (.inr (hmk i h.1 h.2)))
  refine ⟨E', v1, rfl, ?_, ⟨?_, ?_, hs'.base, fun g hg => ?_, ?_, ?_, hs.orc, fun b hb => ⟨(hs'.prot b hb).1, (hs'.prot b hb).2.1, fun j C hj => (hs'.prot b hb).2.2 _ C hj⟩, hs.defs⟩, ⟨hle, ?_, ?_, hx.below, fun b hb hn => hx.free b hb fun j C hj => let ⟨i', hi'⟩ := memE_live hj; hn i' C hi', fun j b C hj => ?_, hx.kn⟩⟩
  · exact shV_ok hid hρ' 40 _ _ _ hv (likeV_ok (E' := E1) (F := cutE E1 M.c1) (idS_env cE) rfl 40 _ _ _ k4 hv1)
  · intro i j b X Y hb hi hj
    exact phi_inj k2 hsc (hs'.inj _ _ b X Y hb hi hj)
  · intro i b C hi
    exact hs'.lt _ b C hi
  · rw [eLo g (by omega)]; exact hs'.glob g hg
  · intro i hi hg
    have hi' : M.c1 + d ≤ i := hi
    rw [eOut i (by omega) (by omega)]
    exact hs.fresh i (by omega) hg
  · intro i o hg ho
    rcases putAll_some (show (putAll s.h ps).get i = some o from ho) with ⟨k, hk⟩ | ⟨hne, h1⟩
    · obtain ⟨q, hq, e1, e2⟩ := g1 _ (List.mem_of_getElem? hk)
      obtain ⟨o0, e3, e4⟩ := e2 o rfl
      obtain ⟨hlt, y, h3, h4⟩ := (hput q hq).1 o0 e3
      obtain ⟨b, C, ob, h5, h6, h7, h8⟩ := hs'.fact q.1 y hlt h3
      have e1 : i = shI M.c0 d q.1 := e1
      have hi : E' i = E1 q.1 := by rw [eV, e1, phi_sh hsc hlt]
      refine ⟨b, C, ob, hi.trans h5, h6, ?_, ?_⟩
      · have h9 : OkObj (cutE E1 M.c1) q.1 o0 ob := sameX_at cE (fun j hj => rfl) rfl (cE q.1 hlt) h4 h7
        rw [e1]
        exact shO_ok hid hidst hρ' e4 (by rw [← e1, hi, cE q.1 hlt]) h9
      · rcases h8 with h8 | h8
        · rw [← sameX_fix h4, shO_fix e4] at h8; cases h8
        · exact .inr h8
    · obtain ⟨b, C, ob, h5, h6, h7, h8⟩ := hs.fact i o hg h1
      have hni : ¬ In (Nat.lor (oldIds M.c0 M.puts) (marksIn s.c (Nat.add M.c1 d))) i := by
        intro hin
        rcases (in_lor _ _ _).1 hin with h | h
        · obtain ⟨h9, o', ho'⟩ := oldIds_in.1 h
          obtain ⟨p, hp, e⟩ := g2 _ ho'
          refine hne p hp ?_
          rw [e, shI_eq, if_pos h9]
        · have := marksIn_out (show s.c ≤ Nat.add M.c1 d by show s.c ≤ M.c1 + d; omega) h
          have h10 : s.c ≤ i := this.1
          have h11 : i < M.c1 + d := this.2
          rw [hEf i h10 h11] at h5; cases h5
      exact ⟨b, C, ob, (hkeep i hni).trans h5, (hold i b C hni h5).trans h6, h7.mono hle (fun b' C' he => (hkeep i hni).trans he), h8⟩
  · intro j hj
    exact hkeep j fun h => hj ((in_lor _ _ _).2 (.inr h))
  · intro j b C hj he
    exact hold j b C (fun h => hj ((in_lor _ _ _).2 (.inr h))) he
  · rcases hx.liv _ b C hj with ⟨i, X, hi⟩ | h1 | h1
    · exact .inl ((memE_live hi).imp fun _ h => ⟨X, h⟩)
    · exact .inr (.inl h1)
    · exact .inr (.inr h1)
end Ev
end Go.Proofs.YtnjpdipombnigaaGreatDoor
namespace Go.Proofs.YtnjpdipombnigaaGreatDoor
namespace Ev
open Go.RowKit

noncomputable def memAny (tabs : List (Nat × List AV)) (args : List AV) (s : St) : List Memo → R
  | [] => none
  | M :: r => match memA tabs M args s with
    | some x => some x
    | none => memAny tabs args s r
theorem memAny_some {tabs : List (Nat × List AV)} {args : List AV} {s : St} {x : AV × St} : ∀ {l : List Memo}, memAny tabs args s l = some x → ∃ M ∈ l, memA tabs M args s = some x
  | [], h => by cases h
  | M :: r, h => by
    unfold memAny at h
    split at h
    · rename_i y hy
      cases h
      exact ⟨M, List.mem_cons_self .., hy⟩
    · obtain ⟨M', h1, h2⟩ := memAny_some h
      exact ⟨M', List.mem_cons_of_mem _ h1, h2⟩
theorem mems_ok {P : Program} [IsProg P] {tabs : List (Nat × List AV)} {ctr : Ctr} (hctr : CtrOk P ctr) (hmix : P.follows .mixedOrders = true) (hnames : (P.funcs.toList.all fun fn => fn.name != "runtime.NumGoroutine") = true) {n : Nat} {f : FuncId} {l : List Memo}
    (hrun : ∀ M ∈ l, memChk M ((ev P ctr n).call f M.args (tmplSt tabs M.c0 M.objs M.fs)) = true) : ∀ {args : List AV} {s : St} {v : AV} {s' : St}, memAny tabs args s l = some (v, s') → Step s s' ∧ ∀ {G : Nat → Prop} {B : Nat} {E : Env} {w : World} {args' : Array Value}, (∀ j, In s'.l j → G j) → Sat G B E s w → RelL E args args'.toList →
      CallRes P f args' w (RetOk G B s' v E w) := by
  intro args s v s' h
  obtain ⟨M, h1, h2⟩ := memAny_some h
  exact mem_ok hctr hmix hnames (hrun M h1) h2
end Ev
end Go.Proofs.YtnjpdipombnigaaGreatDoor
namespace Go.Proofs.YtnjpdipombnigaaGreatDoor
namespace Ev
open Go.RowKit

structure MemoR where
  c0 : Nat
  args : List AV
  objs : List (Nat × AObj)
  fs : List Fact
  c1 : Nat
  v : AV
  puts : List (Nat × Option AObj)
  ps : Prs
noncomputable def rOk (c0 c1 k : Nat) : Prs → Bool
  | [] => true
  | p :: r => Nat.ble c0 p.1 && (Nat.blt p.1 c1 && (Nat.ble c0 p.2 && (Nat.blt p.2 k && rOk c0 c1 k r)))
noncomputable def imgR (c0 : Nat) (ps : Prs) (i : Nat) : Option Nat := bi (Nat.blt i c0) (some i) (lookP i ps)
noncomputable def entsR (c : Nat) (ps : Prs) : List Ent → List Ent → Bool
  | [], [] => true
  | x :: l, y :: m => likeV c ps (nat_lit 40) x.key y.key && (likeV c ps (nat_lit 40) x.val y.val && (Nat.beq x.born y.born && entsR c ps l m))
  | _, _ => false
noncomputable def sameR (c : Nat) (ps : Prs) (x y : AObj) : Bool := match x, y with
  | .umap a n t, .umap b k u => Nat.beq n k && (idS c ps t u && entsR c ps a b)
  | .map a n, .map b k => Nat.beq n k && entsR c ps a b
  | .cells a e f p, .cells b e' f' p' => likeO c ps (.cells a e f p) (.cells b e' f' p')
  | .part a, .part b => likeO c ps (.part a) (.part b)
  | _, _ => false
noncomputable def sameRAt (c : Nat) (ps : Prs) (x : AObj) (o : Option AObj) : Bool := match o with
  | some y => sameR c ps x y
  | none => false
noncomputable def putsR (c0 c1 : Nat) (ps : Prs) (objs : List (Nat × AObj)) (h : T AObj) : List (Nat × Option AObj) → Bool
  | [] => true
  | p :: r => (match p.2 with
    | some o => Nat.blt p.1 c1 && ((match imgR c0 ps p.1 with
      | some j => sameRAt c0 ps o (h.get j)
      | none => false) && (Nat.ble c0 p.1 || hasId p.1 objs))
    | none => Nat.blt p.1 c0 && hasId p.1 objs) && putsR c0 c1 ps objs h r
noncomputable def memChkR (M : MemoR) (x : R) : Bool := match x with
  | some (u, s1) => Nat.ble M.c0 M.c1 && (Nat.ble M.c0 s1.c && (Nat.ble (nat_lit 64) M.c0 && (rOk M.c0 M.c1 s1.c M.ps && (onceQ M.ps && (likeV M.c0 M.ps (nat_lit 40) M.v u && (putsR M.c0 M.c1 M.ps M.objs s1.h M.puts && (Nat.beq (Nat.lor (low M.c0 s1.w) (oldIds M.c0 M.puts)) (oldIds M.c0 M.puts) && Nat.beq (Nat.shiftRight s1.l s1.c) (nat_lit 0))))))))
  | none => false
noncomputable def MemoR.memo (M : MemoR) : Memo := ⟨M.c0, M.args, M.objs, M.fs, M.c1, M.v, M.puts⟩

theorem rOk_mem {c0 c1 k : Nat} : ∀ {ps : Prs}, rOk c0 c1 k ps = true → ∀ p ∈ ps, c0 ≤ p.1 ∧ p.1 < c1 ∧ c0 ≤ p.2 ∧ p.2 < k
  | [], _, p, hp => by cases hp
  | q :: r, h, p, hp => by
    simp only [rOk, Bool.and_eq_true] at h
    obtain ⟨h1, h2, h3, h4, h5⟩ := h
    rcases List.mem_cons.1 hp with rfl | hp
    · exact ⟨by simpa using h1, by simpa using h2, by simpa using h3, by simpa using h4⟩
    · exact rOk_mem h5 p hp
theorem imgR_lo {c0 i : Nat} {ps : Prs} (h : i < c0) : imgR c0 ps i = some i := by
  show bi (Nat.blt i c0) _ _ = _
  rw [bi_blt, if_pos h]
theorem imgR_hi {c0 i : Nat} {ps : Prs} (h : ¬ i < c0) : imgR c0 ps i = lookP i ps := by
  show bi (Nat.blt i c0) _ _ = _
  rw [bi_blt, if_neg h]
theorem idS_imgR {c i j : Nat} {ps : Prs} (h : idS c ps i j = true) : imgR c ps i = some j := by
  have := idS_img h
  by_cases hi : i < c
  · rw [imgR_lo hi]; rw [if_pos hi] at this; exact this
  · rw [imgR_hi hi]; rw [if_neg hi] at this; exact this
section
variable {E F : Env} {c : Nat} {ps : Prs}
theorem entsR_at (hid : ∀ i j, idS c ps i j = true → F i = E j) (hρ : F.ρ = E.ρ) : ∀ {a b : List Ent} {zs : List MapEntry}, entsR c ps a b = true → RelE E b zs → RelE F a zs
  | [], [], _, _, .nil => .nil
  | _ :: _, _ :: _, _, h, .cons h1 h2 h3 t => by
    simp only [entsR, Bool.and_eq_true] at h
    exact .cons (likeV_ok hid hρ 40 _ _ _ h.1 h1) (likeV_ok hid hρ 40 _ _ _ h.2.1 h2) ((Nat.eq_of_beq_eq_true h.2.2.1).trans h3) (entsR_at hid hρ h.2.2.2 t)
  | [], _ :: _, _, h, _ => by cases h
  | _ :: _, [], _, h, _ => by cases h
theorem entsR_S (hid : ∀ i j, idS c ps i j = true → F i = E j) (hρ : F.ρ = E.ρ) {S : Stamps} : ∀ {a b : List Ent} {zs : List MapEntry}, entsR c ps a b = true → RelS E S b zs → RelS F S a zs
  | [], [], _, _, .nil => .nil
  | _ :: _, _ :: _, _, h, .cons h1 h2 h3 t => by
    simp only [entsR, Bool.and_eq_true] at h
    exact .cons (likeV_ok hid hρ 40 _ _ _ h.1 h1) (likeV_ok hid hρ 40 _ _ _ h.2.1 h2) (by rw [Nat.eq_of_beq_eq_true h.2.2.1]; exact h3) (entsR_S hid hρ h.2.2.2 t)
  | [], _ :: _, _, h, _ => by cases h
  | _ :: _, [], _, h, _ => by cases h
theorem entsR_borns : ∀ {a b : List Ent}, entsR c ps a b = true → a.map Ent.born = b.map Ent.born
  | [], [], _ => rfl
  | x :: l, y :: m, h => by
    simp only [entsR, Bool.and_eq_true] at h
    rw [List.map_cons, List.map_cons, Nat.eq_of_beq_eq_true h.2.2.1, entsR_borns h.2.2.2]
  | [], _ :: _, h => by cases h
  | _ :: _, [], h => by cases h
theorem sameR_at (hid : ∀ i j, idS c ps i j = true → F i = E j) (hst : ∀ i j, idS c ps i j = true → F.st i = E.st j) (hρ : F.ρ = E.ρ) {i j : Nat} {x y : AObj} {ob : Obj} (hi : F i = E j) (h : sameR c ps x y = true) (hok : OkObj E j y ob) : OkObj F i x ob := by
  unfold sameR at h
  split at h
  · rename_i a n t b k u
    simp only [Bool.and_eq_true] at h
    obtain ⟨h1, h2, h3⟩ := h
    obtain rfl := Nat.eq_of_beq_eq_true h1
    obtain ⟨arr, rfl, hm⟩ := hok
    have hb := entsR_borns h3
    obtain ⟨l, hp, hr⟩ := hm.rel
    refine ⟨arr, by rw [hst t u h2], ⟨by rw [hid t u h2]; exact hm.tag, by rw [hst t u h2]; exact hm.le, fun e he => ?_, by rw [hb]; exact hm.once, l, hp, by rw [hst t u h2]; exact entsR_S hid hρ h3 hr⟩⟩
    have : e.born ∈ b.map Ent.born := by rw [← hb]; exact List.mem_map.2 ⟨e, he, rfl⟩
    obtain ⟨e', he', hbe⟩ := List.mem_map.1 this
    rw [← hbe]; exact hm.lt e' he'
  · rw [Bool.and_eq_true] at h
    obtain ⟨a, rfl, hr⟩ := hok
    exact ⟨a, by rw [Nat.eq_of_beq_eq_true h.1], entsR_at hid hρ h.2 hr⟩
  · exact likeObj_ok hid hρ hi h (fun _ _ _ e => by cases e) hok
  · exact likeObj_ok hid hρ hi h (fun _ _ _ e => by cases e) hok
  · cases h
end
theorem sameR_fix {c : Nat} {ps : Prs} {x y : AObj} (h : sameR c ps x y = true) : y.fixed = false := by
  unfold sameR at h
  split at h <;> first | rfl | (cases h)
theorem putsR_ok {c0 c1 : Nat} {ps : Prs} {objs : List (Nat × AObj)} {h : T AObj} : ∀ {l : List (Nat × Option AObj)}, putsR c0 c1 ps objs h l = true → ∀ p ∈ l, (∀ o, p.2 = some o → p.1 < c1 ∧ ∃ j y, imgR c0 ps p.1 = some j ∧ h.get j = some y ∧ sameR c0 ps o y = true) ∧ (p.2 = none → p.1 < c0) ∧ (p.1 < c0 → ∃ o, (p.1, o) ∈ objs)
  | [], _, p, hm => by cases hm
  | q :: r, hl, p, hm => by
    simp only [putsR, Bool.and_eq_true] at hl
    rcases List.mem_cons.1 hm with rfl | hm
    · have h1 := hl.1
      split at h1
      · rename_i o ho
        simp only [Bool.and_eq_true, Bool.or_eq_true] at h1
        obtain ⟨k1, k2, k3⟩ := h1
        refine ⟨fun o' ho' => ?_, fun hn => (by rw [ho] at hn; cases hn), fun hlt => ?_⟩
        · rw [ho] at ho'
          cases ho'
          refine ⟨by simpa using k1, ?_⟩
          split at k2
          · rename_i j hj
            unfold sameRAt at k2
            split at k2
            · rename_i y hy
              exact ⟨j, y, hj, hy, k2⟩
            · cases k2
          · cases k2
        · rcases k3 with k3 | k3
          · have k3 : c0 ≤ p.1 := by simpa using k3
            omega
          · exact hasId_ok k3
      · rename_i hn
        rw [Bool.and_eq_true] at h1
        exact ⟨fun o ho => (by rw [hn] at ho; cases ho), fun _ => (by simpa using h1.1), fun _ => hasId_ok h1.2⟩
    · exact putsR_ok hl.2 p hm
/-- What a new id stands for, in the run. -/
noncomputable def phiR (c0 c1 k sc d : Nat) (ps : Prs) (i : Nat) : Option Nat := if i < c0 then some i else if sc ≤ i ∧ i < c1 + d then lookP (i - d) ps else some (k + (i - c0))
def sltR (E1 : Env) (x : Option Nat) : Slot := match x with
  | some j => E1 j
  | none => .unborn
def stR (E1 : Env) (x : Option Nat) (t : Nat) : Stamps := match x with
  | some j => E1.st j
  | none => E1.st t
noncomputable def memER (E E1 : Env) (c0 c1 k sc d : Nat) (ps : Prs) : Env := ⟨fun i => sltR E1 (phiR c0 c1 k sc d ps i), E.ρ, fun t => stR E1 (phiR c0 c1 k sc d ps t) t, E.δ, E1.K, E1.hp⟩
noncomputable def cutR (E1 : Env) (c0 : Nat) (ps : Prs) : Env := ⟨fun i => sltR E1 (imgR c0 ps i), E1.ρ, fun t => stR E1 (imgR c0 ps t) t, E1.δ, E1.K, E1.hp⟩
theorem phiR_inj {c0 c1 k sc d : Nat} {ps : Prs} (h1 : c0 ≤ k) (hsc : sc = c0 + d) (hp : ∀ p ∈ ps, c0 ≤ p.1 ∧ p.1 < c1 ∧ c0 ≤ p.2 ∧ p.2 < k) (hq : onceQ ps = true) {i j a : Nat} (hi : phiR c0 c1 k sc d ps i = some a) (hj : phiR c0 c1 k sc d ps j = some a) : i = j := by
  have key : ∀ i, phiR c0 c1 k sc d ps i = some a → (i < c0 ∧ a = i) ∨ (¬ i < c0 ∧ (sc ≤ i ∧ i < c1 + d) ∧ lookP (i - d) ps = some a ∧ c0 ≤ a ∧ a < k) ∨ (¬ i < c0 ∧ a = k + (i - c0)) := by
    intro i h
    unfold phiR at h
    by_cases a0 : i < c0
    · rw [if_pos a0] at h; exact .inl ⟨a0, (Option.some.inj h).symm⟩
    · rw [if_neg a0] at h
      by_cases a1 : sc ≤ i ∧ i < c1 + d
      · rw [if_pos a1] at h
        obtain ⟨_, _, h3, h4⟩ := hp _ (lookP_mem h)
        exact .inr (.inl ⟨a0, a1, h, h3, h4⟩)
      · rw [if_neg a1] at h; exact .inr (.inr ⟨a0, (Option.some.inj h).symm⟩)
  rcases key i hi with ⟨a0, a1⟩ | ⟨a0, a1, a2, a3, a4⟩ | ⟨a0, a1⟩ <;> rcases key j hj with ⟨b0, b1⟩ | ⟨b0, b1, b2, b3, b4⟩ | ⟨b0, b1⟩
  · omega
  · omega
  · omega
  · omega
  · have := onceQ_inj hq a2 b2; omega
  · omega
  · omega
  · omega
  · omega
theorem memR_ok {P : Program} [IsProg P] {tabs : List (Nat × List AV)} {ctr : Ctr} (hctr : CtrOk P ctr) (hmix : P.follows .mixedOrders = true) (hnames : (P.funcs.toList.all fun fn => fn.name != "runtime.NumGoroutine") = true) {n : Nat} {f : FuncId} {M : MemoR}
    (hrun : memChkR M ((ev P ctr n).call f M.args (tmplSt tabs M.c0 M.objs M.fs)) = true) : ∀ {args : List AV} {s : St} {v : AV} {s' : St}, memA tabs M.memo args s = some (v, s') → Step s s' ∧ ∀ {G : Nat → Prop} {B : Nat} {E : Env} {w : World} {args' : Array Value}, (∀ j, In s'.l j → G j) → Sat G B E s w → RelL E args args'.toList →
      CallRes P f args' w (RetOk G B s' v E w) := by
  intro args s v s' h
  unfold memChkR at hrun
  split at hrun
  case h_2 => cases hrun
  rename_i u s1 hs1
  simp only [Bool.and_eq_true] at hrun
  obtain ⟨k2, k1, k3, kr, kq, k4, k5, k6, k7⟩ := hrun
  have k1 : M.c0 ≤ s1.c := by simpa using k1
  have k2 : M.c0 ≤ M.c1 := by simpa using k2
  have kp := rOk_mem kr
  have k3 : 64 ≤ M.c0 := by simpa using k3
  have k6 := Nat.eq_of_beq_eq_true k6
  have k7 := Nat.eq_of_beq_eq_true k7
  have hput := putsR_ok k5
  obtain ⟨hc, h⟩ := bc_some h
  obtain ⟨hargs, h⟩ := bc_some h
  obtain ⟨ht, h⟩ := bc_some h
  obtain ⟨hob, h⟩ := bc_some h
  obtain ⟨hfs, h⟩ := bc_some h
  rw [force_eq] at h
  obtain ⟨v', hv, h⟩ := oc_some h
  obtain ⟨ps, hps, h⟩ := oc_some h
  have hc : Nat.ble M.c0 s.c = true := hc
  have hargs : likeL M.c0 [] M.args args = true := hargs
  have hob : objsAt M.c0 s.h M.objs = true := hob
  have hfs : instFs s.o [] M.fs = true := hfs
  have hv : shV M.c0 (Nat.sub s.c M.c0) 40 M.v = some v' := hv
  have hps : shPuts M.c0 (Nat.sub s.c M.c0) M.puts = some ps := hps
  rw [force_eq] at h
  have h := Option.some.inj h
  obtain ⟨rfl, rfl⟩ := Prod.mk.inj h
  have hc : M.c0 ≤ s.c := by simpa using hc
  obtain ⟨d, hd⟩ : ∃ d, d = Nat.sub s.c M.c0 := ⟨_, rfl⟩
  simp only [MemoR.memo]
  rw [← hd] at hv hps ⊢
  have hsc : s.c = M.c0 + d := by have : d = s.c - M.c0 := hd; omega
  have hob := objsAt_ok hob
  obtain ⟨g1, g2⟩ := shPuts_ok hps
  obtain ⟨q1, q2, q3, q4, q5⟩ := seeAll_step tabs s
  have hmk : ∀ j, s.c ≤ j → j < M.c1 + d → In (marksIn s.c (Nat.add M.c1 d)) j := fun j h1 h2 => marksIn_in h1 h2
  have hcase : ∀ p ∈ ps, In (Nat.lor (oldIds M.c0 M.puts) (marksIn s.c (Nat.add M.c1 d))) p.1 := by
    intro p hp
    obtain ⟨q, hq, e, _⟩ := g1 p hp
    have hlt : q.1 < M.c1 := by
      rcases hq2 : q.2 with _ | o
      · have := (hput q hq).2.1 hq2; omega
      · exact ((hput q hq).1 o hq2).1
    rcases sh_new (c0 := M.c0) (c1 := M.c1) (sc := s.c) (d := d) hsc hlt with h1 | h1
    · have hq0 : q.1 < M.c0 := by
        have e2 : shI M.c0 d q.1 = if q.1 < M.c0 then q.1 else q.1 + d := by
          show bi (Nat.blt q.1 M.c0) q.1 (Nat.add q.1 d) = _
          rw [bi_blt]; rfl
        rw [e2] at h1
        split at h1 <;> omega
      have e2 : shI M.c0 d q.1 = q.1 := by
        show bi (Nat.blt q.1 M.c0) q.1 (Nat.add q.1 d) = _
        rw [bi_blt, if_pos hq0]
      rw [e, e2]
      exact (in_lor _ _ _).2 (.inl (oldIds_in.2 ⟨hq0, q.2, hq⟩))
    · rw [e]
      exact (in_lor _ _ _).2 (.inr (hmk _ h1.1 h1.2))
  have hstep : Step s ⟨Nat.add M.c1 d, putAll s.h ps, Nat.lor (Nat.lor (seeAll s tabs).l (idsO M.objs)) (Nat.lor (oldIds M.c0 M.puts) (marksIn s.c (Nat.add M.c1 d))), Nat.lor s.w (Nat.lor (oldIds M.c0 M.puts) (marksIn s.c (Nat.add M.c1 d))), s.o⟩ := by
    refine ⟨fun j hj => (in_lor _ _ _).2 (.inl ((in_lor _ _ _).2 (.inl (q1.l j hj)))), fun j hj => (in_lor _ _ _).2 (.inl hj), fun hwl j hj => ?_, fun j hj => ?_, rfl⟩
    · rcases (in_lor _ _ _).1 hj with h | h
      · exact (in_lor _ _ _).2 (.inl ((in_lor _ _ _).2 (.inl (q1.l j (hwl j h)))))
      · exact (in_lor _ _ _).2 (.inr h)
    · exact putAll_ne fun p hp e => hj ((in_lor _ _ _).2 (.inr (by rw [← e]; exact hcase p hp)))
  refine ⟨hstep, fun {G B E w args'} hG hs ha => ?_⟩
  have hGt : ∀ g l, (g, l) ∈ tabs → G g := fun g l hm => hG g ((in_lor _ _ _).2 (.inl ((in_lor _ _ _).2 (.inl (q5 g l hm)))))
  have hGo : ∀ p ∈ M.objs, G p.1 := fun p hp => hG p.1 ((in_lor _ _ _).2 (.inl ((in_lor _ _ _).2 (.inr (idsO_in (o := p.2) hp)))))
  have hGn : ∀ j, s.c ≤ j → j < M.c1 + d → G j := fun j h1 h2 => hG j ((in_lor _ _ _).2 (.inr ((in_lor _ _ _).2 (.inr (hmk j h1 h2)))))
  have htab := tabsIn_ok hs ht hGt
  have hlive := tabsIn_live hs ht hGt
  -- the run's own state
  have eT : ∀ i, i < M.c0 → memE E M.c0 s1.c i = E i := fun i hi => by
    simp only [memE, psi]; rw [if_neg (by omega), if_pos hi]
  have eM : ∀ i, s1.c ≤ i → memE E M.c0 s1.c i = E (i - s1.c + M.c0) := fun i hi => by
    simp only [memE, psi]; rw [if_neg (by omega), if_neg (by omega)]
  have eN : ∀ i, M.c0 ≤ i → i < s1.c → memE E M.c0 s1.c i = .unborn := fun i h1 h2 => by simp only [memE]; rw [if_pos ⟨h1, h2⟩]
  have hsT : Sat (fun i => i < s1.c) B (memE E M.c0 s1.c) (tmplSt tabs M.c0 M.objs M.fs) w := by
    refine ⟨?_, ?_, hs.base, fun g hg => by rw [eT g (by omega)]; exact hs.glob g hg, fun i hi hg => eN i hi hg, ?_, orcI_ok (instFs_ok (ρ' := E.ρ) hs.orc (fun k _ => rfl) hfs), fun b hb => ⟨(hs.prot b hb).1, (hs.prot b hb).2.1, fun j C hj => let ⟨i', hi'⟩ := memE_live hj; (hs.prot b hb).2.2 i' C hi'⟩, fun d hd => absurd hd List.not_mem_nil⟩
    · intro i j b X Y hb hi hj
      have key : ∀ i b X, memE E M.c0 s1.c i = .live b X → (i < M.c0 ∧ E i = .live b X) ∨ (s1.c ≤ i ∧ E (i - s1.c + M.c0) = .live b X) := by
        intro i b X hi
        by_cases h1 : i < M.c0
        · rw [eT i h1] at hi; exact .inl ⟨h1, hi⟩
        · by_cases h2 : i < s1.c
          · rw [eN i (by omega) h2] at hi; cases hi
          · rw [eM i (by omega)] at hi; exact .inr ⟨by omega, hi⟩
      rcases key i b X hi with ⟨a1, a2⟩ | ⟨a1, a2⟩ <;> rcases key j b Y hj with ⟨b1, b2⟩ | ⟨b1, b2⟩
      · exact hs.inj i j b X Y hb a2 b2
      · have := hs.inj _ _ b X Y hb a2 b2; omega
      · have := hs.inj _ _ b X Y hb a2 b2; omega
      · have := hs.inj _ _ b X Y hb a2 b2; omega
    · intro i b X hi
      by_cases h1 : i < M.c0
      · rw [eT i h1] at hi; exact hs.lt _ _ _ hi
      · by_cases h2 : i < s1.c
        · rw [eN i (by omega) h2] at hi; cases hi
        · rw [eM i (by omega)] at hi; exact hs.lt _ _ _ hi
    · intro i o _ ho
      rcases putsL_some (show (putsL (initH tabs) M.objs).get i = some o from ho) with hm | ⟨_, hm⟩
      · obtain ⟨_, a2, y, a3, a4⟩ := hob _ hm
        obtain ⟨b, C, ob, b1, b2, b3, b4⟩ := hs.fact i y (hGo _ hm) a3
        have e := eT i a2
        refine ⟨b, C, ob, e.trans b1, b2, ?_, ?_⟩
        · refine sameX_at (fun j hj => eT j hj) (fun j hj => ?_) rfl e a4 b3
          simp only [memE, psi]; rw [if_pos hj]
        · rcases b4 with b4 | b4
          · left; rw [sameX_fix a4]; exact b4
          · exact .inr b4
      · obtain ⟨vs, hm2, rfl⟩ := initH_get hm
        obtain ⟨hl, c', e, f', hh, hr⟩ := htab _ _ hm2
        obtain ⟨C, hC⟩ := hlive i vs hm2
        exact ⟨i, C, _, by rw [eT i (by omega)]; exact hC, hh, ⟨c', e, f', rfl, hr _⟩, .inl rfl⟩
  have hoT : Sat (fun i => i < s1.c) B (memE E M.c0 s1.c) (tmplSt tabs M.c0 M.objs M.fs) w := hsT
  have haT : RelL (memE E M.c0 s1.c) M.args args'.toList := likeL_ok (idS_env (fun j hj => eT j hj)) rfl hargs ha
  obtain ⟨hst1, hcall1⟩ := (ev_ok hmix hctr (names_of hnames) n).call hs1
  have hw1 : ∀ j, In s1.w j → j < s1.c := fun j hj => shr_out k7 (hst1.wl (fun j hj => absurd hj (not_in_zero j)) j hj)
  obtain ⟨hent, hcalls⟩ := hcall1 (fun j hj => shr_out k7 hj) hoT haT
  refine ⟨hent, hcalls.mono fun e w' he => ?_⟩
  obtain ⟨E1, v1, rfl, hv1, hs', hx⟩ := he
  have hρ1 : E1.ρ = E.ρ := hx.le.ρ
  let E' := memER E E1 M.c0 M.c1 s1.c s.c d M.ps
  have eV : ∀ i, E' i = sltR E1 (phiR M.c0 M.c1 s1.c s.c d M.ps i) := fun i => rfl
  have eS : ∀ i, E'.st i = stR E1 (phiR M.c0 M.c1 s1.c s.c d M.ps i) i := fun i => rfl
  have pLo : ∀ i, i < M.c0 → phiR M.c0 M.c1 s1.c s.c d M.ps i = some i := fun i h => by unfold phiR; rw [if_pos h]
  have pNew : ∀ i, s.c ≤ i → i < M.c1 + d → phiR M.c0 M.c1 s1.c s.c d M.ps i = lookP (i - d) M.ps := fun i h h2 => by unfold phiR; rw [if_neg (by omega), if_pos ⟨h, h2⟩]
  have pOut : ∀ i, ¬ i < M.c0 → ¬ (s.c ≤ i ∧ i < M.c1 + d) → phiR M.c0 M.c1 s1.c s.c d M.ps i = some (s1.c + (i - M.c0)) := fun i h h2 => by unfold phiR; rw [if_neg h, if_neg h2]
  have e1hi : ∀ i, s1.c ≤ i → E1 i = E (i - s1.c + M.c0) := fun i hi => by rw [hx.keep i (fun hin => by have := hw1 i hin; omega)]; exact eM i hi
  have hEf : ∀ i, s.c ≤ i → i < M.c1 + d → E i = .unborn := fun i h1 h2 => hs.fresh i h1 (hGn i h1 h2)
  have eOut : ∀ i, ¬ i < M.c0 → ¬ (s.c ≤ i ∧ i < M.c1 + d) → E' i = E i := fun i h1 h2 => by
    rw [eV, pOut i h1 h2]
    show E1 (s1.c + (i - M.c0)) = E i
    rw [e1hi _ (by omega)]
    congr 1
    omega
  have eLo : ∀ i, i < M.c0 → E' i = E1 i := fun i h1 => by rw [eV, pLo i h1]; rfl
  have eKeep : ∀ i, i < M.c0 → ¬ In (oldIds M.c0 M.puts) i → ¬ In s1.w i := fun i h1 h2 hin => h2 (lowIn k6 h1 hin)
  have hle : E.le E' := by
    refine ⟨fun i => ?_, rfl, fun t htd => ?_, rfl, hx.le.K, hx.le.hp⟩
    · by_cases h1 : i < M.c0
      · rw [eLo i h1, ← eT i h1]; exact hx.le i
      · by_cases h2 : s.c ≤ i ∧ i < M.c1 + d
        · rw [hEf i h2.1 h2.2]; trivial
        · rw [eOut i h1 h2]; exact Slot.le_refl _
    · by_cases h1 : t < M.c0
      · rw [eS, pLo t h1]
        show E1.st t = E.st t
        rw [hx.le.st t (by rw [eT t h1]; exact htd)]
        simp only [memE, psi]; rw [if_pos h1]
      · by_cases h2 : s.c ≤ t ∧ t < M.c1 + d
        · rw [hEf t h2.1 h2.2] at htd; cases htd
        · have e3 : psi M.c0 s1.c (s1.c + (t - M.c0)) = t := by unfold psi; rw [if_neg (by omega)]; omega
          rw [eS, pOut t h1 h2]
          show E1.st (s1.c + (t - M.c0)) = E.st t
          rw [hx.le.st _ (by rw [eM _ (by omega), show s1.c + (t - M.c0) - s1.c + M.c0 = t by omega]; exact htd)]
          simp only [memE]; rw [e3]
  -- the run's env under the template's ids
  have cid : ∀ i j, idS M.c0 M.ps i j = true → cutR E1 M.c0 M.ps i = E1 j := fun i j h => by
    show sltR E1 (imgR M.c0 M.ps i) = E1 j
    rw [idS_imgR h]; rfl
  have cst : ∀ i j, idS M.c0 M.ps i j = true → (cutR E1 M.c0 M.ps).st i = E1.st j := fun i j h => by
    show stR E1 (imgR M.c0 M.ps i) i = E1.st j
    rw [idS_imgR h]; rfl
  have cP : ∀ i, cutR E1 M.c0 M.ps i ≠ .unborn → ∃ j, imgR M.c0 M.ps i = some j := fun i hi => by
    cases hj : imgR M.c0 M.ps i with
    | some j => exact ⟨j, rfl⟩
    | none =>
      exfalso; apply hi
      show sltR E1 (imgR M.c0 M.ps i) = .unborn
      rw [hj]; rfl
  have pSh : ∀ i j, imgR M.c0 M.ps i = some j → phiR M.c0 M.c1 s1.c s.c d M.ps (shI M.c0 d i) = some j := fun i j h => by
    by_cases h1 : i < M.c0
    · rw [shI_eq, if_pos h1, pLo i h1]; rw [imgR_lo h1] at h; exact h
    · rw [imgR_hi h1] at h
      obtain ⟨h2, h3, _, _⟩ := kp _ (lookP_mem h)
      have h2 : M.c0 ≤ i := h2
      have h3 : i < M.c1 := h3
      rw [shI_eq, if_neg h1, pNew (i + d) (by omega) (by omega), Nat.add_sub_cancel]; exact h
  have hid : ∀ i, cutR E1 M.c0 M.ps i ≠ .unborn → E' (shI M.c0 d i) = cutR E1 M.c0 M.ps i := fun i hi => by
    obtain ⟨j, hj⟩ := cP i hi
    rw [eV, pSh i j hj]
    show E1 j = sltR E1 (imgR M.c0 M.ps i)
    rw [hj]; rfl
  have hidst : ∀ i, cutR E1 M.c0 M.ps i ≠ .unborn → E'.st (shI M.c0 d i) = (cutR E1 M.c0 M.ps).st i := fun i hi => by
    obtain ⟨j, hj⟩ := cP i hi
    rw [eS, pSh i j hj]
    show E1.st j = stR E1 (imgR M.c0 M.ps i) i
    rw [hj]; rfl
  have hρ' : E'.ρ = (cutR E1 M.c0 M.ps).ρ := hρ1.symm
  -- what is not laid is as it was
  have hold : ∀ i b C, ¬ In (Nat.lor (oldIds M.c0 M.puts) (marksIn s.c (Nat.add M.c1 d))) i → E i = .live b C → w'.heap[b]? = w.heap[b]? := by
    intro i b C hni hi
    have hn1 : ¬ In (oldIds M.c0 M.puts) i := fun h => hni ((in_lor _ _ _).2 (.inl h))
    by_cases h1 : i < M.c0
    · exact hx.block i b C (eKeep i h1 hn1) (by rw [eT i h1]; exact hi)
    · have h2 : ¬ (s.c ≤ i ∧ i < M.c1 + d) := fun h => hni ((in_lor _ _ _).2 (.inr (hmk i h.1 h.2)))
      exact hx.block (s1.c + (i - M.c0)) b C (fun hin => by have := hw1 _ hin; omega) (by rw [eM _ (by omega), show s1.c + (i - M.c0) - s1.c + M.c0 = i by omega]; exact hi)
  have hkeep : ∀ i, ¬ In (Nat.lor (oldIds M.c0 M.puts) (marksIn s.c (Nat.add M.c1 d))) i → E' i = E i := by
    intro i hni
    have hn1 : ¬ In (oldIds M.c0 M.puts) i := fun h => hni ((in_lor _ _ _).2 (.inl h))
    by_cases h1 : i < M.c0
    · rw [eLo i h1, hx.keep i (eKeep i h1 hn1), eT i h1]
    · exact eOut i h1 fun h => hni ((in_lor _ _ _).2 (.inr (hmk i h.1 h.2)))
  have hlv : ∀ i b C, E' i = .live b C → ∃ j, phiR M.c0 M.c1 s1.c s.c d M.ps i = some j ∧ E1 j = .live b C := by
    intro i b C hi
    rw [eV] at hi
    cases hj : phiR M.c0 M.c1 s1.c s.c d M.ps i with
    | none => rw [hj] at hi; cases hi
    | some j => rw [hj] at hi; exact ⟨j, rfl, hi⟩
  refine ⟨E', v1, rfl, ?_, ⟨?_, ?_, hs'.base, fun g hg => ?_, ?_, ?_, hs.orc, fun b hb => ⟨(hs'.prot b hb).1, (hs'.prot b hb).2.1, fun j C hj => let ⟨j', _, hj'⟩ := hlv j b C hj; (hs'.prot b hb).2.2 j' C hj'⟩, hs.defs⟩, ⟨hle, ?_, ?_, hx.below, fun b hb hn => hx.free b hb fun j C hj => let ⟨i', hi'⟩ := memE_live hj; hn i' C hi', fun j b C hj => ?_, hx.kn⟩⟩
  · exact shV_ok hid hρ' 40 _ _ _ hv (likeV_ok (E' := E1) (F := cutR E1 M.c0 M.ps) cid rfl 40 _ _ _ k4 hv1)
  · intro i j b X Y hb hi hj
    obtain ⟨i', h1, h2⟩ := hlv i b X hi
    obtain ⟨j', h3, h4⟩ := hlv j b Y hj
    have := hs'.inj i' j' b X Y hb h2 h4
    subst this
    exact phiR_inj k1 hsc kp kq h1 h3
  · intro i b C hi
    obtain ⟨i', _, h2⟩ := hlv i b C hi
    exact hs'.lt _ b C h2
  · rw [eLo g (by omega)]; exact hs'.glob g hg
  · intro i hi hg
    have hi' : M.c1 + d ≤ i := hi
    rw [eOut i (by omega) (by omega)]
    exact hs.fresh i (by omega) hg
  · intro i o hg ho
    rcases putAll_some (show (putAll s.h ps).get i = some o from ho) with ⟨k, hk⟩ | ⟨hne, h1⟩
    · obtain ⟨q, hq, e1, e2⟩ := g1 _ (List.mem_of_getElem? hk)
      obtain ⟨o0, e3, e4⟩ := e2 o rfl
      obtain ⟨hlt, j, y, hj, h3, h4⟩ := (hput q hq).1 o0 e3
      have hj1 : j < s1.c := by
        by_cases hq0 : q.1 < M.c0
        · rw [imgR_lo hq0] at hj; cases hj; omega
        · rw [imgR_hi hq0] at hj
          exact (kp _ (lookP_mem hj)).2.2.2
      obtain ⟨b, C, ob, h5, h6, h7, h8⟩ := hs'.fact j y hj1 h3
      have e1 : i = shI M.c0 d q.1 := e1
      have hi : E' i = E1 j := by rw [eV, e1, pSh _ _ hj]; rfl
      have hcq : cutR E1 M.c0 M.ps q.1 = E1 j := by
        show sltR E1 (imgR M.c0 M.ps q.1) = E1 j
        rw [hj]; rfl
      refine ⟨b, C, ob, hi.trans h5, h6, ?_, ?_⟩
      · have h9 : OkObj (cutR E1 M.c0 M.ps) q.1 o0 ob := sameR_at cid cst rfl hcq h4 h7
        rw [e1]
        exact shO_ok hid hidst hρ' e4 (by rw [← e1, hi, hcq]) h9
      · rcases h8 with h8 | h8
        · rw [sameR_fix h4] at h8; cases h8
        · exact .inr h8
    · obtain ⟨b, C, ob, h5, h6, h7, h8⟩ := hs.fact i o hg h1
      have hni : ¬ In (Nat.lor (oldIds M.c0 M.puts) (marksIn s.c (Nat.add M.c1 d))) i := by
        intro hin
        rcases (in_lor _ _ _).1 hin with h | h
        · obtain ⟨h9, o', ho'⟩ := oldIds_in.1 h
          obtain ⟨p, hp, e⟩ := g2 _ ho'
          refine hne p hp ?_
          rw [e, shI_eq, if_pos h9]
        · have := marksIn_out (show s.c ≤ Nat.add M.c1 d by show s.c ≤ M.c1 + d; omega) h
          have h10 : s.c ≤ i := this.1
          have h11 : i < M.c1 + d := this.2
          rw [hEf i h10 h11] at h5; cases h5
      exact ⟨b, C, ob, (hkeep i hni).trans h5, (hold i b C hni h5).trans h6, h7.mono hle (fun b' C' he => (hkeep i hni).trans he), h8⟩
  · intro j hj
    exact hkeep j fun h => hj ((in_lor _ _ _).2 (.inr h))
  · intro j b C hj he
    exact hold j b C (fun h => hj ((in_lor _ _ _).2 (.inr h))) he
  · obtain ⟨j', _, hj'⟩ := hlv j b C hj
    rcases hx.liv j' b C hj' with ⟨i, X, hi⟩ | h1 | h1
    · exact .inl ((memE_live hi).imp fun _ h => ⟨X, h⟩)
    · exact .inr (.inl h1)
    · exact .inr (.inr h1)
/-- Many of them, tried in turn. -/
noncomputable def memAnyR (tabs : List (Nat × List AV)) (args : List AV) (s : St) : List MemoR → R
  | [] => none
  | M :: r => match memA tabs M.memo args s with
    | some x => some x
    | none => memAnyR tabs args s r
theorem memAnyR_some {tabs : List (Nat × List AV)} {args : List AV} {s : St} {x : AV × St} : ∀ {l : List MemoR}, memAnyR tabs args s l = some x → ∃ M ∈ l, memA tabs M.memo args s = some x
  | [], h => by cases h
  | M :: r, h => by
    unfold memAnyR at h
    split at h
    · rename_i y hy
      cases h
      exact ⟨M, List.mem_cons_self .., hy⟩
    · obtain ⟨M', h1, h2⟩ := memAnyR_some h
      exact ⟨M', List.mem_cons_of_mem _ h1, h2⟩
theorem memsR_ok {P : Program} [IsProg P] {tabs : List (Nat × List AV)} {ctr : Ctr} (hctr : CtrOk P ctr) (hmix : P.follows .mixedOrders = true) (hnames : (P.funcs.toList.all fun fn => fn.name != "runtime.NumGoroutine") = true) {n : Nat} {f : FuncId} {l : List MemoR}
    (hrun : ∀ M ∈ l, memChkR M ((ev P ctr n).call f M.args (tmplSt tabs M.c0 M.objs M.fs)) = true) : ∀ {args : List AV} {s : St} {v : AV} {s' : St}, memAnyR tabs args s l = some (v, s') → Step s s' ∧ ∀ {G : Nat → Prop} {B : Nat} {E : Env} {w : World} {args' : Array Value}, (∀ j, In s'.l j → G j) → Sat G B E s w → RelL E args args'.toList →
      CallRes P f args' w (RetOk G B s' v E w) := by
  intro args s v s' h
  obtain ⟨M, h1, h2⟩ := memAnyR_some h
  exact memR_ok hctr hmix hnames (hrun M h1) h2
end Ev
end Go.Proofs.YtnjpdipombnigaaGreatDoor
