/-
  WorldNew: of a size that may be, the law answers true.
-/
import Derived.Test.YtpklliedmplpdaaGreatDoorWnLoop
import Derived.Test.YtpklliedmplpdaaGreatDoorWnRunA
import Derived.Test.YtpklliedmplpdaaGreatDoorWnRunB
namespace Go.Proofs.YtpklliedmplpdaaGreatDoor
namespace Ev
open Go.RowKit Go.Sort

theorem app_ok {P : Program} {ctr : Ctr} {nt : Nat} {ro : Option Nat} (hr : ∀ n, RecOk P n (ev P ctr n)) : ∀ (d n : Nat) {c : Code} {fr fr' : Fr} {s s' : St}, (ev P ctr n).code nt ro c fr s = some (.normal, fr', s') →
    Step s s' ∧ ∀ {G : Nat → Prop} {B : Nat} {E : Env} {w : World} {ac : Act} {rb : Option Nat} {rest : Code} {Q : Exit → Act → World → Prop}, (∀ j, In s'.l j → G j) → Sat G B E s w → FRel E nt fr ac → RoRel E ro rb →
      (∀ E' ac' w', FRel E' nt fr' ac' → Sat G B E' s' w' → Ext B s'.w E E' w w' → rest.wpIn (fen rb) 0 P Q ac' w') → (app d c rest).wpIn (fen rb) 0 P Q ac w := by
  have base : ∀ (n : Nat) {c : Code} {fr fr' : Fr} {s s' : St}, (ev P ctr n).code nt ro c fr s = some (.normal, fr', s') →
    Step s s' ∧ ∀ {G : Nat → Prop} {B : Nat} {E : Env} {w : World} {ac : Act} {rb : Option Nat} {rest : Code} {Q : Exit → Act → World → Prop}, (∀ j, In s'.l j → G j) → Sat G B E s w → FRel E nt fr ac → RoRel E ro rb →
      (∀ E' ac' w', FRel E' nt fr' ac' → Sat G B E' s' w' → Ext B s'.w E E' w w' → rest.wpIn (fen rb) 0 P Q ac' w') → (Code.seq c rest).wpIn (fen rb) 0 P Q ac w := by
    intro n c fr fr' s s' h
    obtain ⟨p1, p2⟩ := (hr n).code h
    exact ⟨p1, fun hG hs hf hro hQ => wpIn_seq (p2 hG hs hf hro fun E1 ac1 w1 hf1 hs1 hx1 => hQ E1 ac1 w1 hf1 hs1 hx1).1⟩
  intro d
  induction d with
  | zero =>
    intro n c fr fr' s s' h
    obtain ⟨p1, p2⟩ := base n h
    refine ⟨p1, fun {G B E w ac rb rest Q} hG hs hf hro hQ => ?_⟩
    have := p2 hG hs hf hro hQ
    cases c <;> exact this
  | succ d ih =>
    intro n c fr fr' s s' h
    have plain : (∀ a b, c ≠ .seq a b) → Step s s' ∧ ∀ {G : Nat → Prop} {B : Nat} {E : Env} {w : World} {ac : Act} {rb : Option Nat} {rest : Code} {Q : Exit → Act → World → Prop}, (∀ j, In s'.l j → G j) → Sat G B E s w → FRel E nt fr ac → RoRel E ro rb →
      (∀ E' ac' w', FRel E' nt fr' ac' → Sat G B E' s' w' → Ext B s'.w E E' w w' → rest.wpIn (fen rb) 0 P Q ac' w') → (app (d + 1) c rest).wpIn (fen rb) 0 P Q ac w := by
      intro hc
      obtain ⟨p1, p2⟩ := base n h
      refine ⟨p1, fun {G B E w ac rb rest Q} hG hs hf hro hQ => ?_⟩
      have := p2 hG hs hf hro hQ
      cases c <;> first | exact this | exact absurd rfl (hc _ _)
    have seqc : ∀ a b, (ev P ctr n).code nt ro (.seq a b) fr s = some (.normal, fr', s') → Step s s' ∧ ∀ {G : Nat → Prop} {B : Nat} {E : Env} {w : World} {ac : Act} {rb : Option Nat} {rest : Code} {Q : Exit → Act → World → Prop}, (∀ j, In s'.l j → G j) → Sat G B E s w → FRel E nt fr ac → RoRel E ro rb →
      (∀ E' ac' w', FRel E' nt fr' ac' → Sat G B E' s' w' → Ext B s'.w E E' w w' → rest.wpIn (fen rb) 0 P Q ac' w') → (app (d + 1) (.seq a b) rest).wpIn (fen rb) 0 P Q ac w := by
      intro a b h
      cases n with
      | zero => cases h
      | succ n =>
        obtain ⟨e1, fr1, s1, h1, h2⟩ := cc_some (show cc ((ev P ctr n).code nt ro a fr s) (fun e fr s => e.thn fr s ((ev P ctr n).code nt ro b)) = some (.normal, fr', s') from h)
        rcases thn_some h2 with ⟨rfl, h3⟩ | ⟨hne, h3⟩
        · obtain ⟨p1, p2⟩ := (hr n).code h1
          obtain ⟨q1, q2⟩ := ih n h3
          refine ⟨p1.trans q1, fun {G B E w ac rb rest Q} hG hs hf hro hQ => ?_⟩
          show (Code.seq a (app d b rest)).wpIn (fen rb) 0 P Q ac w
          refine wpIn_seq (p2 (fun j hj => hG j (q1.l j hj)) hs hf hro fun E1 ac1 w1 hf1 hs1 hx1 => ?_).1
          exact q2 hG hs1 hf1 (hro.mono hx1.le) fun E2 ac2 w2 hf2 hs2 hx2 => hQ E2 ac2 w2 hf2 hs2 (hx1.trans hx2 q1.w)
        · cases h3
          exact absurd rfl hne
    cases c
    case seq a b => exact seqc a b h
    all_goals exact plain (fun a b e => by cases e)

theorem capEq_ok {c c' : Option Nat} (h : capEq c c' = true) : c = c' := by
  unfold capEq at h
  split at h
  · rfl
  · rename_i x y
    have : x = y := by simpa using h
    rw [this]
  · cases h
theorem avS_ok {x y : AV} (h : avS x y = true) : x = y := by
  unfold avS at h
  split at h
  · rw [show _ = _ from beq_iff_eq.1 h]
  · obtain ⟨h1, h2⟩ := and2 h
    rw [eqA_eq] at h2
    rw [kindEq_ok h1, of_decide_eq_true h2]
  · obtain ⟨h1, h2⟩ := and2 h
    rw [kindEq_ok h1, seEq_ok h2]
  · rename_i i o j p
    obtain ⟨h1, h2⟩ := and2 h
    have e1 : i = j := by simpa using h1
    have e2 : o = p := by simpa using h2
    rw [e1, e2]
  · rfl
  · rename_i i o n c d i' o' n' c' d'
    obtain ⟨h1, h2⟩ := and2 h
    obtain ⟨h2, h3⟩ := and2 h2
    obtain ⟨h3, h4⟩ := and2 h3
    obtain ⟨h4, h5⟩ := and2 h4
    have e1 : i = i' := by simpa using h1
    have e2 : o = o' := by simpa using h2
    have e3 : n = n' := by simpa using h3
    have e5 : d = d' := by simpa using h5
    have e4 : c = c' := capEq_ok h4
    rw [e1, e2, e3, e4, e5]
  · rfl
  · rename_i i j
    have e1 : i = j := by simpa using h
    rw [e1]
  · rename_i i n j m
    obtain ⟨h1, h2⟩ := and2 h
    have e1 : i = j := by simpa using h1
    rw [e1, seEq_ok h2]
  · cases h
theorem avsS_ok : ∀ {l m : List AV}, avsS l m = true → l = m
  | [], [], _ => rfl
  | x :: l, y :: m, h => by
    obtain ⟨h1, h2⟩ := and2 h
    rw [avS_ok h1, avsS_ok h2]
  | [], _ :: _, h => by cases h
  | _ :: _, [], h => by cases h
theorem avE_ok {x y : AV} (h : avE x y = true) : x = y := by
  unfold avE at h
  split at h
  · rw [avsS_ok h]
  · exact avS_ok h
theorem entsE_ok : ∀ {l m : List Ent}, entsE l m = true → l = m
  | [], [], _ => rfl
  | ⟨k, v, b⟩ :: l, ⟨k', v', b'⟩ :: m, h => by
    obtain ⟨h1, h2⟩ := and2 h
    obtain ⟨h2, h3⟩ := and2 h2
    obtain ⟨h3, h4⟩ := and2 h3
    have e3 : b = b' := by simpa using h3
    rw [show k = k' from avE_ok h1, show v = v' from avE_ok h2, e3, entsE_ok h4]
  | [], _ :: _, h => by cases h
  | _ :: _, [], h => by cases h
theorem objE_ok {x y : AObj} (h : objE x y = true) : x = y := by
  unfold objE at h
  split at h
  · rename_i l e f o l' e' f' o'
    obtain ⟨h1, h2⟩ := and2 h
    obtain ⟨h2, h3⟩ := and2 h2
    obtain ⟨h3, h4⟩ := and2 h3
    obtain ⟨h4, h5⟩ := and2 h4
    have e2 : e = e' := by simpa using h2
    obtain ⟨f1, f2⟩ := f
    obtain ⟨g1, g2⟩ := f'
    have e3 : f1 = g1 := by simpa using h3
    have e4 : f2 = g2 := by simpa using h4
    rw [avsS_ok h1, e2, e3, e4, capEq_ok h5]
  · rename_i es c es' c'
    obtain ⟨h1, h2⟩ := and2 h
    have e2 : c = c' := by simpa using h2
    rw [entsE_ok h1, e2]
  · rename_i n v e n' v' e'
    obtain ⟨h1, h2⟩ := and2 h
    obtain ⟨h2, h3⟩ := and2 h2
    have e3 : e = e' := by simpa using h3
    rw [seEq_ok h1, seEq_ok h2, e3]
  · cases h
theorem hasObjs_ok {s : St} : ∀ {l : List (Nat × AObj)}, hasObjs s l = true → ∀ i o, (i, o) ∈ l → s.h.get i = some o
  | [], _, _, _, hm => by cases hm
  | q :: r, h, i, o, hm => by
    obtain ⟨h1, h2⟩ := and2 h
    rcases List.mem_cons.1 hm with rfl | hm
    · unfold objAt at h1
      split at h1
      · rename_i y hy
        rw [hy, objE_ok h1]
      · cases h1
    · exact hasObjs_ok h2 i o hm
theorem putsO_get {h : T AObj} {i : Nat} {o : AObj} : ∀ {l : List (Nat × AObj)}, (putsO h l).get i = some o → (i, o) ∈ l ∨ h.get i = some o
  | [], hh => .inr hh
  | p :: r, hh => by
    rcases T.put_some (show ((putsO h r).put p.1 (some p.2)).get i = some o from hh) with ⟨rfl, h1⟩ | ⟨_, h1⟩
    · cases h1; exact .inl (by simp)
    · rcases putsO_get h1 with h2 | h2
      · exact .inl (List.mem_cons_of_mem _ h2)
      · exact .inr h2
theorem tabsIn_mem {s : St} : ∀ {l : List (Nat × List AV)}, tabsIn s l = true → ∀ g vs, (g, vs) ∈ l → ∃ m, s.h.get g = some (.tab m) ∧ plainsEq m vs = true
  | [], _, _, _, hm => by cases hm
  | q :: r, h, g, vs, hm => by
    obtain ⟨h1, h2⟩ := and2 h
    obtain ⟨h2, h3⟩ := and2 h2
    rcases List.mem_cons.1 hm with rfl | hm
    · unfold tabEq at h1
      split at h1
      · rename_i m ho
        exact ⟨m, ho, h1⟩
      · cases h1
    · exact tabsIn_mem h3 g vs hm
theorem satP {B : Nat} {E : Env} {s : St} {w : World} (h : Sat (fun _ => True) B E s w) (hc : s.c = sP.c) (ho : hasObjs s litO = true) (ht : tabsIn s wnTabs = true) (hr : OrcOk (orcI wnF) E.ρ) : Sat (fun _ => True) B E sP w := by
  refine ⟨h.inj, h.lt, h.base, h.glob, fun i hi hg => h.fresh i (by rw [hc]; exact hi) hg, ?_, hr⟩
  intro i o hg hio
  rcases putsO_get hio with hm | hi
  · exact h.fact i o hg (hasObjs_ok ho i o hm)
  · obtain ⟨vs, hm, rfl⟩ := initH_get hi
    obtain ⟨m, h1, h2⟩ := tabsIn_mem ht i vs hm
    obtain ⟨b, C, ob, he, hh, hok, hx⟩ := h.fact i _ hg h1
    obtain ⟨c, e, f, rfl, hr⟩ := hok
    exact ⟨b, C, _, he, hh, ⟨c, e, f, rfl, plainsEq_ok h2 hr⟩, hx⟩
theorem isTrueR_ok {x : R} (h : isTrueR x = true) : ∃ s, x = some (.bool true, s) := by
  unfold isTrueR at h
  split at h
  · exact ⟨_, rfl⟩
  · cases h
theorem pick_ok : pick1 [0, 1, 7, 10, 11] litF = [(0, .sint .i64 (.var 0)), (1, .sint .i64 (.var 1)), (7, .ptr 153 0), (10, .sint .i64 (.var 0)), (11, .sint .i64 (.var 1))] := by kernel_rfl
theorem body_law : Tryz.f3.body = some lawC := by kernel_rfl
theorem law_yes (a b p : Int) (w : World) (ht : TabsIn w wnTabs) (a1 : 1 ≤ a) (a2 : a ≤ 128) (b1 : 1 ≤ b) (b2 : b ≤ 128) (p1 : 0 ≤ p) (p2 : p ≤ 255) :
    Calls Tryz.prog 3 #[.int .i64 a, .int .i64 b, .int .u8 p] w fun e w' => e = .returned (.bool true) ∧ Below w.heap.size w w' := by
  have ho : OrcOk (orcI wnF) (ρL a b p 0) := orcI_ok (wnFacts 0 a1 a2 b1 b2 p1 p2)
  have hs0 := satT ht ho
  obtain ⟨fr1, s1, fr2, s2, h1, h2, hp⟩ := chk2_ok pre_ok
  obtain ⟨c1, hp⟩ := and2 hp
  obtain ⟨c2, hp⟩ := and2 hp
  obtain ⟨c3, hp⟩ := and2 hp
  obtain ⟨c4, c5⟩ := and2 hp
  have c3 : s2.c = sP.c := Nat.eq_of_beq_eq_true c3
  obtain ⟨fr4, s4, h4, hq⟩ := chkR_ok post_ok
  obtain ⟨s5, h5⟩ := isTrueR_ok hq
  obtain ⟨_, q0⟩ := app_ok recW 5 100000 (nt := 201) (ro := none) h1
  obtain ⟨_, q2⟩ := recV.code h2
  obtain ⟨_, q4⟩ := recV.code h4
  obtain ⟨_, q5⟩ := finB_ok h5
  refine (callsIn_wide (n := 0)).1 (callsIn_of_wp_marks (n := 0) Tryz.func3 body_law trivial ?_)
  rw [law_parts]
  refine q0 (rb := none) (fun _ _ => trivial) hs0 ⟨args_rel (args := wnArgs) (.cons (.sint _ (.var 0)) (.cons (.sint _ (.var 1)) (.cons (.sint _ (.var 2)) .nil))) (by decide), .nil⟩ rfl fun E1 ac1 w1 hf1 hs1 hx1 => ?_
  refine wpIn_seq (wpIn_seq (q2 (rb := none) (fun _ _ => trivial) hs1 hf1 rfl fun E2 ac2 w2 hf2 hs2 hx2 => ?_).1)
  have hρ : E2.ρ = ρL a b p 0 := hx2.le.ρ.trans hx1.le.ρ
  have hget := hasAll_ok c1
  have hob := hasObjs_ok c5
  obtain ⟨N, hN⟩ : ∃ N : Nat, a * b = N := ⟨(a * b).toNat, by have : 0 ≤ a * b := Int.mul_nonneg (by omega) (by omega); omega⟩
  have hN2 : N ≤ 16384 := by
    have : a * b ≤ 128 * 128 := Int.mul_le_mul a2 b2 (by omega) (by omega)
    omega
  have hmul : mulE.val E2.ρ = N := by
    rw [hρ]
    show IntKind.i64.wrap (a * b) = _
    rw [hN]
    exact IntWalk.i64_in _ (by omega)
  -- the world's box
  obtain ⟨x7, t7, r7⟩ := hf2.1.2 7 _ (hget (7, .ptr 153 0) (by simp [litF]))
  cases r7
  rename_i b7 hb7
  obtain ⟨o7, hm7⟩ : ∃ o, (153, o) ∈ litO := ⟨_, by unfold litO; exact List.mem_cons_self⟩
  obtain ⟨y7, C7, ob7, e7, hh7, _, _⟩ := hs2.fact 153 _ trivial (hob 153 _ hm7)
  obtain rfl := hs2.at_live e7 hb7
  -- the screen's box
  obtain ⟨x9, t9, r9⟩ := hf2.1.2 9 _ (hget (9, .ptr 4495 0) (by simp [litF]))
  cases r9
  rename_i b9 hb9
  obtain ⟨y9, C9, ob9, e9, hh9, hok9, _⟩ := hs2.fact 4495 (.cells [.sint .i64 (.var 0), .sint .i64 (.var 1), .fslice 4493 mulE] 86 (0, 0) none) trivial (hob 4495 _ (by simp [litO, mulE]))
  obtain rfl := hs2.at_live e9 hb9
  obtain ⟨cs, ff, rfl, hrel, hfz⟩ := hok9
  clear hfz
  obtain ⟨cl⟩ := cs
  cases hrel with | cons v1 u1 => cases u1 with | cons v2 u2 => cases u2 with | cons v3 u3 =>
  cases u3
  cases v1
  cases v2
  cases v3
  rename_i g hbg
  rw [hmul] at hh9
  obtain ⟨yg, Cg, obg, eg, hhg, hokg, _⟩ := hs2.fact 4493 (.flat mulE (.var 2) 22) trivial (hob 4493 _ (by simp [litO, mulE]))
  obtain rfl := hs2.at_live eg hbg
  have hokg : obg = .cells (Array.replicate (mulE.val E2.ρ).toNat (.int .u8 ((SE.var 2).val E2.ρ))) 22 (0, 0) := hokg
  subst hokg
  rw [hmul] at hhg
  have v0 : (SE.var 0).val E2.ρ = a := by rw [hρ]; rfl
  have v1 : (SE.var 1).val E2.ρ = b := by rw [hρ]; rfl
  have v2 : (SE.var 2).val E2.ρ = p := by rw [hρ]; rfl
  rw [v2] at hhg
  rw [v0, v1] at hh9
  have hL : LoopIn w2 a b p N b7 b9 g := {
    a1 := a1, a2 := a2, b1 := b1, b2 := b2, p1 := p1, p2 := p2, n := hN
    l7 := hs2.lt _ _ _ e7
    h9 := ⟨ff, hh9⟩
    hg := hhg
    n1 := fun h => absurd (hs2.inj 153 4495 b7 C7 C9 e7 (by rw [h]; exact e9)) (by decide)
    n2 := fun h => absurd (hs2.inj 153 4493 b7 C7 Cg e7 (by rw [h]; exact eg)) (by decide)
    n3 := fun h => absurd (hs2.inj 4495 4493 b9 C9 Cg e9 (by rw [h]; exact eg)) (by decide) }
  refine loop_ok hL hf2.1.1 (relM_nil hf2.2 c2) ?_ fun ac3 w3 hs3 hd3 hv3 hb3 => ?_
  · intro q hq
    simp only [vl, List.mem_cons, List.not_mem_nil, or_false] at hq
    rcases hq with rfl | rfl | rfl | rfl | rfl | rfl | rfl | rfl | rfl
    · obtain ⟨x, k1, k2⟩ := hf2.1.2 0 _ (hget (0, .sint .i64 (.var 0)) (by simp [litF])); rw [k1]; cases k2; rw [v0]
    · obtain ⟨x, k1, k2⟩ := hf2.1.2 1 _ (hget (1, .sint .i64 (.var 1)) (by simp [litF])); rw [k1]; cases k2; rw [v1]
    · obtain ⟨x, k1, k2⟩ := hf2.1.2 2 _ (hget (2, .sint .u8 (.var 2)) (by simp [litF])); rw [k1]; cases k2; rw [v2]
    · exact t7
    · exact t9
    · obtain ⟨x, k1, k2⟩ := hf2.1.2 10 _ (hget (10, .sint .i64 (.var 0)) (by simp [litF])); rw [k1]; cases k2; rw [v0]
    · obtain ⟨x, k1, k2⟩ := hf2.1.2 11 _ (hget (11, .sint .i64 (.var 1)) (by simp [litF])); rw [k1]; cases k2; rw [v1]
    · obtain ⟨x, k1, k2⟩ := hf2.1.2 97 _ (hget (97, .sint .i64 mulE) (by simp [litF, mulE])); rw [k1]; cases k2; rw [hmul]
    · obtain ⟨x, k1, k2⟩ := hf2.1.2 98 _ (hget (98, .int .i64 0) (by simp [litF])); rw [k1]; cases k2; rfl
  · have hsP := satP (hs2.later hb3).1 c3 c5 c4 (by rw [hρ]; exact ho)
    have htr : TRel E2 201 frP.a ac3.tmps := by
      refine ⟨hs3, fun t v htv => ?_⟩
      have hmem := putsA_get (show (putsA (pick1 [0, 1, 7, 10, 11] litF)).get t = some v from htv)
      rw [pick_ok] at hmem
      simp only [List.mem_cons, Prod.mk.injEq, List.not_mem_nil, or_false] at hmem
      rcases hmem with ⟨rfl, rfl⟩ | ⟨rfl, rfl⟩ | ⟨rfl, rfl⟩ | ⟨rfl, rfl⟩ | ⟨rfl, rfl⟩
      · refine ⟨_, hv3 (0, .int .i64 a) (by simp [vl]), ?_⟩
        rw [← v0]
        exact .sint _ _
      · refine ⟨_, hv3 (1, .int .i64 b) (by simp [vl]), ?_⟩
        rw [← v1]
        exact .sint _ _
      · exact ⟨_, hv3 (7, .pointer (some ⟨b7, 0, none⟩)) (by simp [vl]), .ptr hb7⟩
      · refine ⟨_, hv3 (10, .int .i64 a) (by simp [vl]), ?_⟩
        rw [← v0]
        exact .sint _ _
      · refine ⟨_, hv3 (11, .int .i64 b) (by simp [vl]), ?_⟩
        rw [← v1]
        exact .sint _ _
    refine (q4 (rb := none) (fun _ _ => trivial) hsP ⟨htr, by rw [hd3]; exact .nil⟩ rfl fun E4 ac4 w4 hf4 hs4 hx4 => ?_).1
    exact q5 (R := fun e w' => e = .returned (.bool true) ∧ Below w.heap.size w w') (fun _ _ => trivial) hs4 hf4 fun v' w' hv _ hx' => by
      cases hv
      have hb2 := hx1.below.trans hx2.below
      exact ⟨rfl, ((hb2.trans (hb3.mono hb2.size)).trans hx4.below).trans hx'.below⟩
end Ev
end Go.Proofs.YtpklliedmplpdaaGreatDoor
