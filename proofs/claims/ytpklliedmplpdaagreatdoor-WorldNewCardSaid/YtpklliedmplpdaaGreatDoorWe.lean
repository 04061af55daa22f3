/-
  WorldNew by the evaluator: marks and Lay of flat grids as contracts.
  WorldNew by the evaluator: Lay of a flat grid as a contract.
  WorldNew by the evaluator: a place of a flat grid as a contract; all contracts.
-/
import Derived.Test.YtpklliedmplpdaaGreatDoorWd
import Derived.Test.YtpklliedmplpdaaGreatDoorWc
namespace Go.Proofs.YtpklliedmplpdaaGreatDoor
namespace Ev
open Go.RowKit Go.Sort

theorem markV_eq (p : Int) : ∀ k, markV p k = markF p k
  | 0 => rfl
  | k + 1 => by simp only [markV, markF, markV_eq p k]
/-- A flat grid: its width, height, number of places, pixel. -/
noncomputable def flatC {β : Type} (v : AV) (s : St) (k : SE → SE → SE → SE → Nat → Option β) : Option β := match v with
  | .agg [a, b, .fslice i n] => seC a fun k1 x => seC b fun k2 y => bc (kindEq k1 .i64) (bc (kindEq k2 .i64) (oc (s.h.get i) fun o => match o with
      | .flat n' z e => bc (seEq n n') (bc (seEq n (.bin .mul .i64 x y)) (bc (notLt s.o x (.lit 1)) (bc (notLt s.o (.lit 128) x) (bc (notLt s.o y (.lit 1)) (bc (notLt s.o (.lit 128) y) (bc (notLt s.o z (.lit 0)) (bc (notLt s.o (.lit 255) z) (bc (Nat.beq e 22) (k x y n z i)))))))))
      | _ => none))
  | _ => none
structure FlatIn (E : Env) (w : World) (v' : Value) (x y n z : SE) (i g m mb N : Nat) : Prop where
  v : v' = gridV (x.val E.ρ) (y.val E.ρ) g N
  nn : (n.val E.ρ).toNat = N
  mul : x.val E.ρ * y.val E.ρ = N
  xm : x.val E.ρ = m
  ym : y.val E.ρ = mb
  x1 : 1 ≤ x.val E.ρ
  x2 : x.val E.ρ ≤ 128
  y1 : 1 ≤ y.val E.ρ
  y2 : y.val E.ρ ≤ 128
  z1 : 0 ≤ z.val E.ρ
  z2 : z.val E.ρ ≤ 255
  f : Flat w g N (z.val E.ρ)
theorem flat_of {w : World} {g n : Nat} {p : Int} (h : w.heap[g]? = some (.cells (Array.replicate n (.int .u8 p)) 22 (0, 0))) (hn : n ≤ 16384) : Flat w g n p := by
  refine ⟨by simp, .inr ⟨g, n, _, rfl, Nat.zero_le _, h, Nat.le_refl _, by simp only [maxLen]; omega, by simp, ?_⟩⟩
  simp
theorem flatC_some {β : Type} {v : AV} {s : St} {k : SE → SE → SE → SE → Nat → Option β} {r : β} (h : flatC v s k = some r) :
    ∃ x y n z i a b, v = .agg [a, b, .fslice i n] ∧ k x y n z i = some r ∧ n = .bin .mul .i64 x y ∧ (∀ {E : Env} {x' : Value}, Rel E a x' → x' = .int .i64 (x.val E.ρ)) ∧ (∀ {E : Env} {x' : Value}, Rel E b x' → x' = .int .i64 (y.val E.ρ)) ∧
      ∀ {G : Nat → Prop} {B : Nat} {E : Env} {w : World} {v' : Value}, G i → Sat G B E s w → Rel E v v' → ∃ g m mb N, FlatIn E w v' x y n z i g m mb N := by
  unfold flatC at h
  split at h
  case h_2 => cases h
  rename_i a b i n
  obtain ⟨k1, x, h1, hx⟩ := seC_some h
  obtain ⟨k2, y, h2, hy⟩ := seC_some h1
  obtain ⟨c1, h3⟩ := bc_some h2
  obtain ⟨c2, h4⟩ := bc_some h3
  obtain ⟨o, ho, h5⟩ := oc_some h4
  have c1 := kindEq_ok c1
  have c2 := kindEq_ok c2
  subst c1
  subst c2
  split at h5
  case h_2 => cases h5
  rename_i n' z e
  obtain ⟨c3, h6⟩ := bc_some h5
  obtain ⟨c4, h7⟩ := bc_some h6
  obtain ⟨c5, h8⟩ := bc_some h7
  obtain ⟨c6, h9⟩ := bc_some h8
  obtain ⟨c7, h10⟩ := bc_some h9
  obtain ⟨c8, h11⟩ := bc_some h10
  obtain ⟨c9, h12⟩ := bc_some h11
  obtain ⟨c10, h13⟩ := bc_some h12
  obtain ⟨c11, h14⟩ := bc_some h13
  have c3 := seEq_ok c3
  have c4 := seEq_ok c4
  have c11 : e = 22 := by simpa using c11
  subst c3
  subst c11
  refine ⟨x, y, n, z, i, a, b, rfl, h14, c4, hx, hy, fun {G B E w v'} hg hs hr => ?_⟩
  cases hr with | agg hr =>
  rename_i arr
  obtain ⟨l⟩ := arr
  cases hr with | cons r1 t1 => cases t1 with | cons r2 t2 => cases t2 with | cons r3 t3 =>
  cases t3
  obtain rfl := hx r1
  obtain rfl := hy r2
  cases r3
  rename_i b' hb'
  have d5 := notLt_ok hs.orc c5
  have d6 := notLt_ok hs.orc c6
  have d7 := notLt_ok hs.orc c7
  have d8 := notLt_ok hs.orc c8
  have d9 := notLt_ok hs.orc c9
  have d10 := notLt_ok hs.orc c10
  simp only [SE.val] at d5 d6 d7 d8 d9 d10
  obtain ⟨b2, C, ob, he, hh, hok, _⟩ := hs.fact i _ hg ho
  obtain rfl := hs.at_live he hb'
  have hob : ob = .cells (Array.replicate (n.val E.ρ).toNat (.int .u8 (z.val E.ρ))) 22 (0, 0) := hok
  subst hob
  have hm0 : 0 ≤ x.val E.ρ * y.val E.ρ := Int.mul_nonneg (by omega) (by omega)
  have hm1 : x.val E.ρ * y.val E.ρ ≤ 128 * 128 := Int.mul_le_mul d6 d8 (by omega) (by omega)
  have hw : n.val E.ρ = x.val E.ρ * y.val E.ρ := by
    rw [c4]
    show IntKind.i64.wrap _ = _
    rw [IntKind.wrap_i64]; omega
  exact ⟨_, (x.val E.ρ).toNat, (y.val E.ρ).toNat, (n.val E.ρ).toNat, rfl, rfl, by rw [hw]; omega, by omega, by omega, d5, d6, d7, d8, d9, d10, flat_of hh (by rw [hw]; omega)⟩

noncomputable def markA (args : List AV) (s : St) : R := match args with
  | [v] => flatC v s fun _ _ n z i => some (.sint .i64 (.fn 0 z n), s.see i)
  | _ => none
theorem mark_ok : ∀ {args : List AV} {s : St} {v : AV} {s' : St}, markA args s = some (v, s') → Step s s' ∧ ∀ {G : Nat → Prop} {B : Nat} {E : Env} {w : World} {args' : Array Value}, (∀ j, In s'.l j → G j) → Sat G B E s w → RelL E args args'.toList →
    CallRes Tryz.prog 91 args' w (RetOk G B s' v E w) := by
  intro args s v s' h
  unfold markA at h
  split at h
  case h_2 => cases h
  rename_i v0
  obtain ⟨x, y, n, z, i, a, b, rfl, h1, hn, _, _, hF⟩ := flatC_some h
  cases h1
  refine ⟨Step.see _ _, fun {G B E w args'} hG hs ha => ?_⟩
  obtain ⟨l⟩ := args'
  cases ha with | cons r1 t1 =>
  cases t1
  obtain ⟨g, m, mb, N, F⟩ := hF (hG _ (in_see _ _)) hs r1
  rw [F.v, F.xm, F.ym]
  have hN : m * mb = N := by
    have := F.mul
    rw [F.xm, F.ym] at this
    have h2 : ((m * mb : Nat) : Int) = N := by rw [Int.natCast_mul]; exact this
    omega
  have x1 := F.x1
  have x2 := F.x2
  have y2 := F.y2
  rw [F.xm] at x1 x2
  rw [F.ym] at y2
  refine ⟨enters Tryz.func91 (by kernel_rfl) rfl _ _, callsIn_wide.2 ((mark_flat m mb (z.val E.ρ) g N w F.f hN (by omega) (by omega) (by omega) F.z1 F.z2).mono ?_)⟩
  rintro e w' ⟨rfl, hb⟩
  obtain ⟨k1, k2⟩ := hs.later hb
  refine ⟨E, _, rfl, ?_, k1.seen _, k2 _⟩
  have := Rel.sint (E := E) .i64 (.fn 0 z n)
  rw [show (SE.fn 0 z n).val E.ρ = markF (z.val E.ρ) N from by show markV _ _ = _; rw [markV_eq, F.nn]] at this
  exact this
noncomputable def lmarkA (args : List AV) (s : St) : R := match args with
  | [v] => flatC v s fun _ _ n z i => bc (tabEq (s.h.get 1) powA) (oc (numP s.o (.fn 0 z n)) fun r => some (r, (s.see i).see 1))
  | _ => none
theorem lmark_ok : ∀ {args : List AV} {s : St} {v : AV} {s' : St}, lmarkA args s = some (v, s') → Step s s' ∧ ∀ {G : Nat → Prop} {B : Nat} {E : Env} {w : World} {args' : Array Value}, (∀ j, In s'.l j → G j) → Sat G B E s w → RelL E args args'.toList →
    CallRes Tryz.prog 104 args' w (RetOk G B s' v E w) := by
  intro args s v s' h
  unfold lmarkA at h
  split at h
  case h_2 => cases h
  rename_i v0
  obtain ⟨x, y, n, z, i, a, b, rfl, h1, hn, _, _, hF⟩ := flatC_some h
  obtain ⟨ht, h2⟩ := bc_some h1
  obtain ⟨r, hr, h3⟩ := oc_some h2
  cases h3
  refine ⟨(Step.see _ _).trans (Step.see _ _), fun {G B E w args'} hG hs ha => ?_⟩
  obtain ⟨l⟩ := args'
  cases ha with | cons r1 t1 =>
  cases t1
  have hgi : G i := hG _ ((Step.see _ _).l _ (in_see _ _))
  have hgt : G 1 := hG _ (in_see _ _)
  obtain ⟨g, m, mb, N, F⟩ := hF hgi hs r1
  rw [F.v, F.xm, F.ym]
  have hN : m * mb = N := by
    have := F.mul
    rw [F.xm, F.ym] at this
    have h2 : ((m * mb : Nat) : Int) = N := by rw [Int.natCast_mul]; exact this
    omega
  have x1 := F.x1
  have x2 := F.x2
  have y2 := F.y2
  rw [F.xm] at x1 x2
  rw [F.ym] at y2
  have hval : (SE.fn 0 z n).val E.ρ = markF (z.val E.ρ) N := by show markV _ _ = _; rw [markV_eq, F.nn]
  have hI : ∀ q : Int, 0 ≤ q → q < 1000003 → ∀ x, Below w.heap.size w x → Calls Tryz.prog 42 #[.int .i64 q] x (Ret (.string ⟨(Lib.itoa q).toArray⟩) x) := by
    intro q q1 q2 x hx
    refine (Tryz.strconv_Itoa q (by omega) (by omega) x (tabIs_of (hs.later hx).1 hgt ht)).mono ?_
    rintro e w' ⟨rfl, k, os, rfl⟩
    exact ⟨rfl, below_grow _ _ _⟩
  refine ⟨enters Tryz.func104 (by kernel_rfl) rfl _ _, callsIn_wide.2 ((lmark_flat m mb (z.val E.ρ) g N w F.f hN (by omega) (by omega) (by omega) F.z1 F.z2 hI).mono ?_)⟩
  rintro e w' ⟨rfl, hb⟩
  obtain ⟨_, _, hrr⟩ := numP_ok hs.orc hr
  obtain ⟨k1, k2⟩ := hs.later hb
  rw [← hval]
  exact ⟨E, _, rfl, hrr rfl, (k1.seen _).seen _, k2 _⟩
end Ev
end Go.Proofs.YtpklliedmplpdaaGreatDoor
namespace Go.Proofs.YtpklliedmplpdaaGreatDoor
namespace Ev
open Go.RowKit Go.Sort

/-- The rectangle (0, 0, x, y), alone in its row. -/
noncomputable def rectIs (l : List AV) (x y : SE) : Bool := match l with
  | [.int .i64 p, .int .i64 q, c, d] => (eqA p 0 && eqA q 0) && isTrue (seC c fun k c' => seC d fun k' d' => some (kindEq k .i64 && (kindEq k' .i64 && (seEq c' x && seEq d' y))))
  | _ => false
  where isTrue (o : Option Bool) : Bool := match o with
  | some b => b
  | none => false
noncomputable def sliceC {β : Type} (v : AV) (k : Nat → Nat → Nat → Option β) : Option β := match v with
  | .agg [.slice j off len _ _] => k j off len
  | _ => none
noncomputable def layA (args : List AV) (s : St) : R := match args with
  | [v0, v1, p, q, r] => p.intC fun k1 p => q.intC fun k2 q => bc (kindEq k1 .i64 && kindEq k2 .i64) (bc (eqA p 0 && eqA q 0) (sliceC r fun j off len => bc (Nat.beq off (nat_lit 0) && Nat.beq len (nat_lit 1)) (oc (loadN s j (nat_lit 0) (nat_lit 4)) fun l =>
      flatC v0 s fun x0 y0 n0 z0 i0 => flatC v1 s fun x y n z i => bc (seEq x0 x && (seEq y0 y && (seEq n0 n && seEq z0 (.lit 0)))) (bc (rectIs l x y) (match v0 with
        | .agg [a, b, _] => some (.agg [a, b, .fslice s.c n], (((s.see i0).see i).see j).new (.flat n z 22))
        | _ => none)))))
  | _ => none
theorem rectIs_ok {l : List AV} {x y : SE} (h : rectIs l x y = true) {E : Env} {ys : List Value} (hr : RelL E l ys) : ys = [.int .i64 0, .int .i64 0, .int .i64 (x.val E.ρ), .int .i64 (y.val E.ρ)] := by
  unfold rectIs at h
  split at h
  case h_2 => cases h
  rename_i p q c d
  rw [Bool.and_eq_true, Bool.and_eq_true] at h
  obtain ⟨⟨h1, h2⟩, h3⟩ := h
  rw [eqA_eq] at h1 h2
  have h1 := of_decide_eq_true h1
  have h2 := of_decide_eq_true h2
  subst h1
  subst h2
  unfold rectIs.isTrue at h3
  split at h3
  case h_2 => cases h3
  rename_i bb hb
  obtain ⟨k, c', h4, hc⟩ := seC_some hb
  obtain ⟨k', d', h5, hd⟩ := seC_some h4
  cases h5
  simp only [Bool.and_eq_true] at h3
  obtain ⟨e1, e2, e3, e4⟩ := h3
  have e1 := kindEq_ok e1
  have e2 := kindEq_ok e2
  have e3 := seEq_ok e3
  have e4 := seEq_ok e4
  subst e1
  subst e2
  subst e3
  subst e4
  cases hr with | cons r1 t1 => cases t1 with | cons r2 t2 => cases t2 with | cons r3 t3 => cases t3 with | cons r4 t4 =>
  cases t4
  cases r1
  cases r2
  rw [hc r3, hd r4]
theorem sliceC_some {β : Type} {v : AV} {k : Nat → Nat → Nat → Option β} {r : β} (h : sliceC v k = some r) : ∃ j off len cap dr, v = .agg [.slice j off len cap dr] ∧ k j off len = some r := by
  unfold sliceC at h
  split at h
  · exact ⟨_, _, _, _, _, rfl, h⟩
  · cases h
theorem and2 {a b : Bool} (h : (a && b) = true) : a = true ∧ b = true := by simpa using h
theorem lay_ok : ∀ {args : List AV} {s : St} {v : AV} {s' : St}, layA args s = some (v, s') → Step s s' ∧ ∀ {G : Nat → Prop} {B : Nat} {E : Env} {w : World} {args' : Array Value}, (∀ j, In s'.l j → G j) → Sat G B E s w → RelL E args args'.toList →
    CallRes Tryz.prog 66 args' w (RetOk G B s' v E w) := by
  intro args s v s' h
  unfold layA at h
  split at h
  case h_2 => cases h
  rename_i v0 v1 p0 q0 r0
  obtain ⟨k1, p, rfl, h1⟩ := intC_some h
  obtain ⟨k2, q, rfl, h2⟩ := intC_some h1
  obtain ⟨c1, h3⟩ := bc_some h2
  obtain ⟨c2, h4⟩ := bc_some h3
  obtain ⟨j, off, len, cap, dr, rfl, h5⟩ := sliceC_some h4
  obtain ⟨c3, h6⟩ := bc_some h5
  obtain ⟨l, hl, h7⟩ := oc_some h6
  obtain ⟨x0, y0, n0, z0, i0, a0, b0, rfl, h8, hn0, ha0, hb0, hF0⟩ := flatC_some h7
  obtain ⟨x, y, n, z, i, a, b, rfl, h9, hn, _, _, hF⟩ := flatC_some h8
  obtain ⟨c4, h10⟩ := bc_some h9
  obtain ⟨c5, h11⟩ := bc_some h10
  cases h11
  clear h h1 h2 h3 h4 h5 h6 h7 h8 h9 h10
  obtain ⟨c1a, c1b⟩ := and2 c1
  obtain ⟨c2a, c2b⟩ := and2 c2
  obtain ⟨c3a, c3b⟩ := and2 c3
  obtain ⟨c4a, c4b⟩ := and2 c4
  obtain ⟨c4b, c4c⟩ := and2 c4b
  obtain ⟨c4c, c4d⟩ := and2 c4c
  have c1a := kindEq_ok c1a
  have c1b := kindEq_ok c1b
  have c4a := seEq_ok c4a
  have c4b := seEq_ok c4b
  have c4c := seEq_ok c4c
  have c4d := seEq_ok c4d
  rw [eqA_eq] at c2a c2b
  have c2a := of_decide_eq_true c2a
  have c2b := of_decide_eq_true c2b
  have c3a : off = 0 := by simpa using c3a
  have c3b : len = 1 := by simpa using c3b
  subst c1a c1b c2a c2b c3a c3b c4a c4b c4c c4d
  refine ⟨(((Step.see _ _).trans (Step.see _ _)).trans (Step.see _ _)).trans (Step.new _ _), fun {G B E w args'} hG hs ha => ?_⟩
  obtain ⟨la⟩ := args'
  cases ha with | cons r1 t1 => cases t1 with | cons r2 t2 => cases t2 with | cons r3 t3 => cases t3 with | cons r4 t4 => cases t4 with | cons r5 t5 =>
  cases t5
  cases r3
  cases r4
  have hgl : ∀ k, In (((s.see i0).see i).see j).l k → G k := fun k hk => hG k ((Step.new _ _).l k hk)
  have hgj : G j := hgl j (in_see _ _)
  have hgi : G i := hgl i ((Step.see _ _).l _ (in_see _ _))
  have hgi0 : G i0 := hgl i0 ((Step.see _ _).l _ ((Step.see _ _).l _ (in_see _ _)))
  obtain ⟨g0, m0, mb0, N0, F0⟩ := hF0 hgi0 hs r1
  obtain ⟨g, m, mb, N, F⟩ := hF hgi hs r2
  have hNN : N0 = N := by rw [← F0.nn, ← F.nn]
  subst hNN
  have r1' := r1
  rw [F0.v, F.v]
  cases r5 with | agg hr5 =>
  rename_i arr5
  obtain ⟨l5⟩ := arr5
  cases hr5 with | cons q1 u1 =>
  cases u1
  cases q1
  rename_i b5 c5' hb5 hc5
  obtain ⟨b2, C, ys, he, hrl, hlen, hcell⟩ := hs.loadN hgj hl
  obtain rfl := hs.at_live he hb5
  have hys := rectIs_ok c5 hrl
  subst hys
  have hlt := hs.lt _ _ _ he
  have f0 := F0.f
  simp only [SE.val] at f0
  refine ⟨enters Tryz.func66 (by kernel_rfl) rfl _ _, callsIn_wide.2 ((lay_flat (x0.val E.ρ) (y0.val E.ρ) (z.val E.ρ) m mb g0 g N0 _ _ w f0 F.f F.mul F.xm F.ym F.x1 F.x2 F.y1 F.y2 hlt (fun k z hk => by
    have := hcell k z hk
    rw [Nat.zero_add] at this
    rw [show (⟨b5, 0, none⟩ : Addr).add k = ⟨b5, k, none⟩ from by unfold Addr.add; split <;> simp_all]
    exact this)).mono ?_)⟩
  rintro e w' ⟨g', rfl, hg', hbx, hb⟩
  have hs3 := ((hs.seen i0).seen i).seen j
  have hN2 : (n0.val E.ρ).toNat = N0 := F.nn
  obtain ⟨q1, q2⟩ := hs3.adopt (o := .flat n0 z 22) (C := 0) (hG _ (in_new _ _)) hb hg' hbx (by
    show _ = _
    rw [show (E.set (((s.see i0).see i).see j).c (.live g' 0)).ρ = E.ρ from rfl, hN2])
  have hle : E.le (E.set s.c (.live g' 0)) := q2.le
  have ra : Rel (E.set s.c (.live g' 0)) a0 (.int .i64 (x0.val E.ρ)) := by
    cases r1' with | agg hh =>
    rename_i arr
    obtain ⟨l1⟩ := arr
    cases hh with | cons v1 w1 =>
    have := ha0 v1
    rw [← this]
    exact v1.mono hle
  have rb : Rel (E.set s.c (.live g' 0)) b0 (.int .i64 (y0.val E.ρ)) := by
    cases r1' with | agg hh =>
    rename_i arr
    obtain ⟨l1⟩ := arr
    cases hh with | cons v1 w1 => cases w1 with | cons v2 w2 =>
    have := hb0 v2
    rw [← this]
    exact v2.mono hle
  refine ⟨_, _, rfl, .agg (.cons ra (.cons rb (.cons ?_ .nil))), q1, q2⟩
  have := Rel.fslice (E := E.set s.c (.live g' 0)) (i := s.c) (b := g') (n := n0) (by rw [Env.set_same]; rfl)
  rw [show (E.set s.c (.live g' 0)).ρ = E.ρ from rfl, hN2] at this
  exact this
end Ev
end Go.Proofs.YtpklliedmplpdaaGreatDoor
namespace Go.Proofs.YtpklliedmplpdaaGreatDoor
namespace Ev
open Go.RowKit Go.Sort

noncomputable def atA (args : List AV) (s : St) : R := match args with
  | [v, p, q] => flatC v s fun x y _ z i => seC p fun k1 p => seC q fun k2 q => bc (kindEq k1 .i64 && kindEq k2 .i64) (bc (notLt s.o p (.lit 0) && notLt s.o q (.lit 0)) (bc (isLt s.o p x && isLt s.o q y) (some (.sint .u8 z, s.see i))))
  | _ => none
  where isLt (O : Orc) (a b : SE) : Bool := match O.lt a b with
  | some true => true
  | _ => false
theorem isLt_ok {O : Orc} {ρ : Nat → Int} (ho : OrcOk O ρ) {a b : SE} (h : atA.isLt O a b = true) : a.val ρ < b.val ρ := by
  unfold atA.isLt at h
  split at h
  · rename_i hq
    exact of_decide_eq_true (ho.lt _ _ _ hq).symm
  · cases h
theorem at_ok : ∀ {args : List AV} {s : St} {v : AV} {s' : St}, atA args s = some (v, s') → Step s s' ∧ ∀ {G : Nat → Prop} {B : Nat} {E : Env} {w : World} {args' : Array Value}, (∀ j, In s'.l j → G j) → Sat G B E s w → RelL E args args'.toList →
    CallRes Tryz.prog 10 args' w (RetOk G B s' v E w) := by
  intro args s v s' h
  unfold atA at h
  split at h
  case h_2 => cases h
  rename_i v0 p0 q0
  obtain ⟨x, y, n, z, i, a, b, rfl, h1, hn, _, _, hF⟩ := flatC_some h
  obtain ⟨k1, p, h2, hp⟩ := seC_some h1
  obtain ⟨k2, q, h3, hq⟩ := seC_some h2
  obtain ⟨c1, h4⟩ := bc_some h3
  obtain ⟨c2, h5⟩ := bc_some h4
  obtain ⟨c3, h6⟩ := bc_some h5
  cases h6
  obtain ⟨c1a, c1b⟩ := and2 c1
  obtain ⟨c2a, c2b⟩ := and2 c2
  obtain ⟨c3a, c3b⟩ := and2 c3
  have c1a := kindEq_ok c1a
  have c1b := kindEq_ok c1b
  subst c1a
  subst c1b
  refine ⟨Step.see _ _, fun {G B E w args'} hG hs ha => ?_⟩
  obtain ⟨l⟩ := args'
  cases ha with | cons r1 t1 => cases t1 with | cons r2 t2 => cases t2 with | cons r3 t3 =>
  cases t3
  obtain ⟨g, m, mb, N, F⟩ := hF (hG _ (in_see _ _)) hs r1
  obtain rfl := hp r2
  obtain rfl := hq r3
  rw [F.v]
  have d1 := notLt_ok hs.orc c2a
  have d2 := notLt_ok hs.orc c2b
  have d3 := isLt_ok hs.orc c3a
  have d4 := isLt_ok hs.orc c3b
  simp only [SE.val] at d1 d2
  refine ⟨enters Tryz.func10 (by kernel_rfl) rfl _ _, callsIn_wide.2 ((at_flat (x.val E.ρ) (y.val E.ρ) (p.val E.ρ) (q.val E.ρ) (z.val E.ρ) g N w F.f F.mul F.x2 F.y2 d1 d3 d2 d4).mono ?_)⟩
  rintro e w' ⟨rfl, hb⟩
  obtain ⟨k1, k2⟩ := hs.later hb
  exact ⟨E, _, rfl, .sint _ _, k1.seen _, k2 _⟩
/-- One more contract. -/
noncomputable def ctrU (f : FuncId) (g : List AV → St → R) (c : Ctr) : Ctr := fun f' => bi (Nat.beq f' f) (some g) (c f')
theorem ctrU_ok {P : Program} {f : FuncId} {g : List AV → St → R} {c : Ctr} (hc : CtrOk P c) (h : ∀ {args : List AV} {s : St} {v : AV} {s' : St}, g args s = some (v, s') → Step s s' ∧ ∀ {G : Nat → Prop} {B : Nat} {E : Env} {w : World} {args' : Array Value}, (∀ j, In s'.l j → G j) → Sat G B E s w → RelL E args args'.toList → CallRes P f args' w (RetOk G B s' v E w)) : CtrOk P (ctrU f g c) := by
  intro f' g' hf args s v s' hg
  have hf' : bi (Nat.beq f' f) (some g) (c f') = some g' := hf
  cases hb : Nat.beq f' f with
  | false => rw [hb] at hf'; exact hc f' g' hf' hg
  | true =>
    rw [hb] at hf'
    cases hf'
    have : f' = f := by simpa using hb
    subst this
    exact h hg
/-- What WorldNew's run is told, but the law's example. -/
noncomputable def ctrW : Ctr := ctrU 64 gridNewA (ctrU 66 layA (ctrU 10 atA (ctrU 91 markA (ctrU 104 lmarkA (ctrU 42 itoaA (ctrU 101 fmtA (ctrU 127 fmtUA fun _ => none)))))))
theorem ctrW_ok : CtrOk Tryz.prog ctrW :=
  ctrU_ok (ctrU_ok (ctrU_ok (ctrU_ok (ctrU_ok (ctrU_ok (ctrU_ok (ctrU_ok noCtr_ok fmtU_ok) fmt_ok) itoa_ok) lmark_ok) mark_ok) at_ok) lay_ok) gridNew_ok
end Ev
end Go.Proofs.YtpklliedmplpdaaGreatDoor
