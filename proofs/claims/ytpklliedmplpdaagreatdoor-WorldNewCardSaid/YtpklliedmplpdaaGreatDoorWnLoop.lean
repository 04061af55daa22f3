/-
  WorldNew: the law's loop over all places.
-/
import Derived.Test.YtpklliedmplpdaaGreatDoorWnAwake
namespace Go.Proofs.YtpklliedmplpdaaGreatDoor
namespace Ev
open Go.RowKit Go.Sort

noncomputable def keptIds (s : St) : Bool := !Nat.testBit s.w 64 && (!Nat.testBit s.w 65 && !Nat.testBit s.w 66)
noncomputable def roundOk2 : Bool := match evW.code 201 none loopC1 ⟨putsA (lpL (.var 4)), []⟩ (sL true) with
  | some (.normal, fr, s) => hasAll fr.a (lpL (.bin .add .i64 (.var 4) (.lit 1))) && (fr.m.isEmpty && keptIds s)
  | _ => false
noncomputable def exitOk2 : Bool := match evW.code 201 none loopC1 ⟨putsA (lpL (.var 4)), []⟩ (sL false) with
  | some (.exit i, fr, s) => Nat.beq i (nat_lit 0) && (hasAll fr.a (lpL (.var 4)) && (fr.m.isEmpty && keptIds s))
  | _ => false
theorem round_ok2 : roundOk2 = true := by kernel_rfl
theorem exit_ok2 : exitOk2 = true := by kernel_rfl
theorem avEq_ok {x y : AV} (h : avEq x y = true) : x = y := by
  unfold avEq at h
  split at h
  · obtain ⟨h1, h2⟩ := and2 h
    rw [eqA_eq] at h2
    rw [kindEq_ok h1, of_decide_eq_true h2]
  · obtain ⟨h1, h2⟩ := and2 h
    rw [kindEq_ok h1, seEq_ok h2]
  · rename_i i o j p
    obtain ⟨h1, h2⟩ := and2 h
    have e1 : i = j := by simpa using h1
    have e2 : o = p := by simpa using h2
    rw [e1, e2]
  · cases h
theorem hasAll_ok {a : T AV} : ∀ {l : List (Nat × AV)}, hasAll a l = true → ∀ p ∈ l, a.get p.1 = some p.2
  | [], _, _, hm => by cases hm
  | q :: r, h, p, hm => by
    obtain ⟨h1, h2⟩ := and2 h
    rcases List.mem_cons.1 hm with rfl | hm
    · unfold hasA at h1
      split at h1
      · rename_i x hx
        rw [hx, avEq_ok h1]
      · cases h1
    · exact hasAll_ok h2 p hm
theorem putsA_get {t : Nat} {v : AV} : ∀ {l : List (Nat × AV)}, (putsA l).get t = some v → (t, v) ∈ l
  | [], h => by rw [show putsA [] = T.e from rfl, T.get_e] at h; cases h
  | p :: r, h => by
    rcases T.put_some (show ((putsA r).put p.1 (some p.2)).get t = some v from h) with ⟨rfl, h1⟩ | ⟨_, h1⟩
    · cases h1; simp
    · exact List.mem_cons_of_mem _ (putsA_get h1)
/-- What the loop finds. -/
def vl (a b p : Int) (N b7 b9 : Nat) (k : Int) : List (Nat × Value) := [(0, .int .i64 a), (1, .int .i64 b), (2, .int .u8 p), (7, .pointer (some ⟨b7, 0, none⟩)), (9, .pointer (some ⟨b9, 0, none⟩)), (10, .int .i64 a), (11, .int .i64 b), (97, .int .i64 N), (98, .int .i64 k)]
def ρL (a b p k : Int) : Nat → Int
  | 0 => a
  | 1 => b
  | 2 => p
  | 4 => k
  | _ => 0
def envL (a b p k : Int) (b7 b9 g : Nat) : Env := ⟨fun i => if i < 64 then .dead else if i = 64 then .live b9 0 else if i = 65 then .live g 0 else if i = 66 then .live b7 0 else .unborn, ρL a b p k⟩
structure LoopIn (w : World) (a b p : Int) (N b7 b9 g : Nat) : Prop where
  a1 : 1 ≤ a
  a2 : a ≤ 128
  b1 : 1 ≤ b
  b2 : b ≤ 128
  p1 : 0 ≤ p
  p2 : p ≤ 255
  n : a * b = N
  l7 : b7 < w.heap.size
  h9 : ∃ f, w.heap[b9]? = some (.cells #[.int .i64 a, .int .i64 b, .slice (some ⟨g, 0, none⟩) N N] 86 f)
  hg : w.heap[g]? = some (.cells (Array.replicate N (.int .u8 p)) 22 (0, 0))
  n1 : b7 ≠ b9
  n2 : b7 ≠ g
  n3 : b9 ≠ g
theorem LoopIn.l9 {w : World} {a b p : Int} {N b7 b9 g : Nat} (h : LoopIn w a b p N b7 b9 g) : b9 < w.heap.size := by
  obtain ⟨f, hf⟩ := h.h9
  exact (Array.getElem?_eq_some_iff.1 hf).1
theorem LoopIn.below {w w' : World} {a b p : Int} {N b7 b9 g : Nat} (h : LoopIn w a b p N b7 b9 g) (hb : Below w.heap.size w w') : LoopIn w' a b p N b7 b9 g :=
  ⟨h.a1, h.a2, h.b1, h.b2, h.p1, h.p2, h.n, Nat.lt_of_lt_of_le h.l7 hb.size, h.h9.imp fun _ hf => (hb.block b9 h.l9).trans hf, (hb.block g (Array.getElem?_eq_some_iff.1 h.hg).1).trans h.hg, h.n1, h.n2, h.n3⟩
section
variable {w : World} {a b p : Int} {N b7 b9 g : Nat}
theorem LoopIn.small (h : LoopIn w a b p N b7 b9 g) : N ≤ 16384 := by
  have : a * b ≤ 128 * 128 := Int.mul_le_mul h.a2 h.b2 (by have := h.b1; omega) (by omega)
  have := h.n
  omega
theorem LoopIn.mul (h : LoopIn w a b p N b7 b9 g) (k : Int) : mulE.val (ρL a b p k) = N := by
  have := h.small
  show IntKind.i64.wrap (a * b) = _
  rw [h.n]
  exact IntWalk.i64_in _ (by omega)
theorem LoopIn.envLe (b7 b9 g : Nat) (k : Int) : ∀ i b' C, (envL a b p k b7 b9 g) i = .live b' C → (i = 64 ∧ b' = b9) ∨ (i = 65 ∧ b' = g) ∨ (i = 66 ∧ b' = b7) := by
  intro i b' C hi
  simp only [envL] at hi
  split at hi
  · cases hi
  · split at hi
    · rename_i h1; cases hi; exact .inl ⟨h1, rfl⟩
    · split at hi
      · rename_i h1; cases hi; exact .inr (.inl ⟨h1, rfl⟩)
      · split at hi
        · rename_i h1; cases hi; exact .inr (.inr ⟨h1, rfl⟩)
        · cases hi
theorem facts_ok (h : LoopIn w a b p N b7 b9 g) (k : Nat) (q : Bool) (hk : k ≤ N) (hq : q = decide (k < N)) : ∀ f ∈ lpF q, f.holds (ρL a b p k) := by
  have hs := h.small
  have hm := h.mul k
  have a1 := h.a1
  have a2 := h.a2
  have b1 := h.b1
  have b2 := h.b2
  have p1 := h.p1
  have p2 := h.p2
  have hn := h.n
  have e1 : remE.val (ρL a b p k) = (k : Int) % a := by
    show Int.tmod (k : Int) a = _
    exact Int.tmod_eq_emod_of_nonneg (by omega)
  have hd0 : 0 ≤ (k : Int) / a := Int.ediv_nonneg (by omega) (by omega)
  have hd1 : (k : Int) / a ≤ k := Int.ediv_le_self _ (by omega)
  have e2 : quoE.val (ρL a b p k) = (k : Int) / a := by
    show IntKind.i64.wrap (Int.tdiv (k : Int) a) = _
    rw [Int.tdiv_eq_ediv_of_nonneg (by omega)]
    exact IntWalk.i64_in _ (by omega)
  have r0 := Int.emod_nonneg (k : Int) (show a ≠ 0 by omega)
  have r1 := Int.emod_lt_of_pos (k : Int) (show 0 < a by omega)
  have hqb : decide ((k : Int) / a < b) = q := by
    rw [hq]
    apply decide_eq_decide.2
    constructor
    · intro hlt
      have := Int.lt_ediv_add_one_mul_self (k : Int) (show 0 < a by omega)
      have h2 : ((k : Int) / a + 1) * a ≤ b * a := Int.mul_le_mul_of_nonneg_right (by omega) (by omega)
      rw [Int.mul_comm b a, hn] at h2
      omega
    · intro hlt
      exact Int.ediv_lt_of_lt_mul (by omega) (by rw [Int.mul_comm b a, hn]; omega)
  have w0 : (SE.bin .quo .i64 (.var 0) (.lit 2)).val (ρL a b p k) = a / 2 := by
    show IntKind.i64.wrap (Int.tdiv a 2) = _
    rw [Int.tdiv_eq_ediv_of_nonneg (by omega)]
    exact IntWalk.i64_in _ (by omega)
  have w1 : (SE.bin .quo .i64 (.var 1) (.lit 2)).val (ρL a b p k) = b / 2 := by
    show IntKind.i64.wrap (Int.tdiv b 2) = _
    rw [Int.tdiv_eq_ediv_of_nonneg (by omega)]
    exact IntWalk.i64_in _ (by omega)
  have v0 : (SE.var 0).val (ρL a b p k) = a := rfl
  have v1 : (SE.var 1).val (ρL a b p k) = b := rfl
  have v2 : (SE.var 2).val (ρL a b p k) = p := rfl
  have v4 : (SE.var 4).val (ρL a b p k) = k := rfl
  have vl : ∀ n, (SE.lit n).val (ρL a b p k) = n := fun _ => rfl
  intro f hf
  simp only [lpF, wnF, List.cons_append, List.nil_append, List.mem_cons, List.not_mem_nil, or_false] at hf
  rcases hf with rfl | rfl | rfl | rfl | rfl | rfl | rfl | rfl | rfl | rfl | rfl | rfl | rfl | rfl | rfl <;> simp only [Fact.holds, if_true, hm, e1, e2, w0, w1, v0, v1, v2, v4, vl]
  · rw [hq]; apply decide_eq_decide.2; omega
  · exact dec_f (by omega)
  · exact dec_f (by omega)
  · exact dec_f (by omega)
  · exact dec_t (by omega)
  · exact dec_f (by omega)
  · exact hqb.symm
  · exact dec_f (by omega)
  · exact dec_f (by omega)
  · exact dec_t (by omega)
  · exact dec_t (by omega)
  · exact dec_f (by omega)
  · exact dec_f (by omega)
  · exact dec_f (by omega)
  · exact dec_f (by omega)
theorem wnFacts {a b p : Int} (k : Int) (a1 : 1 ≤ a) (a2 : a ≤ 128) (b1 : 1 ≤ b) (b2 : b ≤ 128) (p1 : 0 ≤ p) (p2 : p ≤ 255) : ∀ f ∈ wnF, f.holds (ρL a b p k) := by
  have w0 : (SE.bin .quo .i64 (.var 0) (.lit 2)).val (ρL a b p k) = a / 2 := by
    show IntKind.i64.wrap (Int.tdiv a 2) = _
    rw [Int.tdiv_eq_ediv_of_nonneg (by omega)]
    exact IntWalk.i64_in _ (by omega)
  have w1 : (SE.bin .quo .i64 (.var 1) (.lit 2)).val (ρL a b p k) = b / 2 := by
    show IntKind.i64.wrap (Int.tdiv b 2) = _
    rw [Int.tdiv_eq_ediv_of_nonneg (by omega)]
    exact IntWalk.i64_in _ (by omega)
  have v0 : (SE.var 0).val (ρL a b p k) = a := rfl
  have v1 : (SE.var 1).val (ρL a b p k) = b := rfl
  have v2 : (SE.var 2).val (ρL a b p k) = p := rfl
  have vl : ∀ n, (SE.lit n).val (ρL a b p k) = n := fun _ => rfl
  intro f hf
  simp only [wnF, List.mem_cons, List.not_mem_nil, or_false] at hf
  rcases hf with rfl | rfl | rfl | rfl | rfl | rfl | rfl | rfl <;> simp only [Fact.holds, if_true, w0, w1, v0, v1, v2, vl]
  · exact dec_f (by omega)
  · exact dec_f (by omega)
  · exact dec_t (by omega)
  · exact dec_t (by omega)
  · exact dec_f (by omega)
  · exact dec_f (by omega)
  · exact dec_f (by omega)
  · exact dec_f (by omega)
theorem satL (h : LoopIn w a b p N b7 b9 g) (k : Nat) (q : Bool) (hk : k ≤ N) (hq : q = decide (k < N)) : Sat (fun _ => True) w.heap.size (envL a b p k b7 b9 g) (sL q) w := by
  have l9 := h.l9
  obtain ⟨f9, h9⟩ := h.h9
  have lg := (Array.getElem?_eq_some_iff.1 h.hg).1
  refine ⟨?_, ?_, Nat.le_refl _, ?_, ?_, ?_, orcI_ok (facts_ok h k q hk hq)⟩
  · intro i j b' C D hi hj
    have n1 := h.n1
    have n2 := h.n2
    have n3 := h.n3
    rcases LoopIn.envLe b7 b9 g k i b' C hi with ⟨h1, h2⟩ | ⟨h1, h2⟩ | ⟨h1, h2⟩ <;> rcases LoopIn.envLe b7 b9 g k j b' D hj with ⟨h3, h4⟩ | ⟨h3, h4⟩ | ⟨h3, h4⟩ <;> omega
  · intro i b' C hi
    rcases LoopIn.envLe b7 b9 g k i b' C hi with ⟨_, rfl⟩ | ⟨_, rfl⟩ | ⟨_, rfl⟩
    · exact l9
    · exact lg
    · exact h.l7
  · intro j hj
    simp only [envL]
    rw [if_pos hj]
    trivial
  · intro i hi _
    have hi' : 67 ≤ i := hi
    simp only [envL]
    rw [if_neg (by omega), if_neg (by omega), if_neg (by omega), if_neg (by omega)]
  · intro i o _ ho
    have hmul := h.mul k
    rcases T.put_some (show (((T.e.put 64 (some (.tab grC))).put 65 (some (.flat mulE (.var 2) 22))).get i = some o) from ho) with ⟨rfl, h1⟩ | ⟨_, h1⟩
    · cases h1
      refine ⟨g, 0, _, rfl, h.hg, ?_, .inl rfl⟩
      show _ = _
      rw [show mulE.val (envL a b p k b7 b9 g).ρ = N from hmul]
      rfl
    · rcases T.put_some h1 with ⟨rfl, h2⟩ | ⟨_, h2⟩
      · cases h2
        refine ⟨b9, 0, _, rfl, h9, ⟨_, _, _, rfl, ?_⟩, .inl rfl⟩
        refine .cons (.sint .i64 (.var 0)) (.cons (.sint .i64 (.var 1)) (.cons ?_ .nil))
        have := Rel.fslice (E := envL a b p k b7 b9 g) (i := 65) (b := g) (n := mulE) rfl
        rw [show mulE.val (envL a b p k b7 b9 g).ρ = N from hmul] at this
        exact this
      · rw [T.get_e] at h2; cases h2
theorem trelL (k : Nat) (hm : mulE.val (ρL a b p k) = N) {tmps : Array Value} (hs : tmps.size = 201) (hv : ∀ q ∈ vl a b p N b7 b9 k, tmps[q.1]? = some q.2) : TRel (envL a b p k b7 b9 g) 201 (putsA (lpL (.var 4))) tmps := by
  refine ⟨hs, fun t v ht => ?_⟩
  have hmem := putsA_get ht
  simp only [lpL, List.mem_cons, Prod.mk.injEq, List.not_mem_nil, or_false] at hmem
  rcases hmem with ⟨rfl, rfl⟩ | ⟨rfl, rfl⟩ | ⟨rfl, rfl⟩ | ⟨rfl, rfl⟩ | ⟨rfl, rfl⟩ | ⟨rfl, rfl⟩ | ⟨rfl, rfl⟩ | ⟨rfl, rfl⟩ | ⟨rfl, rfl⟩
  · exact ⟨_, hv (0, .int .i64 a) (by simp [vl]), .sint _ (.var 0)⟩
  · exact ⟨_, hv (1, .int .i64 b) (by simp [vl]), .sint _ (.var 1)⟩
  · exact ⟨_, hv (2, .int .u8 p) (by simp [vl]), .sint _ (.var 2)⟩
  · exact ⟨_, hv (7, .pointer (some ⟨b7, 0, none⟩)) (by simp [vl]), .ptr rfl⟩
  · exact ⟨_, hv (9, .pointer (some ⟨b9, 0, none⟩)) (by simp [vl]), .ptr rfl⟩
  · exact ⟨_, hv (10, .int .i64 a) (by simp [vl]), .sint _ (.var 0)⟩
  · exact ⟨_, hv (11, .int .i64 b) (by simp [vl]), .sint _ (.var 1)⟩
  · refine ⟨_, hv (97, .int .i64 N) (by simp [vl]), ?_⟩
    rw [← hm]
    exact .sint _ mulE
  · exact ⟨_, hv (98, .int .i64 k) (by simp [vl]), .sint _ (.var 4)⟩
/-- Back from the evaluator: what the frame holds behind a round. -/
theorem backL {k : Nat} {m : Int} {e : SE} {E' : Env} {aT : T AV} {tmps : Array Value} (hle : (envL a b p k b7 b9 g).le E') (h64 : E' 64 = .live b9 0) (h66 : E' 66 = .live b7 0) (hm : mulE.val (ρL a b p k) = N) (he : e.val (ρL a b p k) = m)
    (ha : hasAll aT (lpL e) = true) (ht : TRel E' 201 aT tmps) : ∀ q ∈ vl a b p N b7 b9 m, tmps[q.1]? = some q.2 := by
  have hall := hasAll_ok ha
  have hρ : E'.ρ = ρL a b p k := hle.ρ
  intro q hq
  simp only [vl, List.mem_cons, List.not_mem_nil, or_false] at hq
  rcases hq with rfl | rfl | rfl | rfl | rfl | rfl | rfl | rfl | rfl
  · obtain ⟨x, h1, h2⟩ := ht.2 0 _ (hall (0, .sint .i64 (.var 0)) (by simp [lpL])); rw [h1]; cases h2; rw [hρ]; rfl
  · obtain ⟨x, h1, h2⟩ := ht.2 1 _ (hall (1, .sint .i64 (.var 1)) (by simp [lpL])); rw [h1]; cases h2; rw [hρ]; rfl
  · obtain ⟨x, h1, h2⟩ := ht.2 2 _ (hall (2, .sint .u8 (.var 2)) (by simp [lpL])); rw [h1]; cases h2; rw [hρ]; rfl
  · obtain ⟨x, h1, h2⟩ := ht.2 7 _ (hall (7, .ptr 66 0) (by simp [lpL])); rw [h1]; cases h2; rename_i hb; rw [h66] at hb; rw [show _ = b7 from hb]
  · obtain ⟨x, h1, h2⟩ := ht.2 9 _ (hall (9, .ptr 64 0) (by simp [lpL])); rw [h1]; cases h2; rename_i hb; rw [h64] at hb; rw [show _ = b9 from hb]
  · obtain ⟨x, h1, h2⟩ := ht.2 10 _ (hall (10, .sint .i64 (.var 0)) (by simp [lpL])); rw [h1]; cases h2; rw [hρ]; rfl
  · obtain ⟨x, h1, h2⟩ := ht.2 11 _ (hall (11, .sint .i64 (.var 1)) (by simp [lpL])); rw [h1]; cases h2; rw [hρ]; rfl
  · obtain ⟨x, h1, h2⟩ := ht.2 97 _ (hall (97, .sint .i64 mulE) (by simp [lpL])); rw [h1]; cases h2; rw [hρ, hm]
  · obtain ⟨x, h1, h2⟩ := ht.2 98 _ (hall (98, .sint .i64 e) (by simp [lpL])); rw [h1]; cases h2; rw [hρ, he]
theorem relM_nil {E : Env} {ds : List Deferred} {m : List Nat} (h : RelM E m ds) (hm : m.isEmpty = true) : ds = [] := by
  cases h with
  | nil => rfl
  | cons => cases hm
theorem keptIds_ok {s : St} (h : keptIds s = true) : ¬ In s.w 64 ∧ ¬ In s.w 65 ∧ ¬ In s.w 66 := by
  unfold keptIds at h
  obtain ⟨h1, h2⟩ := and2 h
  obtain ⟨h2, h3⟩ := and2 h2
  refine ⟨?_, ?_, ?_⟩ <;> (intro hc; unfold In at hc; simp_all)
theorem loop_ok (h : LoopIn w a b p N b7 b9 g) {ac : Act} {Q : Exit → Act → World → Prop} (hs : ac.tmps.size = 201) (hd : ac.defers = []) (hv : ∀ q ∈ vl a b p N b7 b9 0, ac.tmps[q.1]? = some q.2)
    (hQ : ∀ ac' w', ac'.tmps.size = 201 → ac'.defers = [] → (∀ q ∈ vl a b p N b7 b9 N, ac'.tmps[q.1]? = some q.2) → Below w.heap.size w w' → Q .normal ac' w') : (Code.block 0 (.loop loopC1)).wpIn Fence.wide 0 Tryz.prog Q ac w := by
  refine wpIn_block (wpIn_loop (fun ac' w' => ∃ k : Nat, k ≤ N ∧ ac'.tmps.size = 201 ∧ ac'.defers = [] ∧ (∀ q ∈ vl a b p N b7 b9 k, ac'.tmps[q.1]? = some q.2) ∧ Below w.heap.size w w') (fun ac' _ => N - (intOf (ac'.tmps.getD 98 undef)).toNat) ⟨0, Nat.zero_le _, hs, hd, hv, Below.refl _ _⟩ ?_)
  rintro ac' w' ⟨k, hk, hs', hd', hv', hb'⟩
  have hL := h.below hb'
  have hm := h.mul k
  have hac : ∀ (m : Int) (A : Act), (∀ q ∈ vl a b p N b7 b9 m, A.tmps[q.1]? = some q.2) → A.tmps.getD 98 undef = .int .i64 m := fun m A hA => by
    have := hA (98, .int .i64 m) (by simp [vl])
    simp only [Array.getD_eq_getD_getElem?, this, Option.getD_some]
  have hm0 : RelM (envL a b p k b7 b9 g) [] ac'.defers := by rw [hd']; exact .nil
  rcases Nat.lt_or_ge k N with hlt | hge
  · have hr := round_ok2
    unfold roundOk2 at hr
    split at hr
    case h_2 => cases hr
    rename_i fr s heq
    obtain ⟨r1, r2⟩ := and2 hr
    obtain ⟨r2, r3⟩ := and2 r2
    obtain ⟨j1, j2⟩ := (recW 100000).code heq
    refine (j2 (rb := none) (fun _ _ => trivial) (satL hL k true hk (by simp [hlt])) ⟨trelL k hm hs' hv', hm0⟩ rfl fun E' ac'' w'' hf hsat hx => ?_).1
    obtain ⟨k64, k65, k66⟩ := keptIds_ok r3
    have hv'' := backL (m := (k + 1 : Nat)) hx.le (hx.keep 64 k64) (hx.keep 66 k66) hm (by
      show IntKind.i64.wrap ((k : Int) + 1) = _
      have := h.small
      rw [IntWalk.i64_in _ (by omega)]
      simp) r1 hf.1
    refine ⟨⟨k + 1, hlt, hf.1.1, ?_, hv'', hb'.trans (hx.below.mono hb'.size)⟩, ?_⟩
    · exact relM_nil hf.2 r2
    · rw [hac _ _ hv'', hac _ _ hv']
      show N - (((k + 1 : Nat) : Int)).toNat < N - ((k : Int)).toNat
      omega
  · obtain rfl : k = N := by omega
    have hr := exit_ok2
    unfold exitOk2 at hr
    split at hr
    case h_2 => cases hr
    rename_i i fr s heq
    obtain ⟨r0, r1⟩ := and2 hr
    obtain ⟨r1, r2⟩ := and2 r1
    obtain ⟨r2, r3⟩ := and2 r2
    have r0 : i = 0 := by simpa using r0
    subst r0
    obtain ⟨j1, j2⟩ := (recW 100000).code heq
    refine (j2 (rb := none) (fun _ _ => trivial) (satL hL k false hk (by simp)) ⟨trelL k hm hs' hv', hm0⟩ rfl fun E' ac'' w'' hf hsat hx => ?_).1
    obtain ⟨k64, k65, k66⟩ := keptIds_ok r3
    have hv'' := backL (m := (k : Int)) hx.le (hx.keep 64 k64) (hx.keep 66 k66) hm rfl r1 hf.1
    have hq := hQ ac'' w'' hf.1.1 (relM_nil hf.2 r2) hv'' (hb'.trans (hx.below.mono hb'.size))
    show Exit.inBlock 0 Q (.exit 0) ac'' w''
    simpa [Exit.inBlock] using hq
end
end Ev
end Go.Proofs.YtpklliedmplpdaaGreatDoor
