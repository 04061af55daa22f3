/-
  The evaluator: drawn regions.
-/
import Derived.Test.YtbjllaknnpbkkaaGreatDoorSz20
namespace Go.Proofs.YtbjllaknnpbkkaaGreatDoor
namespace Ev
open Go.RowKit

/-- All that is known of a drawn region's run in the text's order. -/
structure Run (P : Program) (ops : Array Oper) (nt : Nat) (A : Nat → T AV) (S Tt : Nat → St) : Prop where
  one : ∀ i, i < ops.size → ∃ o, ops[i]? = some o ∧ OneOk P ops nt o (A i) (bare (S i)) (A (i + 1)) (Tt i)
  c : ∀ i, i < ops.size → (S i).c ≤ (Tt i).c
  lt : ∀ i, i < ops.size → ∀ j, In (Tt i).l j → j < (Tt i).c
  next : ∀ i, i < ops.size → S (i + 1) = joined (S i) (Tt i)
  logs : ∀ i j, i < j → j < ops.size → Reach ops i j ∨ (∀ id, In (Tt i).w id → In (Tt j).l id → False) ∧ (∀ id, In (Tt j).w id → In (Tt i).l id → False)
  tmps : ∀ i j x y, i < j → ops[i]? = some x → ops[j]? = some y → Reach ops i j ∨ Oper.apart ops x y = true
  back : ∀ i o, ops[i]? = some o → ∀ e ∈ o.after, Region.binds .any e = true → e.on < i

section
variable {P : Program} {ops : Array Oper} {nt : Nat} {A : Nat → T AV} {S Tt : Nat → St}

theorem Run.wl (h : Run P ops nt A S Tt) {i : Nat} (hi : i < ops.size) : ∀ j, In (Tt i).w j → In (Tt i).l j := by
  obtain ⟨o, _, h1, _⟩ := h.one i hi
  exact h1.wl (fun j hj => absurd hj (not_in_zero j))
theorem Run.step1 (h : Run P ops nt A S Tt) {i : Nat} (hi : i < ops.size) : Step (S i) (S (i + 1)) := by
  obtain ⟨o, _, h1, _⟩ := h.one i hi
  rw [h.next i hi]
  refine ⟨fun j hj => (in_lor _ _ _).2 (.inl hj), fun j hj => (in_lor _ _ _).2 (.inl hj), fun k j hj => ?_, fun j hj => ?_, h1.o⟩
  · exact (in_lor _ _ _).2 (((in_lor _ _ _).1 hj).imp (k j) (h.wl hi j))
  · exact h1.h j (fun hw => hj ((in_lor _ _ _).2 (.inr hw)))
theorem Run.steps (h : Run P ops nt A S Tt) : ∀ i j, i ≤ j → j ≤ ops.size → Step (S i) (S j) := by
  intro i j hij hj
  induction j with
  | zero => have : i = 0 := by omega
            subst this; exact Step.refl _
  | succ j ih =>
    by_cases h' : i ≤ j
    · exact (ih h' (by omega)).trans (h.step1 (by omega))
    · have : i = j + 1 := by omega
      subst this; exact Step.refl _
theorem Run.inL (h : Run P ops nt A S Tt) {i : Nat} (hi : i < ops.size) {j : Nat} (hj : In (Tt i).l j) : In (S ops.size).l j := by
  refine (h.steps (i + 1) ops.size (by omega) (Nat.le_refl _)).l j ?_
  rw [h.next i hi]; exact (in_lor _ _ _).2 (.inr hj)
theorem Run.inW (h : Run P ops nt A S Tt) {i : Nat} (hi : i < ops.size) {j : Nat} (hj : In (Tt i).w j) : In (S ops.size).w j := by
  refine (h.steps (i + 1) ops.size (by omega) (Nat.le_refl _)).w j ?_
  rw [h.next i hi]; exact (in_lor _ _ _).2 (.inr hj)
theorem Run.cs (h : Run P ops nt A S Tt) : ∀ i j, i ≤ j → j ≤ ops.size → (S i).c ≤ (S j).c := by
  intro i j hij hj
  induction j with
  | zero => have : i = 0 := by omega
            subst this; exact Nat.le_refl _
  | succ j ih =>
    by_cases h' : i ≤ j
    · refine Nat.le_trans (ih h' (by omega)) ?_
      rw [h.next j (by omega)]; exact h.c j (by omega)
    · have : i = j + 1 := by omega
      subst this; exact Nat.le_refl _
theorem Run.heap_same (h : Run P ops nt A S Tt) (id : Nat) : ∀ j, j < ops.size → ¬ In (Tt j).w id → (S (j + 1)).h.get id = (S j).h.get id := by
  intro j hj hw
  obtain ⟨o, _, h1, _⟩ := h.one j hj
  rw [h.next j hj]
  exact h1.h id hw
def dstOf (ops : Array Oper) (j : Nat) : Option Tmp := (ops[j]?).bind (·.dst)
theorem Run.tmp_same (h : Run P ops nt A S Tt) (t : Tmp) : ∀ j, j < ops.size → ¬ dstOf ops j = some t → (A (j + 1)).get t = (A j).get t := by
  intro j hj hw
  obtain ⟨o, ho, _, _, u, hA, _⟩ := h.one j hj
  rw [hA]
  unfold putT
  cases hd : o.dst with
  | none => rfl
  | some d => exact T.put_ne _ _ _ _ (fun e => hw (by simp [dstOf, ho, hd, e]))

/-- The facts in the midst of a drawn region. -/
structure Mid (P : Program) (ops : Array Oper) (nt : Nat) (A : Nat → T AV) (S Tt : Nat → St) (G : Nat → Prop) (B : Nat) (E0 : Env) (w0 : World) (ds : List Deferred) (D : Nat → Prop) (E : Env) (ac : Act) (w : World) : Prop where
  inj : ∀ i j b C D, B ≤ b → E i = .live b C → E j = .live b D → i = j
  lt : ∀ i b C, E i = .live b C → b < w.heap.size
  base : B ≤ w.heap.size
  glob : ∀ g, g < 64 → (E g).at g
  fact : ∀ id k o, G id → Cur ops.size D (fun j => In (Tt j).w id) k → (S k).h.get id = some o → ∃ b C ob, E id = .live b C ∧ w.heap[b]? = some ob ∧ OkObj E id o ob ∧ (o.fixed = true ∨ B ≤ b)
  same : ∀ id, (∀ j, j < ops.size → D j → ¬ In (Tt j).w id) → E id = E0 id
  size : ac.tmps.size = nt
  tmp : ∀ t k v, Cur ops.size D (fun j => dstOf ops j = some t) k → (A k).get t = some v → ∃ x, ac.tmps[t]? = some x ∧ Rel E v x
  ext : Ext B (S ops.size).w E0 E w0 w
  defers : ac.defers = ds
  orc : OrcOk (S 0).o E.ρ

variable {G : Nat → Prop} {B : Nat} {E0 E : Env} {w0 w : World} {ds : List Deferred} {D : Nat → Prop} {ac : Act} {ro : Option Nat}

theorem Run.ordH (h : Run P ops nt A S Tt) (hc : Closed ops D) {i : Nat} (hi : i < ops.size) (hnd : ¬ D i) (hr : ∀ o e, ops[i]? = some o → e ∈ o.after → Region.binds .any e = true → D e.on) {id : Nat} (hid : In (Tt i).l id) :
    ∀ j, j < ops.size → In (Tt j).w id → (j < i ∧ D j) ∨ (i ≤ j ∧ ¬ D j) := by
  intro j hj hw
  rcases Nat.lt_trichotomy j i with hlt | rfl | hgt
  · left
    refine ⟨hlt, ?_⟩
    rcases h.logs j i hlt hi with hre | ⟨h1, _⟩
    · exact hre.ready hc hr
    · exact (h1 id hw hid).elim
  · exact .inr ⟨Nat.le_refl _, hnd⟩
  · right
    refine ⟨by omega, fun hdj => ?_⟩
    rcases h.logs i j hgt hj with hre | ⟨_, h2⟩
    · exact hnd (hre.done hc hdj)
    · exact h2 id hw hid
theorem Run.ordT (h : Run P ops nt A S Tt) (hc : Closed ops D) {i : Nat} {o : Oper} (ho : ops[i]? = some o) (hnd : ¬ D i) (hr : ∀ o e, ops[i]? = some o → e ∈ o.after → Region.binds .any e = true → D e.on) {t : Tmp} (ht : t ∈ o.looksAt ops ∨ o.dst = some t) :
    ∀ j, j < ops.size → dstOf ops j = some t → (j < i ∧ D j) ∨ (i ≤ j ∧ ¬ D j) := by
  intro j hj hw
  have hoj : ∃ oj, ops[j]? = some oj ∧ oj.dst = some t := by
    unfold dstOf at hw
    cases hq : ops[j]? with
    | none => rw [hq] at hw; cases hw
    | some oj => rw [hq] at hw; exact ⟨oj, rfl, hw⟩
  obtain ⟨oj, hoj, hdj⟩ := hoj
  rcases Nat.lt_trichotomy j i with hlt | rfl | hgt
  · left
    refine ⟨hlt, ?_⟩
    rcases h.tmps j i oj o hlt hoj ho with hre | hap
    · exact hre.ready hc hr
    · obtain ⟨a1, a2, a3⟩ := Oper.apart_spec hap
      rcases ht with ht | ht
      · exact absurd ht (a1 t hdj)
      · exact absurd ht (a2 t hdj)
  · exact .inr ⟨Nat.le_refl _, hnd⟩
  · right
    refine ⟨by omega, fun hd => ?_⟩
    rcases h.tmps i j o oj hgt ho hoj with hre | hap
    · exact hnd (hre.done hc hd)
    · obtain ⟨a1, a2, a3⟩ := Oper.apart_spec hap
      rcases ht with ht | ht
      · exact a3 t hdj ht
      · exact a2 t ht hdj

/-- One operation more. -/
theorem Mid.step (h : Run P ops nt A S Tt) (hm : Mid P ops nt A S Tt G B E0 w0 ds D E ac w) (hG : ∀ j, In (S ops.size).l j → G j) (hfresh : ∀ id, (S 0).c ≤ id → G id → E0 id = .unborn) (hc : Closed ops D) {i : Nat} (hi : i < ops.size) (hnd : ¬ D i)
    (hr : ∀ o e, ops[i]? = some o → e ∈ o.after → Region.binds .any e = true → D e.on) {K : Act → World → Prop} {Q : Exit → Act → World → Prop}
    (hK : ∀ E' ac' w', Mid P ops nt A S Tt G B E0 w0 ds (fun j => D j ∨ j = i) E' ac' w' → K ac' w') : wpOpIn (fen ro) 0 P ops Q i K ac w := by
  obtain ⟨o, ho, hst, hdn, u, hA, hone⟩ := h.one i hi
  have hL : ∀ id, In (Tt i).l id → G id := fun id hid => hG id (h.inL hi hid)
  have hordH : ∀ id, In (Tt i).l id → ∀ j, j < ops.size → In (Tt j).w id → (j < i ∧ D j) ∨ (i ≤ j ∧ ¬ D j) := fun id hid => h.ordH hc hi hnd hr hid
  have hwlt : ∀ j, j < ops.size → ∀ id, In (Tt j).w id → id < (S (j + 1)).c := by
    intro j hj id hw
    rw [h.next j hj]
    exact h.lt j hj id (h.wl hj id hw)
  have hsat : Sat (fun id => In (Tt i).l id) B E (bare (S i)) w := by
    refine ⟨hm.inj, hm.lt, hm.base, hm.glob, ?_, ?_, by show OrcOk (S i).o E.ρ; rw [(h.steps 0 i (Nat.zero_le _) (by omega)).o]; exact hm.orc⟩
    · intro id hid hin
      have hid' : (S i).c ≤ id := hid
      rw [hm.same id ?_]
      · exact hfresh id (Nat.le_trans (h.cs 0 i (Nat.zero_le _) (by omega)) hid') (hL id hin)
      · intro j hj hd hw
        rcases hordH id hin j hj hw with ⟨hlt, _⟩ | ⟨_, hn⟩
        · have h1 := hwlt j hj id hw
          have h2 := h.cs (j + 1) i (by omega) (by omega)
          omega
        · exact hn hd
    · intro id ob hin hget
      obtain ⟨k, hk⟩ := Cur.exists ops.size D (fun j => In (Tt j).w id)
      have e := hk.ready (Nat.le_of_lt hi) (hordH id hin) (fun k => (S k).h.get id) (h.heap_same id)
      exact hm.fact id k ob (hL id hin) hk (e.trans hget)
  have hlook : ∀ t, t ∈ o.looksAt ops → ∀ v, (A i).get t = some v → ∃ x, ac.tmps[t]? = some x ∧ Rel E v x := by
    intro t ht v hv
    obtain ⟨k, hk⟩ := Cur.exists ops.size D (fun j => dstOf ops j = some t)
    have e := hk.ready (Nat.le_of_lt hi) (h.ordT hc ho hnd hr (.inl ht)) (fun k => (A k).get t) (h.tmp_same t)
    exact hm.tmp t k v hk (e.trans hv)
  have hlr : LRel E ops o (A i) ac := by
    refine ⟨fun x hx u hu => ?_, fun j want oj d g hg hj hd hgd => ?_⟩
    · cases x with
      | tmp t =>
        obtain ⟨y, hy, hrel⟩ := hlook t (List.mem_append_left _ (List.mem_filterMap.2 ⟨.tmp t, by simpa using hx, rfl⟩)) u hu
        have : ac.eval (.tmp t) = y := by simp [Act.eval, hy]
        rw [this]; exact hrel
      | const c => exact opd_ok (a := .e) (nt := nt) hm.glob ⟨hm.size, fun t v ht => by rw [T.get_e] at ht; cases ht⟩ hu
      | global g =>
        have e : opd (A i) (.global g) = opd .e (.global g) := by
          have hq : opS (.global g) = bi (Nat.blt g 64) ⟨fun _ => some (.ptr g 0)⟩ ⟨fun _ => none⟩ := rfl
          unfold opd
          rw [hq]
          cases Nat.blt g 64 <;> rfl
        rw [e] at hu
        exact opd_ok (a := .e) (nt := nt) hm.glob ⟨hm.size, fun t v ht => by rw [T.get_e] at ht; cases ht⟩ hu
      | func f => exact opd_ok (a := .e) (nt := nt) hm.glob ⟨hm.size, fun t v ht => by rw [T.get_e] at ht; cases ht⟩ hu
    · exact hlook d (List.mem_append_right _ (by simp [hg, hj, hd])) g hgd
  refine hone ho (fun j hj => hj) hsat hlr fun E' u' w' hu hs' hx => hK E' _ w' ?_
  have hnext : (S (i + 1)).h = (Tt i).h := by rw [h.next i hi]; rfl
  refine ⟨hs'.inj, hs'.lt, hs'.base, hs'.glob, ?_, ?_, ?_, ?_, ?_, ?_, by rw [← (h.steps 0 i (Nat.zero_le _) (by omega)).o, ← show (Tt i).o = (S i).o from hst.o]; exact hs'.orc⟩
  · intro id k ob hg hk hget
    by_cases hw : In (Tt i).w id
    · have hin := h.wl hi id hw
      have hk1 : k = i + 1 := hk.step_is hi hw (fun j hj hwj hd => by
        rcases hordH id hin j hj hwj with ⟨hlt, _⟩ | ⟨_, hn⟩
        · exact hlt
        · exact absurd hd hn)
      subst hk1
      rw [hnext] at hget
      exact hs'.fact id ob hin hget
    · have hk0 : Cur ops.size D (fun j => In (Tt j).w id) k := hk.step_not hw
      obtain ⟨b, C, obj, he, hb, hok, hf⟩ := hm.fact id k ob hg hk0 hget
      have he' : E' id = .live b C := (hx.keep id hw).trans he
      exact ⟨b, C, obj, he', (hx.block id b C hw he).trans hb, hok.mono hx.le (fun b' C' h' => by rw [he] at h'; cases h'; exact he'), hf⟩
  · intro id hid
    rw [hx.keep id (hid i hi (.inr rfl))]
    exact hm.same id fun j hj hd => hid j hj (.inl hd)
  · cases hd : o.dst <;> simpa [Act.put] using hm.size
  · intro t k v hk hget
    by_cases hw : dstOf ops i = some t
    · have hdt : o.dst = some t := by simpa [dstOf, ho] using hw
      have hk1 : k = i + 1 := hk.step_is hi hw (fun j hj hwj hd => by
        rcases h.ordT hc ho hnd hr (.inr hdt) j hj hwj with ⟨hlt, _⟩ | ⟨_, hn⟩
        · exact hlt
        · exact absurd hd hn)
      subst hk1
      rw [hA, hdt] at hget
      rcases T.put_some hget with ⟨_, hx'⟩ | ⟨hne, _⟩
      · cases hx'
        have := hdn t hdt
        exact ⟨u', by simp [Act.put, hdt, hm.size, this], hu⟩
      · exact absurd rfl hne
    · have hk0 : Cur ops.size D (fun j => dstOf ops j = some t) k := hk.step_not hw
      obtain ⟨x, hx1, hx2⟩ := hm.tmp t k v hk0 hget
      refine ⟨x, ?_, hx2.mono hx.le⟩
      cases hd : o.dst with
      | none => simpa [Act.put] using hx1
      | some d =>
        have hne : d ≠ t := fun e => hw (by simp [dstOf, ho, hd, e])
        simp [Act.put, Array.getElem?_setIfInBounds_ne hne, hx1]
  · exact hm.ext.trans (hx.more fun j hj => h.inW hi hj) (fun j hj => hj)
  · rw [act_put_defers]; exact hm.defers
end
end Ev
end Go.Proofs.YtbjllaknnpbkkaaGreatDoor
