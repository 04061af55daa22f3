/-
  The evaluator: drawn regions, whole.
-/
import Derived.Test.YtbjllaknnpbkkaaGreatDoorSz21
namespace Go.Proofs.YtbjllaknnpbkkaaGreatDoor
namespace Ev
open Go.RowKit

section
variable {P : Program} {ops : Array Oper} {nt : Nat} {A : Nat → T AV} {S Tt : Nat → St} {G : Nat → Prop} {B : Nat} {E0 : Env} {w0 : World} {ds : List Deferred} {ro : Option Nat}

/-- Done, by the list. -/
def done (listed : Array Bool) (j : Nat) : Prop := listed.getD j false = true
theorem Mid.congr {D D' : Nat → Prop} {E : Env} {ac : Act} {w : World} (hm : Mid P ops nt A S Tt G B E0 w0 ds D E ac w) (h : ∀ j, D j ↔ D' j) : Mid P ops nt A S Tt G B E0 w0 ds D' E ac w := by
  have : D = D' := funext fun j => propext (h j)
  subst this; exact hm
theorem Mid.all (h : Run P ops nt A S Tt) (hG : ∀ j, In (S ops.size).l j → G j) (hfresh : ∀ id, (S 0).c ≤ id → G id → E0 id = .unborn) {D : Nat → Prop} {E : Env} {ac : Act} {w : World} (hm : Mid P ops nt A S Tt G B E0 w0 ds D E ac w) (hall : ∀ j, j < ops.size → D j) :
    TRel E nt (A ops.size) ac.tmps ∧ Sat G B E (S ops.size) w := by
  refine ⟨⟨hm.size, fun t v hv => ?_⟩, hm.inj, hm.lt, hm.base, hm.glob, fun id hid hg => ?_, fun id o hg ho => ?_, by rw [(h.steps 0 ops.size (Nat.zero_le _) (Nat.le_refl _)).o]; exact hm.orc⟩
  · obtain ⟨k, hk⟩ := Cur.exists ops.size D (fun j => dstOf ops j = some t)
    have e := hk.ready (Nat.le_refl _) (fun j hj _ => .inl ⟨hj, hall j hj⟩) (fun k => (A k).get t) (h.tmp_same t)
    exact hm.tmp t k v hk (e.trans hv)
  · rw [hm.same id ?_]
    · exact hfresh id (Nat.le_trans (h.cs 0 ops.size (Nat.zero_le _) (Nat.le_refl _)) hid) hg
    · intro j hj _ hw
      have h1 : id < (S (j + 1)).c := by rw [h.next j hj]; exact h.lt j hj id (h.wl hj id hw)
      have h2 := h.cs (j + 1) ops.size (by omega) (Nat.le_refl _)
      omega
  · obtain ⟨k, hk⟩ := Cur.exists ops.size D (fun j => In (Tt j).w id)
    have e := hk.ready (Nat.le_refl _) (fun j hj _ => .inl ⟨hj, hall j hj⟩) (fun k => (S k).h.get id) (h.heap_same id)
    exact hm.fact id k o hg hk (e.trans ho)
theorem ready_nil (h : Run P ops nt A S Tt) {listed : Array Bool} (hsz : listed.size = ops.size) (hr : Region.ready .any ops listed = []) : ∀ j, j < ops.size → done listed j := by
  intro j
  induction j using Nat.strongRecOn with
  | _ j ih =>
    intro hj
    by_cases hd : done listed j
    · exact hd
    · exfalso
      have ho : ∃ o, ops[j]? = some o := ⟨ops[j], by simp [hj]⟩
      obtain ⟨o, ho⟩ := ho
      have : j ∈ Region.ready .any ops listed := by
        rw [mem_ready]
        refine ⟨?_, o, ho, fun e he hb => ?_⟩
        · unfold done at hd
          have hj' : j < listed.size := by omega
          simp [hj'] at hd ⊢
          exact hd
        · have hlt := h.back j o ho e he hb
          exact ih e.on hlt (by omega)
      rw [hr] at this
      cases this
theorem drawn_any (h : Run P ops nt A S Tt) (hG : ∀ j, In (S ops.size).l j → G j) (hfresh : ∀ id, (S 0).c ≤ id → G id → E0 id = .unborn) {Q : Exit → Act → World → Prop}
    (hQ : ∀ E' ac' w', TRel E' nt (A ops.size) ac'.tmps → ac'.defers = ds → Sat G B E' (S ops.size) w' → Ext B (S ops.size).w E0 E' w0 w' → Q .normal ac' w') :
    ∀ (fuel : Nat) (listed : Array Bool) (E : Env) (ac : Act) (w : World), listed.size = ops.size → card (fun j => listed.getD j false) ops.size + fuel = ops.size → Closed ops (done listed) → Mid P ops nt A S Tt G B E0 w0 ds (done listed) E ac w →
      wpAnyIn (fen ro) 0 P .any ops Q fuel listed ac w := by
  have fin : ∀ (listed : Array Bool) (E : Env) (ac : Act) (w : World), Mid P ops nt A S Tt G B E0 w0 ds (done listed) E ac w → (∀ j, j < ops.size → done listed j) → Q .normal ac w := by
    intro listed E ac w hm hall
    obtain ⟨h1, h2⟩ := hm.all h hG hfresh hall
    exact hQ E ac w h1 hm.defers h2 hm.ext
  intro fuel
  induction fuel with
  | zero =>
    intro listed E ac w hsz hcard hc hm
    have hall : ∀ j, j < ops.size → done listed j := card_all _ _ (by simpa using hcard)
    refine ⟨?_, fin listed E ac w hm hall⟩
    rw [List.eq_nil_iff_forall_not_mem]
    intro j hj
    obtain ⟨h1, o, ho, _⟩ := mem_ready.1 hj
    have hj' : j < ops.size := (Array.getElem?_eq_some_iff.1 ho).1
    have := hall j hj'
    unfold done at this
    have hj2 : j < listed.size := by omega
    simp [hj2] at h1 this
    rw [h1] at this; cases this
  | succ fuel ih =>
    intro listed E ac w hsz hcard hc hm
    refine ⟨fun hr => fin listed E ac w hm (ready_nil h hsz hr), fun i hi => ?_⟩
    obtain ⟨h1, o, ho, hr⟩ := mem_ready.1 hi
    have hi' : i < ops.size := (Array.getElem?_eq_some_iff.1 ho).1
    have hi2 : i < listed.size := by omega
    have hnd : ¬ done listed i := by
      unfold done
      simp [hi2] at h1 ⊢
      exact h1
    have hset : ∀ j, done (listed.setIfInBounds i true) j ↔ (done listed j ∨ j = i) := by
      intro j
      unfold done
      by_cases hji : j = i
      · subst hji; simp [hi2]
      · have : i ≠ j := fun e => hji e.symm
        simp [Array.getElem?_setIfInBounds_ne this, hji]
    refine hm.step h hG hfresh hc hi' hnd (fun o' e ho' he hb => ?_) fun E' ac' w' hm' => ?_
    · rw [ho] at ho'; cases ho'; exact hr e he hb
    · refine ih (listed.setIfInBounds i true) E' ac' w' (by simpa using hsz) ?_ ?_ (hm'.congr fun j => (hset j).symm)
      · have := card_set (fun j => listed.getD j false) (fun j => (listed.setIfInBounds i true).getD j false) i (by unfold done at hnd; simpa using hnd) (by simp [hi2]) (fun j hji => by
          have : i ≠ j := fun e => hji e.symm
          simp [Array.getElem?_setIfInBounds_ne this]) ops.size
        rw [this, if_pos hi']; omega
      · intro j oj e hd hoj he hb
        rcases (hset j).1 hd with hd | rfl
        · exact (hset _).2 (.inl (hc j oj e hd hoj he hb))
        · rw [ho] at hoj; cases hoj
          exact (hset _).2 (.inl (hr e he hb))
end
section
variable {P : Program} {r : Rec} {ops : Array Oper} {nt : Nat}
theorem run_of (hcall : CallOk P r.call) (hyld : YieldOk P r.yld) (hst : staticOk ops = true) {a a' : T AV} {s s' : St} {ls : List Log} (h : evDrawn P r nt ops.toList ops.toList 0 a s = some (a', s', ls)) (hl : logsOk (ancs ops.toList []) ls = true) :
    ∃ A S Tt, Run P ops nt A S Tt ∧ A 0 = a ∧ S 0 = s ∧ A ops.size = a' ∧ S ops.size = s' := by
  obtain ⟨A, S, Tt, ⟨q1, q2, q3, q4⟩, hA, hS, hA', hS', hlog, hpair⟩ := evDrawn_trace (P := P) (r := r) (nt := nt) (ancs ops.toList []) ops.toList 0 rfl h
  simp only [Nat.zero_add, Array.length_toList] at q1 q2 q3 q4 hA' hS' hlog hpair
  unfold staticOk at hst
  simp only [Bool.and_eq_true] at hst
  obtain ⟨hback, htmp⟩ := hst
  have hreach : ∀ j m i, (ancs ops.toList [])[j]? = some m → In m i → Reach ops i j := ancs_ok ops.toList [] rfl (fun j m i hj => by simp at hj)
  refine ⟨A, S, Tt, ⟨?_, fun i hi => q2 i (Nat.zero_le _) hi, fun i hi => q3 i (Nat.zero_le _) hi, fun i hi => q4 i (Nat.zero_le _) hi, ?_, ?_, ?_⟩, hA, hS, hA', hS'⟩
  · intro i hi
    obtain ⟨o, ho, he⟩ := q1 i (Nat.zero_le _) hi
    exact ⟨o, ho, evOne_ok hcall hyld he⟩
  · intro i j hij hj
    have wl : ∀ k, k < ops.size → ∀ x, In (Tt k).w x → In (Tt k).l x := by
      intro k hk
      obtain ⟨o, ho, he⟩ := q1 k (Nat.zero_le _) hk
      exact (evOne_ok hcall hyld he).1.wl (fun x hx => absurd hx (not_in_zero x))
    rcases hpair hl i j (Nat.zero_le _) hij hj with h0 | h0 | h0
    · right
      refine ⟨fun id hw _ => ?_, fun id _ hl' => ?_⟩
      · have := wl i (by omega) id hw; rw [h0] at this; exact not_in_zero _ this
      · rw [h0] at hl'; exact not_in_zero _ hl'
    · right
      refine ⟨fun id _ hl' => ?_, fun id hw _ => ?_⟩
      · rw [h0] at hl'; exact not_in_zero _ hl'
      · have := wl j hj id hw; rw [h0] at this; exact not_in_zero _ this
    · rcases logsApart_ok h0 with ⟨m, hm, hin⟩ | hd
      · exact .inl (hreach j m i hm hin)
      · exact .inr hd
  · intro i j x y hij hx hy
    have hx' : ops.toList.zipIdx[i]? = some (x, i) := by
      rw [List.getElem?_zipIdx, Array.getElem?_toList, hx]; simp
    have hy' : ops.toList.zipIdx[j]? = some (y, j) := by
      rw [List.getElem?_zipIdx, Array.getElem?_toList, hy]; simp
    rcases tmpsApart_ok htmp i j _ _ hij hx' hy' with ⟨m, hm, hin⟩ | hap
    · exact .inl (hreach j m i hm hin)
    · exact .inr hap
  · intro i o ho e he hb
    have := edgesBack_ok hback i o (by rw [Array.getElem?_toList]; exact ho) e he hb
    omega
/-- A drawn region. -/
theorem evDraw_ok (hcall : CallOk P r.call) (hyld : YieldOk P r.yld) (hmix : P.follows .mixedOrders = true) (hst : staticOk ops = true) {a a' : T AV} {s s' : St} {ls : List Log} (h : evDrawn P r nt ops.toList ops.toList 0 a s = some (a', s', ls)) (hl : logsOk (ancs ops.toList []) ls = true) :
    Step s s' ∧ ∀ {G : Nat → Prop} {B : Nat} {E : Env} {w : World} {ac : Act} {ro : Option Nat} {id : Nat}, (∀ j, In s'.l j → G j) → Sat G B E s w → TRel E nt a ac.tmps → ∀ {Q : Exit → Act → World → Prop},
      (∀ E' ac' w', TRel E' nt a' ac'.tmps → ac'.defers = ac.defers → Sat G B E' s' w' → Ext B s'.w E E' w w' → Q .normal ac' w') → (Code.region id ops true).wpIn (fen ro) 0 P Q ac w := by
  obtain ⟨A, S, Tt, hrun, rfl, rfl, rfl, rfl⟩ := run_of hcall hyld hst h hl
  refine ⟨hrun.steps 0 ops.size (Nat.zero_le _) (Nat.le_refl _), fun {G B E w ac ro id} hG hs ht {Q} hQ => ?_⟩
  refine wpIn_region_any hmix ?_
  have hs' := hs.drew (w.drawn + 1)
  have hnone : ∀ j, ¬ done (Array.replicate ops.size false) j := by
    intro j hj
    unfold done at hj
    simp [Array.getElem?_replicate] at hj
    split at hj <;> simp at hj
  refine drawn_any hrun hG hs.fresh (w0 := w) (E0 := E) (ds := ac.defers) hQ ops.size _ E ac _ (by simp) ?_ (fun j o e hd => absurd hd (hnone j)) ?_
  · have : ∀ n, card (fun j => (Array.replicate ops.size false).getD j false) n = 0 := by
      intro n
      induction n with
      | zero => rfl
      | succ n ih =>
        simp only [card, ih]
        have := hnone n
        unfold done at this
        simp [this]
    rw [this]; omega
  · have cur0 : ∀ (Wr : Nat → Prop) k, Cur ops.size (done (Array.replicate ops.size false)) Wr k → k = 0 := by
      intro Wr k hk
      rcases hk with ⟨rfl, _⟩ | ⟨j, _, _, hd, _⟩
      · rfl
      · exact absurd hd (hnone j)
    refine ⟨hs'.inj, hs'.lt, hs'.base, hs'.glob, ?_, fun _ _ => rfl, ht.1, ?_, Ext.drew _ _, rfl, hs'.orc⟩
    · intro x k o hg hk ho
      have := cur0 _ k hk
      subst this
      exact hs'.fact x o hg ho
    · intro t k v hk hv
      have := cur0 _ k hk
      subst this
      exact ht.2 t v hv
end
end Ev
end Go.Proofs.YtbjllaknnpbkkaaGreatDoor
