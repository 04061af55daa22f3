/-
  The evaluator: append.
-/
import Derived.Test.YtbjllaknnpbkkaaGreatDoorSz10
import Derived.Laws.Append
namespace Go.Proofs.YtbjllaknnpbkkaaGreatDoor
namespace Ev
open Go.RowKit

section
variable {P : Program} {G : Nat → Prop} {B : Nat} {E : Env} {s s' : St} {w : World} {v : AV}

/-- An id's object is forgotten. -/
theorem Sat.kill (h : Sat G B E s w) (i : Nat) (hu : E i ≠ .unborn) : Sat G B (E.set i .dead) (s.set i none) w ∧ Ext B (s.set i none).w E (E.set i .dead) w w := by
  have hle : E.le (E.set i .dead) := E.set_le _ _ (by cases hE : E i <;> simp_all [Slot.le])
  have hlive : ∀ j b C, E.set i .dead j = .live b C → j ≠ i ∧ E j = .live b C := by
    intro j b C hj
    by_cases hji : j = i
    · subst hji; rw [Env.set_same] at hj; cases hj
    · rw [Env.set_ne _ _ hji] at hj; exact ⟨hji, hj⟩
  refine ⟨⟨?_, ?_, h.base, fun g hg => Slot.at_le (hle g) (h.glob g hg), ?_, ?_, h.orc⟩, hle, ?_, fun _ _ _ _ _ => rfl, Below.refl _ _⟩
  · intro j k b C D hb hj hk
    exact h.inj j k b C D hb (hlive _ _ _ hj).2 (hlive _ _ _ hk).2
  · intro j b C hj
    exact h.lt j b C (hlive _ _ _ hj).2
  · intro j hj hg
    have hju := h.fresh j hj hg
    rw [Env.set_ne _ _ (fun e => hu (by rw [← e]; exact hju))]; exact hju
  · intro j o hg hj
    rcases T.put_some hj with ⟨_, hx⟩ | ⟨hne, hx⟩
    · cases hx
    · obtain ⟨b, C, ob, he, hb, hok, hf⟩ := h.fact j o hg hx
      exact ⟨b, C, ob, (Env.set_ne _ _ hne).trans he, hb, hok.mono hle (fun b X hbx => (Env.set_ne _ _ hne).trans hbx), hf⟩
  · intro j hj
    exact Env.set_ne _ _ (fun e => hj ((in_lor _ _ _).2 (.inr ((in_bit _ _).2 e.symm))))

/-- A new id takes over the block of one that is forgotten. -/
theorem Sat.take (h : Sat G B E s w) {i b C : Nat} {o o' : AObj} {ob' : Obj} (hg : G i) (hgc : G s.c) (ho : s.h.get i = some o) (hf : o.fixed = false) (hf' : o'.fixed = false) (he : E i = .live b C)
    (hok : OkObj ((E.set i .dead).set s.c (.live b C)) s.c o' ob') :
    Sat G B ((E.set i .dead).set s.c (.live b C)) ((s.set i none).new o') (w.putObj b ob') ∧ Ext B ((s.set i none).new o').w E ((E.set i .dead).set s.c (.live b C)) w (w.putObj b ob') := by
  have hu : E i ≠ .unborn := by rw [he]; simp
  have hcu := h.fresh s.c (Nat.le_refl _) hgc
  have hci : s.c ≠ i := fun e => by rw [e, he] at hcu; cases hcu
  obtain ⟨k1, k2⟩ := h.kill i hu
  have hlt := h.lt i b C he
  have hB : B ≤ b := by
    obtain ⟨b', C', ob, he', _, _, hx⟩ := h.fact i o hg ho
    rw [he] at he'
    cases he'
    rcases hx with hx | hx
    · rw [hf] at hx; cases hx
    · exact hx
  have hu2 : E.set i .dead s.c = .unborn := by rw [Env.set_ne _ _ hci]; exact hcu
  have hle2 : (E.set i .dead).le ((E.set i .dead).set s.c (.live b C)) := Env.set_le _ _ _ (by rw [hu2]; trivial)
  have hlive : ∀ j b' C', (E.set i .dead).set s.c (.live b C) j = .live b' C' → (j = s.c ∧ b' = b ∧ C' = C) ∨ (j ≠ s.c ∧ j ≠ i ∧ E j = .live b' C') := by
    intro j b' C' hj
    by_cases h1 : j = s.c
    · subst h1; rw [Env.set_same] at hj; cases hj; exact .inl ⟨rfl, rfl, rfl⟩
    · rw [Env.set_ne _ _ h1] at hj
      by_cases h2 : j = i
      · subst h2; rw [Env.set_same] at hj; cases hj
      · rw [Env.set_ne _ _ h2] at hj; exact .inr ⟨h1, h2, hj⟩
  have hnb : ∀ j b' C', j ≠ i → E j = .live b' C' → b' ≠ b := fun j b' C' hji hj e => hji (h.inj j i b' C' C (by rw [e]; exact hB) hj (by rw [e]; exact he))
  refine ⟨⟨?_, ?_, by simpa [World.putObj] using h.base, fun g hg => Slot.at_le (hle2 g) (k1.glob g hg), ?_, ?_, h.orc⟩, Env.le_trans k2.le hle2, ?_, ?_, ⟨rfl, rfl, rfl, by simp [World.putObj], fun k hk => ?_⟩⟩
  · intro j k b' X Y hbb hj hk
    rcases hlive _ _ _ hj with ⟨rfl, rfl, _⟩ | ⟨h1, h2, h3⟩ <;> rcases hlive _ _ _ hk with ⟨rfl, e2, _⟩ | ⟨h4, h5, h6⟩
    · rfl
    · exact absurd rfl (hnb _ _ _ h5 h6)
    · exact absurd e2 (hnb _ _ _ h2 h3)
    · exact h.inj _ _ _ _ _ hbb h3 h6
  · intro j b' X hj
    simp only [World.putObj, Array.size_setIfInBounds]
    rcases hlive _ _ _ hj with ⟨rfl, rfl, _⟩ | ⟨_, _, h3⟩
    · exact hlt
    · exact h.lt _ _ _ h3
  · intro j hj hgj
    have hj' : s.c + 1 ≤ j := hj
    have hju := h.fresh j (by omega) hgj
    rw [Env.set_ne _ _ (by omega), Env.set_ne _ _ (fun e => hu (by rw [← e]; exact hju))]; exact hju
  · intro j oj hgj hj
    rcases T.put_some hj with ⟨rfl, hx⟩ | ⟨hne, hx⟩
    · cases hx
      exact ⟨b, C, ob', Env.set_same _ _ _, by rw [heap_put hlt]; simp, hok, .inr hB⟩
    · rcases T.put_some hx with ⟨_, hx'⟩ | ⟨hne', hx'⟩
      · cases hx'
      · obtain ⟨b', C', ob, he', hb', hok', hx2⟩ := h.fact j oj hgj hx'
        have hne : j ≠ s.c := hne
        refine ⟨b', C', ob, by rw [Env.set_ne _ _ hne, Env.set_ne _ _ hne']; exact he', ?_, hok'.mono (Env.le_trans k2.le hle2) (fun b X hbx => by rw [Env.set_ne _ _ hne, Env.set_ne _ _ hne']; exact hbx), hx2⟩
        rw [heap_put hlt, if_neg (hnb _ _ _ hne' he'), hb']
  · intro j hj
    have h1 : j ≠ s.c := fun e => hj ((in_lor _ _ _).2 (.inr ((in_bit _ _).2 e.symm)))
    have h2 : j ≠ i := fun e => hj ((in_lor _ _ _).2 (.inl ((in_lor _ _ _).2 (.inr ((in_bit _ _).2 e.symm)))))
    rw [Env.set_ne _ _ h1, Env.set_ne _ _ h2]
  · intro j b' X hj he'
    have h2 : j ≠ i := fun e => hj ((in_lor _ _ _).2 (.inl ((in_lor _ _ _).2 (.inr ((in_bit _ _).2 e.symm)))))
    rw [heap_put hlt, if_neg (hnb _ _ _ h2 he')]
  · rw [heap_put hlt, if_neg (by omega)]

theorem zeroCells_size (zero : Array Value) (n : Nat) : (Builtin.zeroCells zero n).size = n * zero.size := by simp [Builtin.zeroCells]

/-- What is asked of the types at an append. -/
structure AppT (P : Program) (ts : Array TypeId) (e : TypeId) (z : Nat) (zero : Value) : Prop where
  t : ∃ st yt d, ts[0]? = some st ∧ ts[1]? = some yt ∧ P.underlying st = some (.slice e) ∧ P.underlying yt = some d ∧ isIntD d = false
  i : ∃ i, P.info? e = some i ∧ i.size = z ∧ i.bytes ≤ 4096 ∧ i.zero = some zero
  zs : zero.cells.size = z
  pos : 0 < z
theorem run_append_fit {ts : Array TypeId} {ty e : TypeId} {z n sLen sCap : Nat} {zero : Value} (ht : AppT P ts e z zero) {a : Addr} {y' : Value} {new : Array Value}
    (hl : (Builtin.lenOf y').run P w = .ok n w) (hnew : (Builtin.firstCells z n y').run P w = .ok new w) (hfit : sLen + n ≤ sCap) {w' : World} (hst : (storeCells (a.add (sLen * z)) new.toList).run P w = .ok () w') :
    (Builtin.append_ ts ty #[.slice (some a) sLen sCap, y']).run P w = .ok (.slice (some a) (sLen + n) sCap) w' := by
  obtain ⟨⟨st, yt, d, h0, h1, hu, hd, hi⟩, ⟨i, hi', hsz, hby, hz⟩, hzs, hpos⟩ := ht
  subst hsz
  simp only [Builtin.append_, h0, h1, Sem.run_bind, und_run hu, und_run hd, sizeOf, typeInfo, run_program, hi', Result.andThen_ok, Sem.run_pure, List.getElem?_toArray, List.getElem?_cons_zero, List.getElem?_cons_succ, Sem.run_ite]
  split
  · simp [isIntD] at hi
  · rename_i hc
    simp [hc, hl, hfit, hnew, hst]
theorem run_append_grow {ts : Array TypeId} {ty e : TypeId} {z n sLen sCap : Nat} {zero : Value} (ht : AppT P ts e z zero) {base : Option Addr} {y' : Value} {old new : Array Value}
    (hl : (Builtin.lenOf y').run P w = .ok n w) (hold : (Builtin.firstCells z sLen (.slice base sLen sCap)).run P w.drew = .ok old w.drew) (hnew : (Builtin.firstCells z n y').run P w.drew = .ok new w.drew) (hgrow : sCap < sLen + n) (hsmall : sLen + n ≤ 2000000) :
    (Builtin.append_ ts ty #[.slice base sLen sCap, y']).run P w =
      .ok (.slice (some ⟨w.heap.size, 0, none⟩) (sLen + n) (grownCap w (sLen + n) sCap e)) (w.drew.alloc (.cells (old ++ new ++ Builtin.zeroCells zero.cells (grownCap w (sLen + n) sCap e - (sLen + n))) e)) := by
  obtain ⟨⟨st, yt, d, h0, h1, hu, hd, hi⟩, ⟨i, hi', hsz, hby, hz⟩, hzs, hpos⟩ := ht
  subst hsz
  have hne : ¬ sLen + n ≤ sCap := by omega
  have hmax : ¬ (((sLen + n : Nat) : Int) > IntKind.i64.max) := by
    have : IntKind.i64.max = 9223372036854775807 := by decide
    omega
  have hmax' : ¬ (IntKind.i64.max < (sLen : Int) + (n : Int)) := by
    have : IntKind.i64.max = 9223372036854775807 := by decide
    omega
  have hcap : ¬ (Builtin.nextslicecap (sLen + n) sCap * i.bytes > 2 ^ 48) := by
    have h1 := nextslicecap_le hgrow
    have h2 : Builtin.nextslicecap (sLen + n) sCap * i.bytes ≤ (2 * (sLen + n)) * 4096 := Nat.mul_le_mul h1 hby
    omega
  have hcap' : ¬ (2 ^ 48 < Builtin.nextslicecap (sLen + n) sCap * i.bytes) := hcap
  have hch : ∀ W : World, (choose (.appendCap (sLen + n) sCap e)).run P w = .ok (grownCap w (sLen + n) sCap e) w.drew := fun _ => by simp [Question.forced, grownCap]
  simp only [Builtin.append_, h0, h1, Sem.run_bind, und_run hu, und_run hd, sizeOf, typeInfo, run_program, hi', Result.andThen_ok, Sem.run_pure, List.getElem?_toArray, List.getElem?_cons_zero, List.getElem?_cons_succ, Sem.run_ite]
  split
  · simp [isIntD] at hi
  · rename_i hc
    have hmx : ¬ ((9223372036854775807 : Int) < (sLen : Int) + (n : Int)) := by omega
    simp [hc, hl, hne, hmx, hmax', hcap', hold, hnew, zeroValue, typeInfo, hi', hz, newRow, Question.forced, grownCap]

theorem rel_open {E : Env} {k b C len : Nat} (h : len ≤ C) : Rel (E.set k (.live b C)) (.slice k 0 len none 0) (.slice (some ⟨b, 0, none⟩) len C) :=
  .slice (by rw [Env.set_same]; rfl) ⟨h, by rw [Env.set_same]; simp⟩
theorem storeN_in {i off : Nat} {l : List AV} (h : storeN s i off l = some s') : In s'.l i := by
  obtain ⟨o, h1, h2⟩ := oc_some h
  unfold cellsC at h2
  split at h2
  · obtain ⟨_, h2⟩ := bc_some h2
    obtain ⟨_, h2⟩ := bc_some h2
    obtain ⟨vs', hset, h2⟩ := oc_some h2
    cases h2
    exact in_set _ _ _
  · cases h2
theorem appendKnown_ok {ts : Array TypeId} {ty e : TypeId} {z n : Nat} {zero : Value} (ht : AppT P ts e z zero) (hn : n ≤ 1000000) {new : List AV} {i off len c : Nat} (hone : allOne new = true) (h : appendKnown e z n new i off len c s = some (v, s')) :
    Step s s' ∧ ∀ {G B E w b y' ys}, (∀ j, In s'.l j → G j) → Sat G B E s w → (E i).at b → RelL E new ys → ys.length = n * z → (∀ W : World, W.heap = w.heap → (Builtin.lenOf y').run P W = .ok n W ∧ (Builtin.firstCells z n y').run P W = .ok ys.toArray W) →
      Ok1 P G B s' v E w (Builtin.append_ ts ty #[.slice (some ⟨b, off, none⟩) len c, y']) := by
  unfold appendKnown at h
  cases hfit : Nat.ble (Nat.add len n) c with
  | true =>
    rw [hfit, bi_true] at h
    obtain ⟨s2, hs2, h⟩ := oc_some h
    cases h
    refine ⟨storeN_step hs2, fun {G B E w b y' ys} hG hs hb hr hlen hy => ?_⟩
    obtain ⟨b', C, w', he, hrun, k1, k2⟩ := hs.storeN (P := P) hG hs2 hr
    obtain rfl := hs.at_live he hb
    obtain ⟨hy1, hy2⟩ := hy w rfl
    have hfit' : len + n ≤ c := by simpa using hfit
    refine ⟨E, _, w', run_append_fit ht hy1 hy2 hfit' ?_, .slice hb rfl, k1, k2⟩
    rw [addr_add]; simpa using hrun
  | false =>
    rw [hfit, bi_false] at h
    obtain ⟨hl, h⟩ := bc_some h
    obtain ⟨old, hold, h⟩ := oc_some h
    obtain ⟨hone', h⟩ := bc_some h
    cases h
    refine ⟨(Step.see _ _).trans (Step.new _ _), fun {G B E w b y' ys} hG hs hb hr hlen hy => ?_⟩
    have hgi : G i := hG i ((in_lor _ _ _).2 (.inl (in_see _ _)))
    obtain ⟨b', C, os, he, hor, holen, hcell⟩ := hs.loadN hgi hold
    obtain rfl := hs.at_live he hb
    obtain ⟨hy1, _⟩ := hy w rfl
    obtain ⟨_, hy2⟩ := hy w.drew rfl
    have hgrow : c < len + n := by
      rcases Nat.lt_or_ge c (len + n) with h' | h'
      · exact h'
      · exact absurd (show Nat.ble (len + n) c = true by simpa using h') (by show ¬ Nat.ble (Nat.add len n) c = true; rw [hfit]; simp)
    have hl' : len ≤ 1000000 := by simpa using hl
    have holdrun : (Builtin.firstCells z len (.slice (some ⟨b, off, none⟩) len c)).run P w.drew = .ok os.toArray w.drew := by
      simp only [Builtin.firstCells]
      exact run_loadCells_at (w := w.drew) hcell holen
    have hrun := run_append_grow (ty := ty) ht hy1 holdrun hy2 hgrow (by omega)
    have hge := grownCap_ge w (len + n) c e
    obtain ⟨k1, k2⟩ := new_open (w := w.drew) (s := s.see i) (e := e) (z := z) (f := (0, 0)) (C := grownCap w (len + n) c e) (c := os.toArray ++ ys.toArray ++ Builtin.zeroCells zero.cells (grownCap w (len + n) c e - (len + n))) (xs := os ++ ys)
      (rest := (Builtin.zeroCells zero.cells (grownCap w (len + n) c e - (len + n))).toList) ((hs.seen i).drew _) hG (by simp) (hor.append hr) (by
        have holen' : os.length = len * z := holen
        simp only [Array.size_append, List.size_toArray, zeroCells_size, holen', hlen, ht.zs]
        rw [← Nat.add_mul, ← Nat.add_mul]
        congr 1
        omega) (fun off h1 h2 => by simp at h2)
    exact ⟨_, _, _, hrun, rel_open hge, k1, (Ext.drew (B := B) (E := E) (w := w) _ _).trans k2 (fun j hj => hj)⟩
theorem appendOpen_ok {ts : Array TypeId} {ty e : TypeId} {z n : Nat} {zero : Value} (ht : AppT P ts e z zero) (hn : n ≤ 1000000) {new : List AV} {i off len dr : Nat} (hone : allOne new = true) (h : appendOpen e z n new i off len dr s = some (v, s')) :
    Step s s' ∧ ∀ {G B E w b y' ys c}, (∀ j, In s'.l j → G j) → Sat G B E s w → (E i).at b → capOk (E i) none dr len c → RelL E new ys → ys.length = n * z → (∀ W : World, W.heap = w.heap → (Builtin.lenOf y').run P W = .ok n W ∧ (Builtin.firstCells z n y').run P W = .ok ys.toArray W) →
      Ok1 P G B s' v E w (Builtin.append_ ts ty #[.slice (some ⟨b, off, none⟩) len c, y']) := by
  obtain ⟨o, ho, h1⟩ := oc_some h
  clear h
  unfold cellsC at h1
  split at h1
  case h_2 => cases h1
  rename_i vs e' fz op
  obtain ⟨z', hop, h2⟩ := oc_some h1
  clear h1
  subst hop
  obtain ⟨hee, h3⟩ := bc_some h2
  obtain ⟨hzz, h4⟩ := bc_some h3
  obtain ⟨hoff, h5⟩ := bc_some h4
  clear h2 h3 h4
  have hee' : e = e' := by simpa using hee
  have hzz' : z = z' := by simpa using hzz
  have hoff' : off = dr * z := by simpa using hoff
  subst hee' hzz'
  cases hfit : Nat.ble (Nat.add off (Nat.mul (Nat.add len n) z)) vs.length with
  | true =>
    rw [hfit, bi_true] at h5
    obtain ⟨s2, hs2, h6⟩ := oc_some h5
    cases h6
    refine ⟨storeN_step hs2, fun {G B E w b y' ys c} hG hs hb hc hr hlen hy => ?_⟩
    have hgi : G i := hG i (storeN_in hs2)
    obtain ⟨b0, C0, ob, he0, hb0, hok, _⟩ := hs.fact i _ hgi ho
    obtain ⟨cc, f, xs, rest, b1, C1, rfl, hx, hrx, he1, hsz, hfz⟩ := hok
    rw [he0] at he1
    cases he1
    obtain ⟨b', C, w', he, hrun, k1, k2⟩ := hs.storeN (P := P) hG hs2 hr
    rw [he0] at he
    cases he
    obtain rfl := hs.at_live he0 hb
    obtain ⟨hy1, hy2⟩ := hy w rfl
    obtain ⟨hlc, hcx⟩ := hc
    rw [he0] at hcx
    simp only at hcx
    have hfit' : off + (len + n) * z ≤ vs.length := by simpa using hfit
    have hxl := hrx.length
    have hcs : cc.size = xs.length + rest.length := by rw [← Array.length_toList, hx]; simp
    have hC : dr + (len + n) ≤ C0 := by
      refine Nat.le_of_mul_le_mul_right (c := z) ?_ ht.pos
      rw [Nat.add_mul, ← hoff', ← hsz]; omega
    refine ⟨E, _, w', run_append_fit ht hy1 hy2 (by omega) ?_, .slice hb ⟨by show len + n ≤ c; omega, by rw [he0]; exact hcx⟩, k1, k2⟩
    rw [addr_add]; simpa using hrun
  | false =>
    rw [hfit, bi_false] at h5
    obtain ⟨hdr, h6⟩ := bc_some h5
    obtain ⟨hl, h7⟩ := bc_some h6
    obtain ⟨hun, h8⟩ := bc_some h7
    obtain ⟨old, hold, h9⟩ := oc_some h8
    obtain ⟨hone', h10⟩ := bc_some h9
    clear h5 h6 h7 h8 h9
    cases h10
    have hdr' : dr = 0 := by simpa using hdr
    have hl' : len ≤ 1000000 := by simpa using hl
    subst hdr'
    rw [Nat.zero_mul] at hoff'
    subst hoff'
    refine ⟨(Step.set _ _ _).trans (Step.new _ _), fun {G B E w b y' ys c} hG hs hb hc hr hlen hy => ?_⟩
    have hgi : G i := hG i ((in_lor _ _ _).2 (.inl (in_set _ _ _)))
    have hgc : G s.c := hG s.c (in_new _ _)
    obtain ⟨b0, C0, ob, he0, hb0, hok, _⟩ := hs.fact i _ hgi ho
    obtain ⟨cc, f, xs, rest, b1, C1, rfl, hx, hrx, he1, hsz, hfz⟩ := hok
    rw [he0] at he1
    cases he1
    obtain rfl := hs.at_live he0 hb
    obtain ⟨hlc, hcx⟩ := hc
    rw [he0] at hcx
    simp only [Nat.sub_zero] at hcx
    subst hcx
    obtain ⟨rfl, holdle⟩ := takeN_some _ hold
    have holdle' : len * z ≤ vs.length := holdle
    have hxl := hrx.length
    have hcs : cc.size = xs.length + rest.length := by rw [← Array.length_toList, hx]; simp
    have hor : RelL E (vs.take (Nat.mul len z)) (xs.take (len * z)) := hrx.take _
    by_cases hin : len + n ≤ c
    · obtain ⟨hy1, hy2⟩ := hy w rfl
      have hfits : len * z + ys.length ≤ cc.size := by
        rw [hlen, ← Nat.add_mul, hsz]; exact Nat.mul_le_mul_right _ hin
      have hnl := hr.length
      have hst := run_storeCells_in (P := P) b (0 + len * z) e f ys 0 cc w hb0 (by omega) (fun j hj hx => by
        have := hfz (0 + len * z + 0 + j) (by omega) hx.1 hx.2
        have hun' : unfrozen fz (len * z) new.length = true := hun
        simp only [unfrozen, Bool.or_eq_true, Nat.ble_eq] at hun'
        omega) (hr.one (allOne_mem hone))
      rw [setRow_put hb0] at hst
      have hst' : (storeCells ⟨b, 0 + len * z, none⟩ ys).run P w = .ok () (w.putObj b (.cells (cc.toList.take (len * z) ++ ys ++ cc.toList.drop (len * z + ys.length)).toArray e f)) := by
        simp only [Nat.add_zero, Nat.zero_add] at hst ⊢; exact hst
      have hrun := run_append_fit (ty := ty) ht hy1 hy2 hin (a := ⟨b, 0, none⟩) (by rw [addr_add]; simpa only [List.toList_toArray] using hst')
      have hcu := hs.fresh s.c (Nat.le_refl _) hgc
      have hle : E.le ((E.set i .dead).set s.c (.live b c)) := by
        have hci : s.c ≠ i := fun e => by rw [e, he0] at hcu; cases hcu
        exact Env.le_trans (E.set_le _ _ (by rw [he0]; trivial)) (Env.set_le _ _ _ (by rw [Env.set_ne _ _ hci, hcu]; trivial))
      obtain ⟨k1, k2⟩ := hs.take (o' := .cells (vs.take (Nat.mul len z) ++ new) e fz (some z)) (ob' := .cells (cc.toList.take (len * z) ++ ys ++ cc.toList.drop (len * z + ys.length)).toArray e f) hgi hgc ho rfl rfl he0
        ⟨_, f, xs.take (len * z) ++ ys, cc.toList.drop (len * z + ys.length), b, c, rfl, by
          rw [hx, List.take_append_of_le_length (by omega)], (hor.append hr).mono hle, Env.set_same _ _ _, by rw [← hsz]; simp; omega, fun off' ho' => hfz off' (by simp at ho'; omega)⟩
      exact ⟨_, _, _, hrun, rel_open hin, k1, k2⟩
    · obtain ⟨hy1, _⟩ := hy w rfl
      obtain ⟨_, hy2⟩ := hy w.drew rfl
      have holdrun : (Builtin.firstCells z len (.slice (some ⟨b, 0, none⟩) len c)).run P w.drew = .ok (xs.take (len * z)).toArray w.drew := by
        simp only [Builtin.firstCells]
        refine run_loadCells_at (w := w.drew) (fun j v hj => ?_) (by simp; omega)
        rw [List.getElem?_take] at hj
        split at hj
        · have : cc[j]? = some v := by
            rw [← Array.getElem?_toList, hx, List.getElem?_append_left (List.getElem?_eq_some_iff.1 hj).1]; exact hj
          have hb0' : w.drew.heap[b]? = some (.cells cc e f) := hb0
          simp [World.cell?, hb0', this]
        · cases hj
      have hrun := run_append_grow (ty := ty) ht hy1 holdrun hy2 (by omega) (by omega)
      have hge := grownCap_ge w (len + n) c e
      obtain ⟨q1, q2⟩ := (hs.drew (w.drawn + 1)).kill i (by rw [he0]; simp)
      have hcu := hs.fresh s.c (Nat.le_refl _) hgc
      have hci : s.c ≠ i := fun e => by rw [e, he0] at hcu; cases hcu
      have hle : E.le ((E.set i .dead).set s.c (.live w.heap.size (grownCap w (len + n) c e))) :=
        Env.le_trans (E.set_le _ _ (by rw [he0]; trivial)) (Env.set_le _ _ _ (by rw [Env.set_ne _ _ hci, hcu]; trivial))
      obtain ⟨k1, k2⟩ := q1.new (o := .cells (vs.take (Nat.mul len z) ++ new) e fz (some z)) (C := grownCap w (len + n) c e)
        (ob := .cells ((xs.take (len * z)).toArray ++ ys.toArray ++ Builtin.zeroCells zero.cells (grownCap w (len + n) c e - (len + n))) e (0, 0)) hgc rfl
        ⟨_, (0, 0), xs.take (len * z) ++ ys, (Builtin.zeroCells zero.cells (grownCap w (len + n) c e - (len + n))).toList, _, _, rfl, by simp, (hor.append hr).mono hle, Env.set_same _ _ _, by
          have hxt : (xs.take (len * z)).length = len * z := by simp; omega
          simp only [Array.size_append, List.size_toArray, zeroCells_size, hxt, hlen, ht.zs]
          rw [← Nat.add_mul, ← Nat.add_mul]
          congr 1
          omega, fun off' _ _ h3 => by simp at h3⟩
      refine ⟨_, _, _, hrun, rel_open hge, k1, ?_⟩
      exact ((Ext.drew (B := B) (E := E) (w := w) (s.set i none).w (w.drawn + 1)).trans q2 (fun j hj => hj)).trans k2 (fun j hj => (in_lor _ _ _).2 (.inl hj))
theorem bytesStrict_some {E : Env} : ∀ {l : List AV} {b : List UInt8} {ys : List Value}, bytesStrict l = some b → RelL E l ys → ys = b.map fun x => Value.int .u8 x.toNat
  | _, b, _, h, .nil => by cases h; rfl
  | _, b, _, h, .cons hx ht => by
    unfold bytesStrict at h
    split at h
    · rename_i heq; cases heq
    · rename_i n r heq
      cases heq
      obtain ⟨m, hm, h1⟩ := oc_some h
      obtain ⟨hlt, h2⟩ := bc_some h1
      obtain ⟨l', hl, h3⟩ := oc_some h2
      cases h3
      have hn := natOf_some hm
      subst hn
      cases hx
      rw [bytesStrict_some hl ht]
      have hlt' : m < 256 := by simpa using hlt
      have hm' : (UInt8.ofNat m).toNat = m := by simp [UInt8.toNat_ofNat']; omega
      simp [hm']
    · cases h
theorem bytesV_cat (l m : List UInt8) : bytesV (l ++ m) = bytesV l ++ bytesV m := by simp [bytesV]
theorem pcsStrict_some {E : Env} {O : Orc} (ho : OrcOk O E.ρ) : ∀ {l : List AV} {ps : List Pc} {ys : List Value}, pcsStrict O l = some ps → RelL E l ys → ys = bytesV (psVal E.ρ ps)
  | _, b, _, h, .nil => by cases h; rfl
  | _, b, _, h, .cons hx ht => by
    unfold pcsStrict at h
    split at h
    · rename_i heq; cases heq
    · rename_i n r heq
      cases heq
      obtain ⟨m, hm, h1⟩ := oc_some h
      obtain ⟨hlt, h2⟩ := bc_some h1
      obtain ⟨l', hl, h3⟩ := oc_some h2
      cases h3
      have hn := natOf_some hm
      subst hn
      cases hx
      rw [pcsStrict_some ho hl ht, psVal_cat, psVal_one, bytesV_cat]
      have hlt' : m < 256 := by simpa using hlt
      have hm' : (UInt8.ofNat m).toNat = m := by simp [UInt8.toNat_ofNat']; omega
      simp [bytesV, hm']
    · rename_i e r heq
      cases heq
      obtain ⟨h1, h⟩ := bc_some h
      obtain ⟨h2, h⟩ := bc_some h
      obtain ⟨l', hl, h3⟩ := oc_some h
      cases h3
      cases hx
      have h1 : (0 : Int) ≤ e.val E.ρ := leO_ok ho h1
      have h2 : e.val E.ρ ≤ 255 := leO_ok ho h2
      rw [pcsStrict_some ho hl ht]
      have hm' : ((UInt8.ofNat (e.val E.ρ).toNat).toNat : Int) = e.val E.ρ := by
        rw [UInt8.toNat_ofNat', Nat.mod_eq_of_lt (by omega)]
        omega
      show Value.int .u8 (e.val E.ρ) :: bytesV (psVal E.ρ l') = bytesV ([UInt8.ofNat (e.val E.ρ).toNat] ++ psVal E.ρ l')
      rw [bytesV_cat]
      simp only [bytesV, List.map_cons, List.map_nil, List.cons_append, List.nil_append, hm']
    · cases h
theorem bytesV_length (l : List UInt8) : (bytesV l).length = l.length := by simp [bytesV]
theorem bytesV_append (l m : List UInt8) : bytesV (l ++ m) = bytesV l ++ bytesV m := by simp [bytesV]
theorem bytesV_one (l : List UInt8) : ∀ v ∈ bytesV l, v.oneCell' = true := by
  intro v hv
  obtain ⟨b, _, rfl⟩ := List.mem_map.1 hv
  rfl
/-- A row of bytes is appended to: the new row. -/
theorem bufNew_ok {ts : Array TypeId} {ty e : TypeId} {zero : Value} (ht : AppT P ts e 1 zero) {i b C : Nat} {o : AObj} {cc : Array Value} {f : Nat × Nat} {old new : List UInt8} {rest : List Value} {r : List Pc} {y' : Value}
    (hs : Sat G B E s w) (hgi : G i) (hgc : G s.c) (ho : s.h.get i = some o) (hof : o.fixed = false) (he0 : E i = .live b C) (hb0 : w.heap[b]? = some (.cells cc e f)) (hx : cc.toList = bytesV old ++ rest) (hsz : cc.size = C) (hfz : ∀ off, off < cc.size → f.1 ≤ off → off < f.2 → False)
    (hol : old.length ≤ 1000000) (hnl : new.length ≤ 1000000) (hy : ∀ W : World, W.heap = w.heap → (Builtin.lenOf y').run P W = .ok new.length W ∧ (Builtin.firstCells 1 new.length y').run P W = .ok (bytesV new).toArray W)
    (hval : psVal E.ρ r = old ++ new) : Ok1 P G B ((s.set i none).new (.buf r e)) (.bslice s.c r) E w (Builtin.append_ ts ty #[.slice (some ⟨b, 0, none⟩) old.length C, y']) := by
  have hcs : cc.size = (bytesV old).length + rest.length := by rw [← Array.length_toList, hx]; simp
  rw [bytesV_length] at hcs
  have hcu := hs.fresh s.c (Nat.le_refl _) hgc
  have hci : s.c ≠ i := fun e => by rw [e, he0] at hcu; cases hcu
  have hrl : (psVal E.ρ r).length = old.length + new.length := by rw [hval]; simp
  have rel : ∀ {E' : Env} {b' C' : Nat}, E'.ρ = E.ρ → E' s.c = .live b' C' → old.length + new.length ≤ C' → Rel E' (.bslice s.c r) (.slice (some ⟨b', 0, none⟩) (old.length + new.length) C') := by
    intro E' b' C' hρ hE hle
    rw [← hrl, ← hρ]
    exact .bslice (by rw [hE]; rfl) ⟨by rw [hρ, hrl]; exact hle, by rw [hE]; simp⟩
  by_cases hin : old.length + new.length ≤ C
  · obtain ⟨hy1, hy2⟩ := hy w rfl
    have hst := run_storeCells_in (P := P) b (0 + old.length * 1) e f (bytesV new) 0 cc w hb0 (by rw [bytesV_length]; omega) (fun j hj hx => hfz (0 + old.length * 1 + 0 + j) (by rw [bytesV_length] at hj; omega) hx.1 hx.2) (bytesV_one new)
    rw [setRow_put hb0] at hst
    have hst' : (storeCells ⟨b, 0 + old.length * 1, none⟩ (bytesV new)).run P w = .ok () (w.putObj b (.cells (cc.toList.take old.length ++ bytesV new ++ cc.toList.drop (old.length + (bytesV new).length)).toArray e f)) := by
      simp only [Nat.add_zero, Nat.zero_add, Nat.mul_one] at hst ⊢; exact hst
    have hrun := run_append_fit (ty := ty) ht hy1 hy2 hin (a := ⟨b, 0, none⟩) (by rw [addr_add]; simpa only [List.toList_toArray] using hst')
    obtain ⟨k1, k2⟩ := hs.take (o' := .buf r e) (ob' := .cells (cc.toList.take old.length ++ bytesV new ++ cc.toList.drop (old.length + (bytesV new).length)).toArray e f) hgi hgc ho hof rfl he0
      ⟨_, f, cc.toList.drop (old.length + (bytesV new).length), b, C, rfl, by
        show _ = bytesV (psVal E.ρ r) ++ _
        rw [hval, bytesV_append, hx, List.take_append_of_le_length (by rw [bytesV_length]; omega), List.take_of_length_le (by rw [bytesV_length]; omega)], Env.set_same _ _ _, by rw [← hsz]; simp [bytesV_length]; omega, fun off' ho' => hfz off' (by simp [bytesV_length] at ho'; omega)⟩
    exact ⟨(E.set i .dead).set s.c (.live b C), _, _, hrun, rel rfl (Env.set_same _ _ _) hin, k1, k2⟩
  · obtain ⟨hy1, _⟩ := hy w rfl
    obtain ⟨_, hy2⟩ := hy w.drew rfl
    have holdrun : (Builtin.firstCells 1 old.length (.slice (some ⟨b, 0, none⟩) old.length C)).run P w.drew = .ok (bytesV old).toArray w.drew := by
      simp only [Builtin.firstCells]
      refine run_loadCells_at (w := w.drew) (fun j v hj => ?_) (by simp [bytesV_length])
      have : cc[j]? = some v := by
        rw [← Array.getElem?_toList, hx, List.getElem?_append_left (List.getElem?_eq_some_iff.1 hj).1]; exact hj
      have hb0' : w.drew.heap[b]? = some (.cells cc e f) := hb0
      simp [World.cell?, hb0', this]
    have hrun := run_append_grow (ty := ty) ht hy1 holdrun hy2 (by omega) (by omega)
    have hge := grownCap_ge w (old.length + new.length) C e
    obtain ⟨q1, q2⟩ := (hs.drew (w.drawn + 1)).kill i (by rw [he0]; simp)
    obtain ⟨k1, k2⟩ := q1.new (o := .buf r e) (C := grownCap w (old.length + new.length) C e)
      (ob := .cells ((bytesV old).toArray ++ (bytesV new).toArray ++ Builtin.zeroCells zero.cells (grownCap w (old.length + new.length) C e - (old.length + new.length))) e (0, 0)) hgc rfl
      ⟨_, (0, 0), (Builtin.zeroCells zero.cells (grownCap w (old.length + new.length) C e - (old.length + new.length))).toList, _, _, rfl, by
        show _ = bytesV (psVal E.ρ r) ++ _
        rw [hval, bytesV_append]; simp, Env.set_same _ _ _, by
        simp only [Array.size_append, List.size_toArray, zeroCells_size, bytesV_length, ht.zs, Nat.mul_one]
        omega, fun off' _ _ h3 => by simp at h3⟩
    refine ⟨(E.set i .dead).set s.c (.live w.heap.size (grownCap w (old.length + new.length) C e)), _, _, hrun, rel rfl (Env.set_same _ _ _) hge, k1, ?_⟩
    exact ((Ext.drew (B := B) (E := E) (w := w) (s.set i none).w (w.drawn + 1)).trans q2 (fun j hj => hj)).trans k2 (fun j hj => (in_lor _ _ _).2 (.inl hj))
end
end Ev
end Go.Proofs.YtbjllaknnpbkkaaGreatDoor
