/-
  The evaluator: append, copy, clear, len, cap, max, min.
-/
import Derived.Test.YtbjllaknnpbkkaaGreatDoorSz11
namespace Go.Proofs.YtbjllaknnpbkkaaGreatDoor
namespace Ev
open Go.RowKit

section
variable {P : Program} {G : Nat → Prop} {B : Nat} {E : Env} {s s' : St} {w : World} {v : AV}

theorem append_nil_fit {ts : Array TypeId} {ty e : TypeId} {z : Nat} {zero : Value} (ht : AppT P ts e z zero) {y' : Value} {new : Array Value}
    (hl : (Builtin.lenOf y').run P w = .ok 0 w) (hnew : (Builtin.firstCells z 0 y').run P w = .ok new w) :
    (Builtin.append_ ts ty #[.slice none 0 0, y']).run P w = .ok (.slice none 0 0) w := by
  obtain ⟨⟨st, yt, d, h0, h1, hu, hd, hi⟩, ⟨i, hi', hsz, hby, hz⟩, hzs, hpos⟩ := ht
  subst hsz
  simp only [Builtin.append_, h0, h1, Sem.run_bind, und_run hu, und_run hd, sizeOf, typeInfo, run_program, hi', Result.andThen_ok, Sem.run_pure, List.getElem?_toArray, List.getElem?_cons_zero, List.getElem?_cons_succ, Sem.run_ite]
  split
  · simp [isIntD] at hi
  · simp [hl, hnew]
theorem appendB_ok {ts : Array TypeId} {ty : TypeId} {x y : AV} (h : appendB P ts.toList x y s = some (v, s')) :
    Step s s' ∧ ∀ {G B E w x' y'}, (∀ j, In s'.l j → G j) → Sat G B E s w → Rel E x x' → Rel E y y' → Ok1 P G B s' v E w (Builtin.append_ ts ty #[x', y']) := by
  unfold appendB at h
  split at h
  case h_2 => cases h
  rename_i st yt rst hts
  split at h
  case h_2 => cases h
  rename_i e hu
  obtain ⟨z, hz, h1⟩ := oc_some h
  obtain ⟨by_, hby, h2⟩ := oc_some h1
  obtain ⟨d, hd, h3⟩ := oc_some h2
  obtain ⟨hint, h4⟩ := bc_some h3
  obtain ⟨zero, hzero, h5⟩ := oc_some h4
  obtain ⟨n, hn, h6⟩ := oc_some h5
  obtain ⟨hzl, h7⟩ := bc_some h6
  obtain ⟨hpos, h8⟩ := bc_some h7
  obtain ⟨hnl, h9⟩ := bc_some h8
  obtain ⟨hbl, h10⟩ := bc_some h9
  obtain ⟨new, s1, hnew, h11⟩ := oc2_some h10
  obtain ⟨hone, h12⟩ := bc_some h11
  clear h h1 h2 h3 h4 h5 h6 h7 h8 h9 h10 h11
  have hnl' : n ≤ 1000000 := by simpa using hnl
  have ⟨zv, hzv, hzr, hzinfo⟩ : ∃ zv, (∀ w, (zeroValue e).run P w = .ok zv w) ∧ (∀ E, Rel E zero zv) ∧ ∃ i, P.info? e = some i ∧ i.zero = some zv := by
    unfold zeroOf at hzero
    split at hzero
    · rename_i i hi
      split at hzero
      · rename_i zv hv
        exact ⟨zv, fun w => by simp [zeroValue, typeInfo, hi, hv], fun E => ofVal_ok hzero, i, hi, hv⟩
      · cases hzero
    · cases hzero
  obtain ⟨i, hi, hiz⟩ := hzinfo
  have ht : AppT P ts e z zv := by
    refine ⟨⟨st, yt, d, ?_, ?_, hu, hd, by simpa using hint⟩, ⟨i, hi, ?_, ?_, hiz⟩, ?_, by simpa using hpos⟩
    · rw [← Array.getElem?_toList, hts]; rfl
    · rw [← Array.getElem?_toList, hts]; rfl
    · unfold szOf at hz; rw [hi] at hz; cases hz; rfl
    · unfold bytesB at hby; rw [hi] at hby; cases hby; simpa using hbl
    · have := (hzr (⟨fun _ => .dead, fun _ => 0, fun _ => .same⟩ : Env)).cells.length
      have hzl' : zero.cells.length = z := by simpa using hzl
      simp at this; omega
  obtain ⟨hst1, hh1, hc1, hfirst⟩ := firstCellsA_ok (P := P) hnew
  have pre : ∀ {G B E w y'}, (∀ j, In s1.l j → G j) → Sat G B E s w → Rel E y y' → Sat G B E s1 w ∧ ∃ ys, RelL E new ys ∧ ys.length = n * z ∧ ∀ W : World, W.heap = w.heap → (Builtin.lenOf y').run P W = .ok n W ∧ (Builtin.firstCells z n y').run P W = .ok ys.toArray W := by
    intro G B E w y' hG hs hy
    obtain ⟨hs1, ys, h1, h2, h3⟩ := hfirst hG hs hy (by rw [hn]; simp)
    exact ⟨hs1, ys, h2, h3, fun W hW => ⟨lenOfA_ok hn hy W, h1 W hW⟩⟩
  unfold appendTo at h12
  split at h12
  · -- nil
    cases hn0 : Nat.beq n 0 with
    | true =>
      rw [show Nat.beq n (nat_lit 0) = Nat.beq n 0 from rfl, hn0, bi_true] at h12
      cases h12
      have hn0' : n = 0 := by simpa using hn0
      refine ⟨hst1, fun {G B E w x' y'} hG hs hx hy => ?_⟩
      obtain ⟨hs1, ys, hr, hlen, hrun⟩ := pre hG hs hy
      obtain ⟨r1, r2⟩ := hrun w rfl
      subst hn0'
      cases hx
      exact Ok1.pure hs1 (append_nil_fit ht r1 r2) .nilslice
    | false =>
      rw [show Nat.beq n (nat_lit 0) = Nat.beq n 0 from rfl, hn0, bi_false] at h12
      cases h12
      have hn0' : n ≠ 0 := fun e => by subst e; simp at hn0
      refine ⟨hst1.trans (Step.new _ _), fun {G B E w x' y'} hG hs hx hy => ?_⟩
      obtain ⟨hs1, ys, hr, hlen, hrun⟩ := pre (fun j hj => hG j ((Step.new _ _).l j hj)) hs hy
      obtain ⟨r1, _⟩ := hrun w rfl
      obtain ⟨_, r2⟩ := hrun w.drew rfl
      cases hx
      have hrun' := run_append_grow (ty := ty) (sLen := 0) (sCap := 0) (base := none) (old := #[]) ht r1 rfl r2 (by omega) (by omega)
      have hge := grownCap_ge w (0 + n) 0 e
      obtain ⟨k1, k2⟩ := new_open (w := w.drew) (s := s1) (e := e) (z := z) (f := (0, 0)) (l := new) (C := grownCap w (0 + n) 0 e) (c := #[] ++ ys.toArray ++ Builtin.zeroCells zv.cells (grownCap w (0 + n) 0 e - (0 + n))) (xs := ys)
        (rest := (Builtin.zeroCells zv.cells (grownCap w (0 + n) 0 e - (0 + n))).toList) (hs1.drew _) hG (by simp) hr (by
          simp only [Array.size_append, List.size_toArray, zeroCells_size, hlen, ht.zs]
          rw [List.length_nil, Nat.zero_add, ← Nat.add_mul]
          congr 1
          omega) (fun off h1 h2 => by simp at h2)
      refine ⟨_, _, _, hrun', ?_, k1, (Ext.drew (B := B) (E := E) (w := w) _ _).trans k2 (fun j hj => hj)⟩
      have := rel_open (E := E) (k := s1.c) (b := w.heap.size) hge
      simpa using this
  · rename_i i' off len c dr
    obtain ⟨q1, q2⟩ := appendKnown_ok (ty := ty) ht hnl' hone h12
    refine ⟨hst1.trans q1, fun {G B E w x' y'} hG hs hx hy => ?_⟩
    obtain ⟨hs1, ys, hr, hlen, hrun⟩ := pre (fun j hj => hG j (q1.l j hj)) hs hy
    cases hx
    rename_i b c' hb hc
    cases hc
    exact q2 hG hs1 hb hr hlen hrun
  · rename_i i' off len dr
    obtain ⟨q1, q2⟩ := appendOpen_ok (ty := ty) ht hnl' hone h12
    refine ⟨hst1.trans q1, fun {G B E w x' y'} hG hs hx hy => ?_⟩
    obtain ⟨hs1, ys, hr, hlen, hrun⟩ := pre (fun j hj => hG j (q1.l j hj)) hs hy
    cases hx
    rename_i b c' hb hc
    exact q2 hG hs1 hb hc hr hlen hrun
  · cases h12
theorem newP_ok {y : AV} {q : List Pc} (h : newP s y = some (q, s')) : Step s s' ∧ s'.h = s.h ∧ s'.c = s.c ∧ ∀ {G B E w y'}, (∀ j, In s'.l j → G j) → Sat G B E s w → Rel E y y' →
    Sat G B E s' w ∧ ∀ W : World, W.heap = w.heap → (Builtin.lenOf y').run P W = .ok (psVal E.ρ q).length W ∧ (Builtin.firstCells 1 (psVal E.ρ q).length y').run P W = .ok (bytesV (psVal E.ρ q)).toArray W := by
  have str : ∀ (l : List UInt8) (W : World), (Builtin.lenOf (.string ⟨l.toArray⟩)).run P W = .ok l.length W ∧ (Builtin.firstCells 1 l.length (.string ⟨l.toArray⟩)).run P W = .ok (bytesV l).toArray W := by
    intro l W
    refine ⟨by simp [Builtin.lenOf, ByteArray.size], ?_⟩
    simp [Builtin.firstCells, bytesV, ByteArray.size]
  unfold newP at h
  split at h
  · cases h
    refine ⟨Step.refl _, rfl, rfl, fun {G B E w y'} hG hs hy => ⟨hs, fun W hW => ?_⟩⟩
    cases hy
    exact str _ W
  · cases h
    refine ⟨Step.refl _, rfl, rfl, fun {G B E w y'} hG hs hy => ⟨hs, fun W hW => ?_⟩⟩
    cases hy
    rw [psVal_one]
    exact str _ W
  · rename_i j off n cap dr
    obtain ⟨l, hl, h1⟩ := oc_some h
    obtain ⟨b, hb, h2⟩ := oc_some h1
    cases h2
    refine ⟨Step.see _ _, rfl, rfl, fun {G B E w y'} hG hs hy => ⟨hs.seen _, fun W hW => ?_⟩⟩
    have hgi : G j := hG j (in_see _ _)
    obtain ⟨b', C, os, he, hor, holen, hcell⟩ := hs.loadN hgi hl
    cases hy
    rename_i bb c hbb hc
    obtain rfl := hs.at_live he hbb
    have hys := pcsStrict_some hs.orc hb hor
    have hbl : (psVal E.ρ q).length = n := by
      have h1 := congrArg List.length hys
      rw [bytesV_length] at h1; omega
    refine ⟨by simp [Builtin.lenOf, hbl], ?_⟩
    simp only [Builtin.firstCells]
    have := run_loadCells_at (P := P) (w := W) (b := bb) (off := off) (n := (psVal E.ρ q).length * 1) (ys := os) ?_ ?_
    · rw [hys] at this; exact this
    · intro k v hk
      have := hcell k v hk
      rw [← this]
      simp [World.cell?, hW]
    · rw [Nat.mul_one, hbl]; exact holen
  · cases h
theorem appendP_ok {ts : Array TypeId} {ty : TypeId} {x y : AV} (h : appendP P ts.toList x y s = some (v, s')) :
    Step s s' ∧ ∀ {G B E w x' y'}, (∀ j, In s'.l j → G j) → Sat G B E s w → Rel E x x' → Rel E y y' → Ok1 P G B s' v E w (Builtin.append_ ts ty #[x', y']) := by
  unfold appendP at h
  split at h
  case h_2 => cases h
  rename_i st yt rst hts
  split at h
  case h_2 => cases h
  rename_i e hu
  obtain ⟨z, hz, h1⟩ := oc_some h
  obtain ⟨by_, hby, h2⟩ := oc_some h1
  obtain ⟨d, hd, h3⟩ := oc_some h2
  obtain ⟨hint, h4⟩ := bc_some h3
  obtain ⟨zero, hzero, h5⟩ := oc_some h4
  obtain ⟨hzl, h6⟩ := bc_some h5
  obtain ⟨hz1, h7⟩ := bc_some h6
  obtain ⟨hbl, h8⟩ := bc_some h7
  obtain ⟨q, s1, hnew, h9⟩ := oc2_some h8
  obtain ⟨hql, h10⟩ := bc_some h9
  clear h h1 h2 h3 h4 h5 h6 h7 h8 h9
  have hz1' : z = 1 := by simpa using hz1
  subst hz1'
  have hql' : pcsMax q ≤ 1000000 := by simpa using hql
  have ⟨zv, hzv, hzr, hzinfo⟩ : ∃ zv, (∀ w, (zeroValue e).run P w = .ok zv w) ∧ (∀ E, Rel E zero zv) ∧ ∃ i, P.info? e = some i ∧ i.zero = some zv := by
    unfold zeroOf at hzero
    split at hzero
    · rename_i i hi
      split at hzero
      · rename_i zv hv
        exact ⟨zv, fun w => by simp [zeroValue, typeInfo, hi, hv], fun E => ofVal_ok hzero, i, hi, hv⟩
      · cases hzero
    · cases hzero
  obtain ⟨i, hi, hiz⟩ := hzinfo
  have ht : AppT P ts e 1 zv := by
    refine ⟨⟨st, yt, d, ?_, ?_, hu, hd, by simpa using hint⟩, ⟨i, hi, ?_, ?_, hiz⟩, ?_, by omega⟩
    · rw [← Array.getElem?_toList, hts]; rfl
    · rw [← Array.getElem?_toList, hts]; rfl
    · unfold szOf at hz; rw [hi] at hz; exact Option.some.inj hz
    · unfold bytesB at hby; rw [hi] at hby; cases hby; simpa using hbl
    · have := (hzr (⟨fun _ => .dead, fun _ => 0, fun _ => .same⟩ : Env)).cells.length
      have hzl' : zero.cells.length = 1 := by simpa using hzl
      simp at this; omega
  obtain ⟨hst1, hh1, hc1, hfirst⟩ := newP_ok (P := P) hnew
  unfold appendToP at h10
  split at h10
  · rename_i i' p
    obtain ⟨o, ho, h11⟩ := oc_some h10
    split at h11
    case h_2 => cases h11
    rename_i p' e'
    obtain ⟨hp, h12⟩ := bc_some h11
    obtain ⟨hee, h13⟩ := bc_some h12
    obtain ⟨hpl, h14⟩ := bc_some h13
    cases h14
    clear h10 h11 h12 h13
    have hee' : e = e' := by simpa using hee
    subst hee'
    have hpl' : pcsMax p ≤ 1000000 := by simpa using hpl
    refine ⟨hst1.trans ((Step.set _ _ _).trans (Step.new _ _)), fun {G B E w x' y'} hG hs hx hy => ?_⟩
    obtain ⟨hs1, hrun⟩ := hfirst (fun j hj => hG j (((Step.set _ _ _).trans (Step.new _ _)).l j hj)) hs hy
    have hgi : G i' := hG i' ((in_lor _ _ _).2 (.inl (in_set _ _ _)))
    have hgc : G s1.c := hG s1.c (in_new _ _)
    obtain ⟨b0, C0, ob, he0, hb0, hok, _⟩ := hs1.fact i' _ hgi ho
    obtain ⟨cc, f, rest, b1, C1, rfl, hxx, he1, hsz, hfz⟩ := hok
    rw [he0] at he1
    cases he1
    have hpp := pcsEq_ok E.ρ hp
    cases hx
    rename_i b c hb hc
    obtain rfl := hs1.at_live he0 hb
    obtain ⟨_, hcx⟩ := hc
    rw [he0] at hcx
    simp only [Nat.sub_zero] at hcx
    subst hcx
    have m1 := psVal_max E.ρ p
    have m2 := psVal_max E.ρ q
    rw [← hpp] at hxx
    exact bufNew_ok ht hs1 hgi hgc ho rfl he0 hb0 hxx hsz hfz (by omega) (by omega) hrun (psVal_cat _ _ _)
  · rename_i i' off n dr
    obtain ⟨hoff, h11⟩ := bc_some h10
    obtain ⟨hdr, h12⟩ := bc_some h11
    obtain ⟨hnl, h13⟩ := bc_some h12
    obtain ⟨o, ho, h14⟩ := oc_some h13
    clear h10 h11 h12 h13
    split at h14
    case h_2 => cases h14
    rename_i vs e' fz z
    obtain ⟨hz', h15⟩ := bc_some h14
    obtain ⟨hee, h16⟩ := bc_some h15
    obtain ⟨hfz, h17⟩ := bc_some h16
    obtain ⟨l, hl, h18⟩ := oc_some h17
    obtain ⟨bs, hbs, h19⟩ := oc_some h18
    obtain ⟨hbm, h20⟩ := bc_some h19
    cases h20
    clear h14 h15 h16 h17 h18 h19
    have hbm' : pcsMax bs ≤ 1000000 := by simpa using hbm
    have hee' : e = e' := by simpa using hee
    have hz'' : z = 1 := by simpa using hz'
    have hoff' : off = 0 := by simpa using hoff
    have hdr' : dr = 0 := by simpa using hdr
    have hnl' : n ≤ 1000000 := by simpa using hnl
    have hfz' : fz.2 ≤ fz.1 := by simpa using hfz
    subst hee' hz'' hoff' hdr'
    refine ⟨hst1.trans ((Step.set _ _ _).trans (Step.new _ _)), fun {G B E w x' y'} hG hs hx hy => ?_⟩
    obtain ⟨hs1, hrun⟩ := hfirst (fun j hj => hG j (((Step.set _ _ _).trans (Step.new _ _)).l j hj)) hs hy
    have hgi : G i' := hG i' ((in_lor _ _ _).2 (.inl (in_set _ _ _)))
    have hgc : G s1.c := hG s1.c (in_new _ _)
    obtain ⟨b0, C0, ob, he0, hb0, hok, _⟩ := hs1.fact i' _ hgi ho
    obtain ⟨cc, f, xs, rest, b1, C1, rfl, hxx, hrx, he1, hsz, hf⟩ := hok
    rw [he0] at he1
    cases he1
    cases hx
    rename_i b c hb hc
    obtain rfl := hs1.at_live he0 hb
    obtain ⟨_, hcx⟩ := hc
    rw [he0] at hcx
    simp only [Nat.sub_zero] at hcx
    subst hcx
    obtain ⟨rfl, hnle⟩ := takeN_some _ hl
    have hys := pcsStrict_some hs1.orc hbs (hrx.take n)
    have hxl := hrx.length
    have hbl : (psVal E.ρ bs).length = n := by
      have h1 := congrArg List.length hys
      rw [bytesV_length] at h1
      simp at h1; omega
    have m1 := psVal_max E.ρ bs
    have m2 := psVal_max E.ρ q
    have hxx' : cc.toList = bytesV (psVal E.ρ bs) ++ (xs.drop n ++ rest) := by
      rw [← hys, ← List.append_assoc, List.take_append_drop, hxx]
    subst hbl
    exact bufNew_ok ht hs1 hgi hgc ho rfl he0 hb0 hxx' (by omega) (fun off' h1 h2 h3 => by have := hf off' h1 h2 h3; omega) (by omega) (by omega) hrun (psVal_cat _ _ _)
  · obtain ⟨hpos, h11⟩ := bc_some h10
    cases h11
    refine ⟨hst1.trans (Step.new _ _), fun {G B E w x' y'} hG hs hx hy => ?_⟩
    obtain ⟨hs1, hrun⟩ := hfirst (fun j hj => hG j ((Step.new _ _).l j hj)) hs hy
    have hgc : G s1.c := hG s1.c (in_new _ _)
    have hpp := pcsPos_ok E.ρ hpos
    have m2 := psVal_max E.ρ q
    cases hx
    obtain ⟨r1, _⟩ := hrun w rfl
    obtain ⟨_, r2⟩ := hrun w.drew rfl
    have hrun' := run_append_grow (ty := ty) (sLen := 0) (sCap := 0) (base := none) (old := #[]) ht r1 rfl r2 (by omega) (by omega)
    have hge := grownCap_ge w (0 + (psVal E.ρ q).length) 0 e
    obtain ⟨k1, k2⟩ := (hs1.drew (w.drawn + 1)).new (o := .buf q e) (C := grownCap w (0 + (psVal E.ρ q).length) 0 e)
      (ob := .cells (#[] ++ (bytesV (psVal E.ρ q)).toArray ++ Builtin.zeroCells zv.cells (grownCap w (0 + (psVal E.ρ q).length) 0 e - (0 + (psVal E.ρ q).length))) e (0, 0)) hgc rfl
      ⟨_, (0, 0), (Builtin.zeroCells zv.cells (grownCap w (0 + (psVal E.ρ q).length) 0 e - (0 + (psVal E.ρ q).length))).toList, _, _, rfl, by
        show _ = bytesV (psVal E.ρ q) ++ _
        simp, Env.set_same _ _ _, by
        simp only [Array.size_append, List.size_toArray, zeroCells_size, bytesV_length, ht.zs, Nat.mul_one, List.length_nil, Nat.zero_add] at hge ⊢
        omega, fun off' _ _ h3 => by simp at h3⟩
    refine ⟨_, _, _, hrun', ?_, k1, (Ext.drew (B := B) (E := E) (w := w) _ _).trans k2 (fun j hj => hj)⟩
    have h5 := Rel.bslice (E := E.set s1.c (.live w.heap.size (grownCap w (0 + (psVal E.ρ q).length) 0 e))) (i := s1.c) (b := w.heap.size) (c := grownCap w (0 + (psVal E.ρ q).length) 0 e) (ps := q) (by rw [Env.set_same]; rfl) ⟨by
      show (psVal E.ρ q).length ≤ _
      omega, by rw [Env.set_same]; simp⟩
    rw [Nat.zero_add] at h5 ⊢
    exact h5
  · cases h10
theorem appendA_ok {ts : Array TypeId} {ty : TypeId} {x y : AV} (h : appendA P ts.toList x y s = some (v, s')) :
    Step s s' ∧ ∀ {G B E w x' y'}, (∀ j, In s'.l j → G j) → Sat G B E s w → Rel E x x' → Rel E y y' → Ok1 P G B s' v E w (Builtin.append_ ts ty #[x', y']) := by
  have h' : bi (inP x y) (appendP P ts.toList x y s) (appendB P ts.toList x y s) = some (v, s') := h
  cases hb : inP x y <;> rw [hb] at h'
  · exact appendB_ok h'
  · exact appendP_ok h'
theorem copyA_ok {ts : Array TypeId} {ty : TypeId} {x y : AV} (h : copyA P ts.toList x y s = some (v, s')) :
    Step s s' ∧ ∀ {G B E w x' y'}, (∀ j, In s'.l j → G j) → Sat G B E s w → Rel E x x' → Rel E y y' → Ok1 P G B s' v E w (Builtin.copy_ ts ty #[x', y']) := by
  unfold copyA at h
  split at h
  case h_2 => cases h
  rename_i dt rst hts
  split at h
  case h_2 => cases h
  rename_i e hu
  obtain ⟨z, hz, h1⟩ := oc_some h
  obtain ⟨dl, hdl, h2⟩ := oc_some h1
  obtain ⟨sl, hsl, h3⟩ := oc_some h2
  obtain ⟨l, s1, hl, h4⟩ := oc2_some h3
  clear h h1 h2 h3
  obtain ⟨hst1, hh1, hc1, hfirst⟩ := firstCellsA_ok (P := P) hl
  have hts0 : ts[0]? = some dt := by rw [← Array.getElem?_toList, hts]; rfl
  have hmin : Nat.min sl dl ≤ sl := Nat.min_le_left _ _
  split at h4
  · rename_i i off len cap dr
    obtain ⟨s2, hs2, h5⟩ := oc_some h4
    cases h5
    refine ⟨hst1.trans (storeN_step hs2), fun {G B E w x' y'} hG hs hx hy => ?_⟩
    obtain ⟨hs1, ys, h1, h2, h3⟩ := hfirst (fun j hj => hG j ((storeN_step hs2).l j hj)) hs hy (by rw [hsl]; exact hmin)
    cases hx
    rename_i b c hb hc
    cases hdl
    obtain ⟨b', C, w', he, hrun, k1, k2⟩ := hs1.storeN (P := P) hG hs2 h2
    obtain rfl := hs1.at_live he hb
    refine ⟨E, .int .i64 (Nat.min sl dl : Nat), w', ?_, .int _ _, k1, k2⟩
    simp [Builtin.copy_, hts0, und_run hu, lenOfA_ok hsl hy, szOf_run hz, h1 w rfl, hrun, goInt]
  · cases h4
    refine ⟨hst1, fun {G B E w x' y'} hG hs hx hy => ?_⟩
    obtain ⟨hs1, ys, h1, h2, h3⟩ := hfirst hG hs hy (by rw [hsl]; exact hmin)
    cases hx
    cases hdl
    refine Ok1.pure hs1 (v' := .int .i64 (Nat.min sl 0 : Nat)) ?_ (.int _ _)
    simp [Builtin.copy_, hts0, und_run hu, lenOfA_ok hsl hy, szOf_run hz, goInt]
    have := h1 w rfl
    simp at this
    simp [this]
  · cases h4
theorem max1_ok {O : Orc} (ho : OrcOk O E.ρ) {x y z : AV} {x' y' : Value} (h : max1 O x y = some z) (hx : Rel E x x') (hy : Rel E y y') : ∃ z', (Builtin.max2 x' y').run P w = .ok z' w ∧ Rel E z z' := by
  cases hx <;> cases hy <;> simp only [max1] at h <;> first | (cases h; done) | skip
  · rename_i k a k' b
    cases h
    exact ⟨.int k (if b > a then b else a), by simp [Builtin.max2], .int _ _⟩
  · rename_i k a k' e
    split at h
    · rename_i hk
      subst hk
      obtain ⟨q, hq, rfl⟩ := Option.map_eq_some_iff.1 h
      have hlt : q = decide (a < e.val E.ρ) := ho.lt _ _ _ hq
      refine ⟨.int k (if e.val E.ρ > a then e.val E.ρ else a), by simp [Builtin.max2], ?_⟩
      by_cases hc : a < e.val E.ρ
      · rw [hlt, decide_eq_true hc, bi_true, if_pos hc]; exact .sint _ _
      · rw [hlt, decide_eq_false hc, bi_false, if_neg hc]; exact .int _ _
    · cases h
  · rename_i k e k' b
    split at h
    · rename_i hk
      subst hk
      obtain ⟨q, hq, rfl⟩ := Option.map_eq_some_iff.1 h
      have hlt : q = decide (e.val E.ρ < b) := ho.lt _ _ _ hq
      refine ⟨.int k (if b > e.val E.ρ then b else e.val E.ρ), by simp [Builtin.max2], ?_⟩
      by_cases hc : e.val E.ρ < b
      · rw [hlt, decide_eq_true hc, bi_true, if_pos hc]; exact .int _ _
      · rw [hlt, decide_eq_false hc, bi_false, if_neg hc]; exact .sint _ _
    · cases h
  · rename_i k e k' f
    split at h
    · rename_i hk
      subst hk
      obtain ⟨q, hq, rfl⟩ := Option.map_eq_some_iff.1 h
      have hlt : q = decide (e.val E.ρ < f.val E.ρ) := ho.lt _ _ _ hq
      refine ⟨.int k (if f.val E.ρ > e.val E.ρ then f.val E.ρ else e.val E.ρ), by simp [Builtin.max2], ?_⟩
      by_cases hc : e.val E.ρ < f.val E.ρ
      · rw [hlt, decide_eq_true hc, bi_true, if_pos hc]; exact .sint _ _
      · rw [hlt, decide_eq_false hc, bi_false, if_neg hc]; exact .sint _ _
    · cases h
theorem maxA_ok {O : Orc} (ho : OrcOk O E.ρ) (r : List AV) : ∀ {x v : AV} {r' : List Value} {x' : Value}, maxA O x r = some v → Rel E x x' → RelL E r r' → ∃ v', (r'.foldlM Builtin.max2 x').run P w = .ok v' w ∧ Rel E v v' := by
  induction r with
  | nil =>
    intro x v r' x' h hx hr
    cases hr
    have : v = x := by simp [maxA] at h; exact h.symm
    subst this; exact ⟨x', rfl, hx⟩
  | cons y r ih =>
    intro x v r' x' h hx hr
    cases hr with
    | cons hy ht =>
      obtain ⟨z, hz, h1⟩ := oc_some (show oc (max1 O x y) (fun z => maxA O z r) = some v from h)
      obtain ⟨z', hz1, hz2⟩ := max1_ok (P := P) (w := w) ho hz hx hy
      obtain ⟨v', h2, h3⟩ := ih h1 hz2 ht
      exact ⟨v', by simp only [List.foldlM_cons, Sem.run_bind, hz1, Result.andThen_ok]; exact h2, h3⟩
theorem min1_ok {O : Orc} (ho : OrcOk O E.ρ) {x y z : AV} {x' y' : Value} (h : min1 O x y = some z) (hx : Rel E x x') (hy : Rel E y y') : ∃ z', (Builtin.min2 x' y').run P w = .ok z' w ∧ Rel E z z' := by
  cases hx <;> cases hy <;> simp only [min1] at h <;> first | (cases h; done) | skip
  · rename_i k a k' b
    cases h
    exact ⟨.int k (if b < a then b else a), by simp [Builtin.min2], .int _ _⟩
  · rename_i k a k' e
    split at h
    · rename_i hk
      subst hk
      obtain ⟨q, hq, rfl⟩ := Option.map_eq_some_iff.1 h
      have hlt : q = decide (e.val E.ρ < a) := ho.lt _ _ _ hq
      refine ⟨.int k (if e.val E.ρ < a then e.val E.ρ else a), by simp [Builtin.min2], ?_⟩
      by_cases hc : e.val E.ρ < a
      · rw [hlt, decide_eq_true hc, bi_true, if_pos hc]; exact .sint _ _
      · rw [hlt, decide_eq_false hc, bi_false, if_neg hc]; exact .int _ _
    · cases h
  · rename_i k e k' b
    split at h
    · rename_i hk
      subst hk
      obtain ⟨q, hq, rfl⟩ := Option.map_eq_some_iff.1 h
      have hlt : q = decide (b < e.val E.ρ) := ho.lt _ _ _ hq
      refine ⟨.int k (if b < e.val E.ρ then b else e.val E.ρ), by simp [Builtin.min2], ?_⟩
      by_cases hc : b < e.val E.ρ
      · rw [hlt, decide_eq_true hc, bi_true, if_pos hc]; exact .int _ _
      · rw [hlt, decide_eq_false hc, bi_false, if_neg hc]; exact .sint _ _
    · cases h
  · rename_i k e k' f
    split at h
    · rename_i hk
      subst hk
      obtain ⟨q, hq, rfl⟩ := Option.map_eq_some_iff.1 h
      have hlt : q = decide (f.val E.ρ < e.val E.ρ) := ho.lt _ _ _ hq
      refine ⟨.int k (if f.val E.ρ < e.val E.ρ then f.val E.ρ else e.val E.ρ), by simp [Builtin.min2], ?_⟩
      by_cases hc : f.val E.ρ < e.val E.ρ
      · rw [hlt, decide_eq_true hc, bi_true, if_pos hc]; exact .sint _ _
      · rw [hlt, decide_eq_false hc, bi_false, if_neg hc]; exact .sint _ _
    · cases h
theorem minA_ok {O : Orc} (ho : OrcOk O E.ρ) (r : List AV) : ∀ {x v : AV} {r' : List Value} {x' : Value}, minA O x r = some v → Rel E x x' → RelL E r r' → ∃ v', (r'.foldlM Builtin.min2 x').run P w = .ok v' w ∧ Rel E v v' := by
  induction r with
  | nil =>
    intro x v r' x' h hx hr
    cases hr
    have : v = x := by simp [minA] at h; exact h.symm
    subst this; exact ⟨x', rfl, hx⟩
  | cons y r ih =>
    intro x v r' x' h hx hr
    cases hr with
    | cons hy ht =>
      obtain ⟨z, hz, h1⟩ := oc_some (show oc (min1 O x y) (fun z => minA O z r) = some v from h)
      obtain ⟨z', hz1, hz2⟩ := min1_ok (P := P) (w := w) ho hz hx hy
      obtain ⟨v', h2, h3⟩ := ih h1 hz2 ht
      exact ⟨v', by simp only [List.foldlM_cons, Sem.run_bind, hz1, Result.andThen_ok]; exact h2, h3⟩
end
end Ev
end Go.Proofs.YtbjllaknnpbkkaaGreatDoor
