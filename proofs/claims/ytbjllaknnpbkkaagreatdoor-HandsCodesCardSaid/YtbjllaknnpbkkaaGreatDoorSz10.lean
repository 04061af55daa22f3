/-
  The evaluator: conversions, len, copy, clear, max, min.
-/
import Derived.Test.YtbjllaknnpbkkaaGreatDoorSz9
import Derived.Laws.BytesArg
import Derived.Lib.Builder
import Derived.Lib.UnsafeStr
namespace Go.Proofs.YtbjllaknnpbkkaaGreatDoor
namespace Ev
open Go.RowKit

section
variable {P : Program} {G : Nat → Prop} {B : Nat} {E : Env} {s s' : St} {w : World} {v : AV}

theorem bytesOfA_some : ∀ {l : List AV} {b : List UInt8} {ys : List Value}, bytesOfA l = some b → RelL E l ys → ∃ ns : List Int, ys = ns.map (Value.int .u8) ∧ b = ns.map fun n => UInt8.ofNat n.toNat
  | _, b, _, h, .nil => by cases h; exact ⟨[], rfl, rfl⟩
  | _, b, _, h, .cons hx ht => by
    unfold bytesOfA at h
    split at h
    · rename_i heq; cases heq
    · rename_i n r heq
      cases heq
      split at h
      · rename_i l' hl
        cases h
        cases hx
        obtain ⟨ns, h1, h2⟩ := bytesOfA_some hl ht
        exact ⟨n :: ns, by simp [h1], by simp [h2]⟩
      · cases h
    · cases h
theorem bytes_back (l : List UInt8) : (l.map fun x => (x.toNat : Int)).map (fun n => UInt8.ofNat n.toNat) = l := by
  rw [List.map_map]
  have : ((fun n : Int => UInt8.ofNat n.toNat) ∘ fun x : UInt8 => (x.toNat : Int)) = id := by funext x; simp
  rw [this, List.map_id]
theorem psVal_catP (ρ : Nat → Int) (a b : List Pc) : psVal ρ (catP a b) = psVal ρ a ++ psVal ρ b := psVal_cat ρ a b
theorem pcsOfA_some : ∀ {l : List AV} {ps : List Pc} {ys : List Value}, pcsOfA l = some ps → RelL E l ys → ∃ ns : List Int, ys = ns.map (Value.int .u8) ∧ psVal E.ρ ps = ns.map fun n => UInt8.ofNat n.toNat
  | _, b, _, h, .nil => by cases h; exact ⟨[], rfl, rfl⟩
  | _, b, _, h, .cons hx ht => by
    unfold pcsOfA at h
    split at h
    · rename_i heq; cases heq
    · rename_i n r heq
      cases heq
      obtain ⟨l', hl, h⟩ := oc_some h
      cases h
      cases hx
      obtain ⟨ns, h1, h2⟩ := pcsOfA_some hl ht
      exact ⟨n :: ns, by simp [h1], by rw [psVal_cat, h2, psVal_one]; simp⟩
    · rename_i e r heq
      cases heq
      obtain ⟨l', hl, h⟩ := oc_some h
      cases h
      cases hx
      obtain ⟨ns, h1, h2⟩ := pcsOfA_some hl ht
      exact ⟨e.val E.ρ :: ns, by simp [h1], by simp [psVal, Pc.val, h2]⟩
    · cases h
theorem ofBytes_rel : ∀ (l : List UInt8), RelL E (ofBytes l) (l.map fun b => Value.int .u8 b.toNat)
  | [] => .nil
  | b :: r => .cons (.int _ _) (ofBytes_rel r)
theorem ofBytes_length : ∀ (l : List UInt8), (ofBytes l).length = l.length
  | [] => rfl
  | _ :: r => by simp [ofBytes, ofBytes_length r]
theorem grownCap_ge (w : World) (need old : Nat) (e : TypeId) : need ≤ grownCap w need old e := by
  simp [grownCap, Question.cut]
/-- A new row whose end nobody knows. -/
theorem new_open (hs : Sat G B E s w) {e : TypeId} {l : List AV} {c : Array Value} {f : Nat × Nat} {xs rest : List Value} {C z : Nat} (hG : ∀ j, In (s.new (.cells l e (0, 0) (some z))).l j → G j)
    (hc : c.toList = xs ++ rest) (hr : RelL E l xs) (hsz : c.size = C * z) (hf : ∀ off, off < c.size → ¬ (f.1 ≤ off ∧ off < f.2)) :
    Sat G B (E.set s.c (.live w.heap.size C)) (s.new (.cells l e (0, 0) (some z))) (w.alloc (.cells c e f)) ∧ Ext B (s.new (.cells l e (0, 0) (some z))).w E (E.set s.c (.live w.heap.size C)) w (w.alloc (.cells c e f)) := by
  have hg := hG _ (in_new _ _)
  have hle : E.le (E.set s.c (.live w.heap.size C)) := E.set_le _ _ (by rw [hs.fresh s.c (Nat.le_refl _) hg]; trivial)
  exact hs.new hg rfl ⟨c, f, xs, rest, _, C, rfl, hc, hr.mono hle, Env.set_same _ _ _, hsz, fun off h1 h2 h3 => absurd ⟨h2, h3⟩ (hf off h1)⟩
theorem unsafeA_ok {src dst : TypeId} {sd dd : TypeDesc} {i off : Nat} (hsd : P.underlying src = some sd) (hdd : P.underlying dst = some dd) (h : unsafeA P sd dd i off s = some (v, s')) :
    Step s s' ∧ ∀ {G B E w x'}, (∀ j, In s'.l j → G j) → Sat G B E s w → Rel E (.ptr i off) x' → Ok1 P G B s' v E w (convert src dst x') := by
  obtain ⟨o, ho, h1⟩ := oc_some h
  unfold cellsC at h1
  split at h1 <;> first | (cases h1; done) | skip
  rename_i vs e fz op
  cases op with
  | some z => cases h1
  | none =>
    obtain ⟨hlt, h2⟩ := bc_some h1
    have shape : ∀ {G : Nat → Prop} {B : Nat} {E : Env} {w : World} {b : Nat}, G i → Sat G B E s w → (E i).at b → ∃ cells, w.shape? b = some (e, cells) ∧ vs.length = cells := by
      intro G B E w b hg hs hb
      obtain ⟨b', C, ob, he, hh, hok, _⟩ := hs.fact i _ hg ho
      obtain rfl := hs.at_live he hb
      obtain ⟨c, f, rfl, hr, _⟩ := hok
      exact ⟨c.size, by simp [World.shape?, hh], by simpa using hr.length⟩
    split at h2
    · obtain ⟨z, hz, h3⟩ := oc_some h2
      obtain ⟨hpos, h4⟩ := bc_some h3
      cases h4
      refine ⟨Step.see _ _, fun {G B E w x'} hG hs hx => ?_⟩
      cases hx
      rename_i b hb
      obtain ⟨cells, hsh, hlen⟩ := shape (hG _ (in_see _ _)) hs hb
      obtain ⟨j, hj, hjz⟩ := Option.map_eq_some_iff.1 hz
      have hpos' : 0 < z := by simpa using hpos
      have hlt' : off < vs.length := by simpa using hlt
      exact Ok1.pure (hs.seen i) (Lib.run_to_unsafe w ⟨b, off, none⟩ hsd hdd hj (by omega) hsh (by show off < cells; omega)) (.ptr hb)
    · obtain ⟨z, hz, h3⟩ := oc_some h2
      obtain ⟨hlies, h4⟩ := bc_some h3
      cases h4
      refine ⟨Step.see _ _, fun {G B E w x'} hG hs hx => ?_⟩
      cases hx
      rename_i b hb
      obtain ⟨cells, hsh, hlen⟩ := shape (hG _ (in_see _ _)) hs hb
      obtain ⟨j, hj, hjz⟩ := Option.map_eq_some_iff.1 hz
      exact Ok1.pure (hs.seen i) (Lib.run_from_unsafe w ⟨b, off, none⟩ hsd hdd hj hsh (by rw [← hlen]; exact hlies)) (.ptr hb)
    · cases h2
theorem convA_ok {src dst : TypeId} {x : AV} (h : convA P src dst x s = some (v, s')) :
    Step s s' ∧ ∀ {G B E w x'}, (∀ j, In s'.l j → G j) → Sat G B E s w → Rel E x x' → Ok1 P G B s' v E w (convert src dst x') := by
  obtain ⟨sd, hsd, h1⟩ := oc_some h
  clear h
  obtain ⟨dd, hdd, h⟩ := oc_some h1
  clear h1
  split at h
  · rename_i k n
    split at h
    · rename_i k'
      cases h
      refine ⟨Step.refl _, fun {G B E w x'} hG hs hx => ?_⟩
      cases hx
      rw [wrapA_eq]
      exact Ok1.pure hs (by simp [convert, und_run hsd, und_run hdd, Conv.intToInt]) (.int _ _)
    · cases h
      refine ⟨Step.refl _, fun {G B E w x'} hG hs hx => ?_⟩
      cases hx
      exact Ok1.pure hs (by simp [convert, und_run hsd, und_run hdd, Conv.intToString]) (Rel.str (Utf8.encode n).data.toList)
    · cases h
  · rename_i k e
    split at h
    · rename_i k'
      cases h
      refine ⟨Step.refl _, fun {G B E w x'} hG hs hx => ?_⟩
      cases hx
      refine Ok1.pure hs (v' := .int k' ((s.o.wrap k' e).val E.ρ)) ?_ (.sint k' (s.o.wrap k' e))
      rw [hs.orc.wrap]
      simp [convert, und_run hsd, und_run hdd, Conv.intToInt]
    · cases h
  · rename_i l
    split at h
    · cases h
      refine ⟨Step.refl _, fun {G B E w x'} hG hs hx => ?_⟩
      cases hx
      exact Ok1.pure hs (by simp [convert, und_run hsd, und_run hdd]) (.str _)
    · rename_i e
      split at h
      · rename_i he
        cases h
        refine ⟨Step.new _ _, fun {G B E w x'} hG hs hx => ?_⟩
        cases hx
        have hrun := run_bytes_of_string (P := P) w src dst e ⟨l.toArray⟩ hsd hdd he
        have hsz : (ByteArray.mk l.toArray).size = l.length := by simp [ByteArray.size]
        have hge := grownCap_ge w l.length 0 e
        rw [hsz] at hrun
        have hrow : (bytesRow ⟨l.toArray⟩ (grownCap w l.length 0 e)).toList = (l.map fun b => Value.int .u8 b.toNat) ++ List.replicate (grownCap w l.length 0 e - l.length) (.int .u8 0) := by
          simp [bytesRow, hsz]
        have hsize : (bytesRow ⟨l.toArray⟩ (grownCap w l.length 0 e)).size = grownCap w l.length 0 e * 1 := by
          rw [← Array.length_toList, hrow]; simp; omega
        obtain ⟨k1, k2⟩ := new_open (w := w.drew) (e := e) (z := 1) (f := ((bytesRow ⟨l.toArray⟩ (grownCap w l.length 0 e)).size, (bytesRow ⟨l.toArray⟩ (grownCap w l.length 0 e)).size + 1)) (hs.drew _) hG hrow (ofBytes_rel l) hsize (fun off h1 h2 => by simp at h2; omega)
        refine ⟨_, _, _, hrun, .slice (by rw [Env.set_same]; rfl) ⟨hge, by rw [Env.set_same]; simp⟩, k1, ?_⟩
        exact (Ext.drew (B := B) (E := E) (w := w) _ _).trans k2 (fun j hj => hj)
      · cases h
    · cases h
  · split at h
    · rename_i e
      split at h
      · rename_i he
        cases h
        refine ⟨Step.refl _, fun {G B E w x'} hG hs hx => ?_⟩
        cases hx
        exact Ok1.pure hs (by simp [convert, und_run hsd, und_run hdd, und_run he, Conv.bytesToString]; rfl) (.str [])
      · cases h
    · cases h
  · exact unsafeA_ok hsd hdd h
  · rename_i i off len cap dr
    split at h
    · rename_i e
      split at h
      · rename_i he
        obtain ⟨l, hl, h⟩ := oc_some h
        split at h
        · rename_i b hb
          cases h
          refine ⟨Step.see _ _, fun {G B E w x'} hG hs hx => ?_⟩
          cases hx
          rename_i bb c hbb hc
          obtain ⟨b', C, ys, he', hr, hlen, hcell⟩ := hs.loadN (hG _ (in_see _ _)) hl
          obtain rfl := hs.at_live he' hbb
          obtain ⟨ns, rfl, rfl⟩ := bytesOfA_some hb hr
          have hload := run_loadCells_at (P := P) hcell hlen
          have hrun := run_bytesToString (P := P) w ⟨bb, off, none⟩ len c ns hload
          rw [foldl_push_bytes] at hrun
          refine Ok1.pure (hs.seen i) (v' := .string ⟨(ns.map fun n => UInt8.ofNat n.toNat).toArray⟩) ?_ (.str _)
          rw [run_convert_bytes_string w src dst e _ len c hsd he hdd, hrun]
          simp [ByteArray.empty, ByteArray.emptyWithCapacity]
          rfl
        · obtain ⟨ps, hb, h⟩ := oc_some h
          cases h
          refine ⟨Step.see _ _, fun {G B E w x'} hG hs hx => ?_⟩
          cases hx
          rename_i bb c hbb hc
          obtain ⟨b', C, ys, he', hr, hlen, hcell⟩ := hs.loadN (hG _ (in_see _ _)) hl
          obtain rfl := hs.at_live he' hbb
          obtain ⟨ns, rfl, hps⟩ := pcsOfA_some hb hr
          have hload := run_loadCells_at (P := P) hcell hlen
          have hrun := run_bytesToString (P := P) w ⟨bb, off, none⟩ len c ns hload
          rw [foldl_push_bytes] at hrun
          refine Ok1.pure (hs.seen i) (v' := .string ⟨(psVal E.ρ ps).toArray⟩) ?_ (.pstr _)
          rw [run_convert_bytes_string w src dst e _ len c hsd he hdd, hrun, hps]
          simp [ByteArray.empty, ByteArray.emptyWithCapacity]
          rfl
      · cases h
    · cases h
  · rename_i i ps
    split at h
    · rename_i e
      split at h
      · rename_i he
        obtain ⟨o, ho, h⟩ := oc_some h
        split at h
        · rename_i qs e'
          obtain ⟨hpq, h⟩ := bc_some h
          cases h
          refine ⟨Step.see _ _, fun {G B E w x'} hG hs hx => ?_⟩
          cases hx
          rename_i bb c hbb hc
          obtain ⟨b', C, ob, he', hh, hok, _⟩ := hs.fact i _ (hG _ (in_see _ _)) ho
          obtain rfl := hs.at_live he' hbb
          obtain ⟨cc, f, rest, b2, C2, rfl, hxs, _, _, _⟩ := hok
          rw [← pcsEq_ok E.ρ hpq] at hxs
          have hload := run_loadCells_at (P := P) (w := w) (b := bb) (off := 0) (n := (psVal E.ρ ps).length) (ys := ((psVal E.ρ ps).map fun x => (x.toNat : Int)).map (Value.int .u8)) (by
            intro j v hj
            have hj' : (bytesV (psVal E.ρ ps))[j]? = some v := by
              rw [← hj]; simp only [bytesV, List.map_map]; rfl
            have h3 : cc[0 + j]? = some v := by
              rw [Nat.zero_add, ← Array.getElem?_toList, hxs, List.getElem?_append_left (List.getElem?_eq_some_iff.1 hj').1]; exact hj'
            simpa [World.cell?, hh] using h3) (by simp)
          have hrun := run_bytesToString (P := P) w ⟨bb, 0, none⟩ (psVal E.ρ ps).length c _ hload
          rw [foldl_push_bytes] at hrun
          refine Ok1.pure (hs.seen i) (v' := .string ⟨(psVal E.ρ ps).toArray⟩) ?_ (.pstr _)
          rw [run_convert_bytes_string w src dst e _ _ c hsd he hdd, hrun, bytes_back]
          simp [ByteArray.empty, ByteArray.emptyWithCapacity]
          rfl
        · cases h
      · cases h
    · cases h
  · cases h
theorem firstCellsA_ok {z n : Nat} {x : AV} {l : List AV} (h : firstCellsA s z n x = some (l, s')) :
    Step s s' ∧ s'.h = s.h ∧ s'.c = s.c ∧ ∀ {G B E w x'}, (∀ j, In s'.l j → G j) → Sat G B E s w → Rel E x x' → n ≤ (lenOfA x).getD 0 →
      Sat G B E s' w ∧ ∃ ys, (∀ W : World, W.heap = w.heap → (Builtin.firstCells z n x').run P W = .ok ys.toArray W) ∧ RelL E l ys ∧ ys.length = n * z := by
  cases x <;> simp only [firstCellsA] at h <;> first | (cases h; done) | skip
  case str l0 =>
    obtain ⟨hz, h⟩ := bc_some h
    cases h
    refine ⟨Step.refl _, rfl, rfl, fun {G B E w x'} hG hs hx hn => ⟨hs, ?_⟩⟩
    cases hx
    have hz' : z = 1 := by simpa using hz
    refine ⟨(l0.take n).map fun b => Value.int .u8 b.toNat, fun W hW => ?_, ofBytes_rel _, ?_⟩
    · simp [Builtin.firstCells, extract_mk]
    · simp [lenOfA] at hn
      simp [hz']; omega
  case nilslice =>
    cases h
    refine ⟨Step.refl _, rfl, rfl, fun {G B E w x'} hG hs hx hn => ⟨hs, [], ?_, .nil, ?_⟩⟩
    · cases hx; intro W hW; rfl
    · simp [lenOfA] at hn; simp [hn]
  case eslice =>
    cases h
    refine ⟨Step.refl _, rfl, rfl, fun {G B E w x'} hG hs hx hn => ?_⟩
    have hn0 : n = 0 := by simpa [lenOfA] using hn
    subst hn0
    refine ⟨hs, [], ?_, .nil, by simp⟩
    cases hx
    intro W hW
    simp [Builtin.firstCells, loadCells, loadCellsFrom]
  case slice i off len cap dr =>
    obtain ⟨l', hl, h⟩ := oc_some h
    cases h
    refine ⟨Step.see _ _, rfl, rfl, fun {G B E w x'} hG hs hx hn => ⟨hs.seen i, ?_⟩⟩
    cases hx
    rename_i b c hb hc
    obtain ⟨b', C, ys, he, hr, hlen, hcell⟩ := hs.loadN (hG _ (in_see _ _)) hl
    obtain rfl := hs.at_live he hb
    refine ⟨ys, fun W hW => ?_, hr, hlen⟩
    simp only [Builtin.firstCells]
    refine run_loadCells_at (fun j v hj => ?_) hlen
    rw [World.cell?, hW]; exact hcell j v hj
  case aslice i off len =>
    obtain ⟨l', hl, h⟩ := oc_some h
    cases h
    refine ⟨Step.see _ _, rfl, rfl, fun {G B E w x'} hG hs hx hn => ⟨hs.seen i, ?_⟩⟩
    cases hx
    rename_i b C c hb hc
    obtain ⟨b', C', ys, he, hr, hlen, hcell⟩ := hs.rowN (hG _ (in_see _ _)) hl
    obtain ⟨rfl, rfl⟩ := hs.row_live he hb
    refine ⟨ys, fun W hW => ?_, hr, hlen⟩
    simp only [Builtin.firstCells]
    refine run_loadCells_at (fun j v hj => ?_) hlen
    rw [World.cell?, hW]; exact hcell j v hj
theorem lenOfA_ok {x : AV} {n : Nat} {x' : Value} (h : lenOfA x = some n) (hx : Rel E x x') (w : World) : (Builtin.lenOf x').run P w = .ok n w := by
  cases hx <;> simp only [lenOfA] at h <;> first | (cases h; done) | skip
  all_goals cases h
  · simp [Builtin.lenOf, ByteArray.size]
  all_goals rfl
end
end Ev
end Go.Proofs.YtbjllaknnpbkkaaGreatDoor
