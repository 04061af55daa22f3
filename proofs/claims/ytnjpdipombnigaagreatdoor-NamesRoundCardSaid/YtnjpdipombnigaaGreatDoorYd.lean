/-
  The evaluator: literals, make, conversions, len, copy, clear, max, min.
  The evaluator: conversions, len, copy, clear, max, min.
  The evaluator: append.
  The evaluator: append, copy, clear, len, cap, max, min.
-/
import Derived.Test.YtnjpdipombnigaaGreatDoorYc
import Derived.Laws.IdiomStrings
import Derived.Laws.BytesString
import Derived.Laws.BytesArg
import Derived.Lib.Builder
import Derived.Lib.UnsafeStr
import Derived.Laws.Append
namespace Go.Proofs.YtnjpdipombnigaaGreatDoor
namespace Ev
open Go.RowKit

section
variable {P : Program} {G : Nat → Prop} {B : Nat} {E : Env} {s s' : St} {w : World} {v : AV}

theorem range_zero_map (f : Nat → Value) : (Array.range 0).map f = #[] := by apply Array.ext'; simp
theorem placesOf_run : ∀ {fs : List Field} {pl : List (Nat × Nat)}, placesOf P fs = some pl → (fs.mapM fun (f : Field) => (do pure (f.offset, ← sizeOf f.type) : Sem (Nat × Nat))).run P w = .ok pl w
  | [], pl, h => by cases h; rfl
  | f :: r, pl, h => by
    simp only [placesOf] at h
    split at h
    · rename_i n l hn hl
      cases h
      have ih := placesOf_run hl
      simp only [List.mapM_cons, Sem.run_bind, szOf_run hn, Result.andThen_ok, Sem.run_pure, ih]
    · cases h
theorem build_ok {t : TypeId} {z : AV} {parts : List (Nat × AV)} {parts' : Array (Nat × Value)} {l : List AV} (hz : zeroOf P t = some z) (hp : RelP E parts parts'.toList)
    (h : (match P.underlying t with
      | some (.struct fs) => oc (placesOf P fs.toList) fun pl => oc (fillA (nth pl) z.cells parts) fun l => some (AV.agg l, s)
      | some (.array _ e) => oc (szOf P e) fun n => oc (fillA (fun i => some (i * n, n)) z.cells parts) fun l => some (AV.agg l, s)
      | _ => none) = some (v, s')) : s' = s ∧ ∃ v', (Instr.build t parts').run P w = .ok v' w ∧ Rel E v v' := by
  obtain ⟨zv, hzr, hzrel⟩ := zeroOf_run hz
  split at h
  · rename_i fs hu
    obtain ⟨pl, hpl, h⟩ := oc_some h
    obtain ⟨l, hl, h⟩ := oc_some h
    cases h
    obtain ⟨cs', h1, h2⟩ := fillA_ok parts hl hp (hzrel E).cells
    have hpr : (fs.mapM fun (f : Field) => (do pure (f.offset, ← sizeOf f.type) : Sem (Nat × Nat))).run P w = .ok pl.toArray w := by
      rw [Array.mapM_eq_mapM_toList]
      simp only [Sem.run_map, placesOf_run hpl, Result.andThen_ok]
    have hpl' : (fun i => pl.toArray[i]?) = nth pl := by funext i; rw [nth_get]; simp
    refine ⟨rfl, .agg cs', ?_, .agg h2⟩
    simp only [Instr.build, Sem.run_bind, hzr, Result.andThen_ok, und_run hu, hpr, hpl', h1, Sem.run_pure]
  · rename_i n e hu
    obtain ⟨k, hk, h⟩ := oc_some h
    obtain ⟨l, hl, h⟩ := oc_some h
    cases h
    obtain ⟨cs', h1, h2⟩ := fillA_ok parts hl hp (hzrel E).cells
    refine ⟨rfl, .agg cs', ?_, .agg h2⟩
    simp only [Instr.build, Sem.run_bind, hzr, Result.andThen_ok, und_run hu, szOf_run hk, h1, Sem.run_pure]
  · cases h
theorem buildSlice_ok {t : TypeId} {len : Nat} {parts : List (Nat × AV)}
    (h : (match P.underlying t with
      | some (.slice e) => oc (szOf P e) fun n => oc (zeroOf P e) fun z => bc (Nat.blt 0 n) (bc (Nat.beq z.cells.length n) (bc (Nat.ble (Nat.mul len n) 1000000)
        (oc (fillA (fun i => some (i * n, n)) (repL z.cells len) parts) fun l => bc (allOne l) (some (AV.slice s.c 0 len (some len) 0, s.new (.cells l e (0, 0) none))))))
      | _ => none) = some (v, s')) :
    Step s s' ∧ ∀ {G B E w} {parts' : Array (Nat × Value)}, (∀ j, In s'.l j → G j) → Sat G B E s w → RelP E parts parts'.toList → Ok1 P G B s' v E w (Instr.buildSlice t len parts') := by
  split at h
  · rename_i e hu
    obtain ⟨n, hn, h⟩ := oc_some h
    obtain ⟨z, hz, h⟩ := oc_some h
    obtain ⟨hpos, h⟩ := bc_some h
    obtain ⟨hzl, h⟩ := bc_some h
    obtain ⟨hle, h⟩ := bc_some h
    obtain ⟨l, hl, h⟩ := oc_some h
    obtain ⟨hone, h⟩ := bc_some h
    cases h
    refine ⟨Step.new _ _, fun {G B E w parts'} hG hs hp => ?_⟩
    obtain ⟨zv, hzr, hzrel⟩ := zeroOf_run hz
    have hpos' : 0 < n := by simpa using hpos
    have hzl' : z.cells.length = n := by simpa using hzl
    have hle' : len * n ≤ 1000000 := by simpa using hle
    have hrep := repL_rel (hzrel E) (n := len) hzl' hpos'
    obtain ⟨cs', h1, h2⟩ := fillA_ok parts hl hp hrep
    obtain ⟨k1, k2⟩ := new_cells hs hG h2
    refine ⟨_, .slice (some ⟨w.heap.size, 0, none⟩) len len, _, ?_, .slice (by rw [Env.set_same]; rfl) rfl, k1, k2⟩
    have hn24 : ¬ len * n > 2 ^ 24 := by omega
    by_cases h0 : len * n = 0
    · have hl0 : len = 0 := by rcases Nat.mul_eq_zero.1 h0 with h | h <;> omega
      subst hl0
      simp only [Instr.buildSlice, Sem.run_bind, und_run hu, szOf_run hn, Result.andThen_ok, Sem.run_ite, Sem.run_pure]
      rw [Nat.zero_mul, range_zero_map] at h1
      simp [range_zero_map, h1, newRow]
    · simp only [Instr.buildSlice, Sem.run_bind, und_run hu, szOf_run hn, Result.andThen_ok, Sem.run_ite, Sem.run_pure, hzr]
      simp [hn24, h0, h1, newRow]
  · cases h
theorem makeSliceA_ok {t : TypeId} {l c : AV} (h : makeSliceA P t l c s = some (v, s')) :
    Step s s' ∧ ∀ {G B E w l' c'}, (∀ j, In s'.l j → G j) → Sat G B E s w → Rel E l l' → Rel E c c' → Ok1 P G B s' v E w (Instr.makeSlice t l' c') := by
  unfold makeSliceA at h
  split at h
  case h_2 => cases h
  rename_i e hu
  unfold AV.intC at h
  split at h
  case h_2 => cases h
  split at h
  case h_2 => cases h
  rename_i kl nl _ kc nc
  obtain ⟨ln, hln, h⟩ := oc_some h
  obtain ⟨cn, hcn, h⟩ := oc_some h
  obtain ⟨z, hz, h⟩ := oc_some h
  obtain ⟨by_, hby, h⟩ := oc_some h
  obtain ⟨zero, hzero, h⟩ := oc_some h
  obtain ⟨h1, h⟩ := bc_some h
  obtain ⟨h2, h⟩ := bc_some h
  obtain ⟨h3, h⟩ := bc_some h
  obtain ⟨h4, h⟩ := bc_some h
  obtain ⟨h5, h⟩ := bc_some h
  obtain ⟨h6, h⟩ := bc_some h
  cases h
  refine ⟨Step.new _ _, fun {G B E w l' c'} hG hs hl hc => ?_⟩
  cases hl
  cases hc
  obtain rfl := natOf_some hln
  obtain rfl := natOf_some hcn
  have h1' : ln ≤ cn := by simpa using h1
  have h2' : cn ≤ 1000000 := by simpa using h2
  have h3' : by_ ≤ 4096 := by simpa using h3
  have h4' : 0 < z := by simpa using h4
  have h5' : zero.cells.length = z := by simpa using h5
  obtain ⟨zv, hzr, hzrel⟩ := zeroOf_run hzero
  have hrep := repL_rel (hzrel E) (n := cn) h5' h4'
  obtain ⟨k1, k2⟩ := new_cells (e := e) hs hG hrep
  refine ⟨_, .slice (some ⟨w.heap.size, 0, none⟩) ln cn, _, ?_, .slice (by rw [Env.set_same]; rfl) rfl, k1, k2⟩
  have hi : ∃ i, P.info? e = some i ∧ i.bytes = by_ ∧ i.size = z := by
    unfold bytesB at hby
    unfold szOf at hz
    cases hi : P.info? e with
    | none => rw [hi] at hby; cases hby
    | some i => rw [hi] at hby hz; cases hby; cases hz; exact ⟨i, rfl, rfl, rfl⟩
  obtain ⟨i, hi, hib, his⟩ := hi
  have w1 : IntKind.i64.wrap (ln : Int) = ln := wrap_i64 _ (by omega) (by omega)
  have w2 : IntKind.i64.wrap (cn : Int) = cn := wrap_i64 _ (by omega) (by omega)
  have hbig : ¬ ((by_ : Int) * (cn : Int) > 2 ^ 48) := by
    have : (by_ : Int) * (cn : Int) ≤ 4096 * 1000000 := Int.mul_le_mul (by omega) (by omega) (by omega) (by omega)
    omega
  have hneg : ¬ ((cn : Int) < 0) := by omega
  have hneg' : ¬ ((ln : Int) < 0) := by omega
  have hlc : ¬ ((ln : Int) > (cn : Int)) := by omega
  simp only [Instr.makeSlice, Sem.run_bind, und_run hu, Result.andThen_ok, asInt, asIntOf, Sem.run_pure, typeInfo, run_program, hi, hib, w1, w2, hneg, hneg', hlc, hbig, decide_false, Bool.or_false, Bool.false_eq_true, if_false, run_askRoom, sizeOf, his]
  by_cases h0 : cn * z = 0
  · have hc0 : cn = 0 := by rcases Nat.mul_eq_zero.1 h0 with h | h <;> omega
    subst hc0
    simp [range_zero_map, newRow]
  · simp [h0, hzr, newRow]
end
end Ev
end Go.Proofs.YtnjpdipombnigaaGreatDoor
namespace Go.Proofs.YtnjpdipombnigaaGreatDoor
namespace Ev
open Go.RowKit

section
variable {P : Program} {G : Nat → Prop} {B : Nat} {E : Env} {s s' : St} {w : World} {v : AV}

theorem bytesOfA_some : ∀ {l : List AV} {b : List UInt8} {ys : List Value}, bytesOfA l = some b → RelL E l ys → ∃ ns : List Int, ys = ns.map (Value.int .u8) ∧ b = ns.map fun n => UInt8.ofNat n.toNat
  | _, b, _, h, .nil => by cases h; exact ⟨[], rfl, rfl⟩
  | _, b, _, h, .cons hx ht => by
    unfold bytesOfA at h
    split at h
    · rename_i heq; cases heq
    · rename_i n r heq
      cases heq
      split at h
      · rename_i l' hl
        cases h
        cases hx
        obtain ⟨ns, h1, h2⟩ := bytesOfA_some hl ht
        exact ⟨n :: ns, by simp [h1], by simp [h2]⟩
      · cases h
    · cases h
theorem bytes_back (l : List UInt8) : (l.map fun x => (x.toNat : Int)).map (fun n => UInt8.ofNat n.toNat) = l := by
  rw [List.map_map]
  have : ((fun n : Int => UInt8.ofNat n.toNat) ∘ fun x : UInt8 => (x.toNat : Int)) = id := by funext x; simp
  rw [this, List.map_id]
theorem psVal_catP (ρ : Nat → Int) (a b : List Pc) : psVal ρ (catP a b) = psVal ρ a ++ psVal ρ b := psVal_cat ρ a b
theorem pcsOfA_some : ∀ {l : List AV} {ps : List Pc} {ys : List Value}, pcsOfA l = some ps → RelL E l ys → ∃ ns : List Int, ys = ns.map (Value.int .u8) ∧ psVal E.ρ ps = ns.map fun n => UInt8.ofNat n.toNat
  | _, b, _, h, .nil => by cases h; exact ⟨[], rfl, rfl⟩
  | _, b, _, h, .cons hx ht => by
    unfold pcsOfA at h
    split at h
    · rename_i heq; cases heq
    · rename_i n r heq
      cases heq
      obtain ⟨l', hl, h⟩ := oc_some h
      cases h
      cases hx
      obtain ⟨ns, h1, h2⟩ := pcsOfA_some hl ht
      exact ⟨n :: ns, by simp [h1], by rw [psVal_cat, h2, psVal_one]; simp⟩
    · rename_i e r heq
      cases heq
      obtain ⟨l', hl, h⟩ := oc_some h
      cases h
      cases hx
      obtain ⟨ns, h1, h2⟩ := pcsOfA_some hl ht
      exact ⟨e.val E.ρ :: ns, by simp [h1], by simp [psVal, Pc.val, h2]⟩
    · cases h
theorem ofBytes_rel : ∀ (l : List UInt8), RelL E (ofBytes l) (l.map fun b => Value.int .u8 b.toNat)
  | [] => .nil
  | b :: r => .cons (.int _ _) (ofBytes_rel r)
theorem ofBytes_length : ∀ (l : List UInt8), (ofBytes l).length = l.length
  | [] => rfl
  | _ :: r => by simp [ofBytes, ofBytes_length r]
theorem grownCap_ge (w : World) (need old : Nat) (e : TypeId) : need ≤ grownCap w need old e := by
  simp [grownCap, Question.cut]
/-- A new row whose end nobody knows. -/
theorem new_open (hs : Sat G B E s w) {e : TypeId} {l : List AV} {c : Array Value} {f : Nat × Nat} {xs rest : List Value} {C z : Nat} (hG : ∀ j, In (s.new (.cells l e (0, 0) (some z))).l j → G j)
    (hc : c.toList = xs ++ rest) (hr : RelL E l xs) (hsz : c.size = C * z) (hf : ∀ off, off < c.size → ¬ (f.1 ≤ off ∧ off < f.2)) :
    Sat G B (E.set s.c (.live w.heap.size C)) (s.new (.cells l e (0, 0) (some z))) (w.alloc (.cells c e f)) ∧ Ext B (s.new (.cells l e (0, 0) (some z))).w E (E.set s.c (.live w.heap.size C)) w (w.alloc (.cells c e f)) := by
  have hg := hG _ (in_new _ _)
  have hle : E.le (E.set s.c (.live w.heap.size C)) := E.set_le _ _ (by rw [hs.fresh s.c (Nat.le_refl _) hg]; trivial)
  exact hs.new hg rfl ⟨c, f, xs, rest, _, C, rfl, hc, hr.mono hle, Env.set_same _ _ _, hsz, fun off h1 h2 h3 => absurd ⟨h2, h3⟩ (hf off h1)⟩
theorem unsafeA_ok {src dst : TypeId} {sd dd : TypeDesc} {i off : Nat} (hsd : P.underlying src = some sd) (hdd : P.underlying dst = some dd) (h : unsafeA P sd dd i off s = some (v, s')) :
    Step s s' ∧ ∀ {G B E w x'}, (∀ j, In s'.l j → G j) → Sat G B E s w → Rel E (.ptr i off) x' → Ok1 P G B s' v E w (convert src dst x') := by
  obtain ⟨o, ho, h1⟩ := oc_some h
  unfold cellsC at h1
  split at h1 <;> first | (cases h1; done) | skip
  rename_i vs e fz op
  cases op with
  | some z => cases h1
  | none =>
    obtain ⟨hlt, h2⟩ := bc_some h1
    have shape : ∀ {G : Nat → Prop} {B : Nat} {E : Env} {w : World} {b : Nat}, G i → Sat G B E s w → (E i).at b → ∃ cells, w.shape? b = some (e, cells) ∧ vs.length = cells := by
      intro G B E w b hg hs hb
      obtain ⟨b', C, ob, he, hh, hok, _⟩ := hs.fact i _ hg ho
      obtain rfl := hs.at_live he hb
      obtain ⟨c, f, rfl, hr, _⟩ := hok
      exact ⟨c.size, by simp [World.shape?, hh], by simpa using hr.length⟩
    split at h2
    · obtain ⟨z, hz, h3⟩ := oc_some h2
      obtain ⟨hpos, h4⟩ := bc_some h3
      cases h4
      refine ⟨Step.see _ _, fun {G B E w x'} hG hs hx => ?_⟩
      cases hx
      rename_i b hb
      obtain ⟨cells, hsh, hlen⟩ := shape (hG _ (in_see _ _)) hs hb
      obtain ⟨j, hj, hjz⟩ := Option.map_eq_some_iff.1 hz
      have hpos' : 0 < z := by simpa using hpos
      have hlt' : off < vs.length := by simpa using hlt
      exact Ok1.pure (hs.seen i) (Lib.run_to_unsafe w ⟨b, off, none⟩ hsd hdd hj (by omega) hsh (by show off < cells; omega)) (.ptr hb)
    · obtain ⟨z, hz, h3⟩ := oc_some h2
      obtain ⟨hlies, h4⟩ := bc_some h3
      cases h4
      refine ⟨Step.see _ _, fun {G B E w x'} hG hs hx => ?_⟩
      cases hx
      rename_i b hb
      obtain ⟨cells, hsh, hlen⟩ := shape (hG _ (in_see _ _)) hs hb
      obtain ⟨j, hj, hjz⟩ := Option.map_eq_some_iff.1 hz
      exact Ok1.pure (hs.seen i) (Lib.run_from_unsafe w ⟨b, off, none⟩ hsd hdd hj hsh (by rw [← hlen]; exact hlies)) (.ptr hb)
    · cases h2
theorem convA_ok {src dst : TypeId} {x : AV} (h : convA P src dst x s = some (v, s')) :
    Step s s' ∧ ∀ {G B E w x'}, (∀ j, In s'.l j → G j) → Sat G B E s w → Rel E x x' → Ok1 P G B s' v E w (convert src dst x') := by
  obtain ⟨sd, hsd, h1⟩ := oc_some h
  clear h
  obtain ⟨dd, hdd, h⟩ := oc_some h1
  clear h1
  split at h
  · rename_i k n
    split at h
    · rename_i k'
      cases h
      refine ⟨Step.refl _, fun {G B E w x'} hG hs hx => ?_⟩
      cases hx
      rw [wrapA_eq]
      exact Ok1.pure hs (by simp [convert, und_run hsd, und_run hdd, Conv.intToInt]) (.int _ _)
    · cases h
      refine ⟨Step.refl _, fun {G B E w x'} hG hs hx => ?_⟩
      cases hx
      exact Ok1.pure hs (by simp [convert, und_run hsd, und_run hdd, Conv.intToString]) (Rel.str (Utf8.encode n).data.toList)
    · cases h
  · rename_i k e
    split at h
    · rename_i k'
      cases h
      refine ⟨Step.refl _, fun {G B E w x'} hG hs hx => ?_⟩
      cases hx
      refine Ok1.pure hs (v' := .int k' ((s.o.wrap k' e).val E.ρ)) ?_ (.sint k' (s.o.wrap k' e))
      rw [hs.orc.wrap]
      simp [convert, und_run hsd, und_run hdd, Conv.intToInt]
    · cases h
  · rename_i l
    split at h
    · cases h
      refine ⟨Step.refl _, fun {G B E w x'} hG hs hx => ?_⟩
      cases hx
      exact Ok1.pure hs (by simp [convert, und_run hsd, und_run hdd]) (.str _)
    · rename_i e
      split at h
      · rename_i he
        cases h
        refine ⟨Step.new _ _, fun {G B E w x'} hG hs hx => ?_⟩
        cases hx
        have hrun := run_bytes_of_string (P := P) w src dst e ⟨l.toArray⟩ hsd hdd he
        have hsz : (ByteArray.mk l.toArray).size = l.length := by simp [ByteArray.size]
        have hge := grownCap_ge w l.length 0 e
        rw [hsz] at hrun
        have hrow : (bytesRow ⟨l.toArray⟩ (grownCap w l.length 0 e)).toList = (l.map fun b => Value.int .u8 b.toNat) ++ List.replicate (grownCap w l.length 0 e - l.length) (.int .u8 0) := by
          simp [bytesRow, hsz]
        have hsize : (bytesRow ⟨l.toArray⟩ (grownCap w l.length 0 e)).size = grownCap w l.length 0 e * 1 := by
          rw [← Array.length_toList, hrow]; simp; omega
        obtain ⟨k1, k2⟩ := new_open (w := w.drew) (e := e) (z := 1) (f := ((bytesRow ⟨l.toArray⟩ (grownCap w l.length 0 e)).size, (bytesRow ⟨l.toArray⟩ (grownCap w l.length 0 e)).size + 1)) (hs.drew _) hG hrow (ofBytes_rel l) hsize (fun off h1 h2 => by simp at h2; omega)
        refine ⟨_, _, _, hrun, .slice (by rw [Env.set_same]; rfl) ⟨hge, by rw [Env.set_same]; simp⟩, k1, ?_⟩
        exact (Ext.drew (B := B) (E := E) (w := w) _ _).trans k2 (fun j hj => hj)
      · cases h
    · cases h
  · rename_i ps
    split at h
    · rename_i e
      split at h
      · rename_i he
        obtain ⟨cs, hcs, h⟩ := oc_some h
        cases h
        refine ⟨Step.new _ _, fun {G B E w x'} hG hs hx => ?_⟩
        cases hx
        obtain ⟨l, hl⟩ : ∃ l, l = psVal E.ρ ps := ⟨_, rfl⟩
        have hrel := bytesP_rel (E := E) hcs
        have hlen := bytesP_length (E := E) hcs
        rw [← hl] at hrel hlen ⊢
        rw [hlen]
        have hrun := run_bytes_of_string (P := P) w src dst e ⟨l.toArray⟩ hsd hdd he
        have hsz : (ByteArray.mk l.toArray).size = l.length := by simp [ByteArray.size]
        have hge := grownCap_ge w l.length 0 e
        rw [hsz] at hrun
        have hrow : (bytesRow ⟨l.toArray⟩ (grownCap w l.length 0 e)).toList = (l.map fun b => Value.int .u8 b.toNat) ++ List.replicate (grownCap w l.length 0 e - l.length) (.int .u8 0) := by
          simp [bytesRow, hsz]
        have hsize : (bytesRow ⟨l.toArray⟩ (grownCap w l.length 0 e)).size = grownCap w l.length 0 e * 1 := by
          rw [← Array.length_toList, hrow]; simp; omega
        obtain ⟨k1, k2⟩ := new_open (w := w.drew) (e := e) (z := 1) (f := ((bytesRow ⟨l.toArray⟩ (grownCap w l.length 0 e)).size, (bytesRow ⟨l.toArray⟩ (grownCap w l.length 0 e)).size + 1)) (hs.drew _) hG hrow hrel hsize (fun off h1 h2 => by simp at h2; omega)
        refine ⟨_, _, _, hrun, .slice (by rw [Env.set_same]; rfl) ⟨hge, by rw [Env.set_same]; simp⟩, k1, ?_⟩
        exact (Ext.drew (B := B) (E := E) (w := w) _ _).trans k2 (fun j hj => hj)
      · cases h
    · cases h
  · split at h
    · rename_i e
      split at h
      · rename_i he
        cases h
        refine ⟨Step.refl _, fun {G B E w x'} hG hs hx => ?_⟩
        cases hx
        exact Ok1.pure hs (by simp [convert, und_run hsd, und_run hdd, und_run he, Conv.bytesToString]; rfl) (.str [])
      · cases h
    · cases h
  · exact unsafeA_ok hsd hdd h
  · rename_i i off len cap dr
    split at h
    · rename_i e
      split at h
      · rename_i he
        obtain ⟨l, hl, h⟩ := oc_some h
        split at h
        · rename_i b hb
          cases h
          refine ⟨Step.see _ _, fun {G B E w x'} hG hs hx => ?_⟩
          cases hx
          rename_i bb c hbb hc
          obtain ⟨b', C, ys, he', hr, hlen, hcell⟩ := hs.loadN (hG _ (in_see _ _)) hl
          obtain rfl := hs.at_live he' hbb
          obtain ⟨ns, rfl, rfl⟩ := bytesOfA_some hb hr
          have hload := run_loadCells_at (P := P) hcell hlen
          have hrun := run_bytesToString (P := P) w ⟨bb, off, none⟩ len c ns hload
          rw [foldl_push_bytes] at hrun
          refine Ok1.pure (hs.seen i) (v' := .string ⟨(ns.map fun n => UInt8.ofNat n.toNat).toArray⟩) ?_ (.str _)
          rw [run_convert_bytes_string w src dst e _ len c hsd he hdd, hrun]
          simp [ByteArray.empty, ByteArray.emptyWithCapacity]
          rfl
        · obtain ⟨ps, hb, h⟩ := oc_some h
          cases h
          refine ⟨Step.see _ _, fun {G B E w x'} hG hs hx => ?_⟩
          cases hx
          rename_i bb c hbb hc
          obtain ⟨b', C, ys, he', hr, hlen, hcell⟩ := hs.loadN (hG _ (in_see _ _)) hl
          obtain rfl := hs.at_live he' hbb
          obtain ⟨ns, rfl, hps⟩ := pcsOfA_some hb hr
          have hload := run_loadCells_at (P := P) hcell hlen
          have hrun := run_bytesToString (P := P) w ⟨bb, off, none⟩ len c ns hload
          rw [foldl_push_bytes] at hrun
          refine Ok1.pure (hs.seen i) (v' := .string ⟨(psVal E.ρ ps).toArray⟩) ?_ (.pstr _)
          rw [run_convert_bytes_string w src dst e _ len c hsd he hdd, hrun, hps]
          simp [ByteArray.empty, ByteArray.emptyWithCapacity]
          rfl
      · cases h
    · cases h
  · rename_i i ps
    split at h
    · rename_i e
      split at h
      · rename_i he
        obtain ⟨o, ho, h⟩ := oc_some h
        split at h
        · rename_i qs e'
          obtain ⟨hpq, h⟩ := bc_some h
          cases h
          refine ⟨Step.see _ _, fun {G B E w x'} hG hs hx => ?_⟩
          cases hx
          rename_i bb c hbb hc
          obtain ⟨b', C, ob, he', hh, hok, _⟩ := hs.fact i _ (hG _ (in_see _ _)) ho
          obtain rfl := hs.at_live he' hbb
          obtain ⟨cc, f, rest, b2, C2, rfl, hxs, _, _, _⟩ := hok
          rw [← pcsEq_ok E.ρ hpq] at hxs
          have hload := run_loadCells_at (P := P) (w := w) (b := bb) (off := 0) (n := (psVal E.ρ ps).length) (ys := ((psVal E.ρ ps).map fun x => (x.toNat : Int)).map (Value.int .u8)) (by
            intro j v hj
            have hj' : (bytesV (psVal E.ρ ps))[j]? = some v := by
              rw [← hj]; simp only [bytesV, List.map_map]; rfl
            have h3 : cc[0 + j]? = some v := by
              rw [Nat.zero_add, ← Array.getElem?_toList, hxs, List.getElem?_append_left (List.getElem?_eq_some_iff.1 hj').1]; exact hj'
            simpa [World.cell?, hh] using h3) (by simp)
          have hrun := run_bytesToString (P := P) w ⟨bb, 0, none⟩ (psVal E.ρ ps).length c _ hload
          rw [foldl_push_bytes] at hrun
          refine Ok1.pure (hs.seen i) (v' := .string ⟨(psVal E.ρ ps).toArray⟩) ?_ (.pstr _)
          rw [run_convert_bytes_string w src dst e _ _ c hsd he hdd, hrun, bytes_back]
          simp [ByteArray.empty, ByteArray.emptyWithCapacity]
          rfl
        · cases h
      · cases h
    · cases h
  · cases h
theorem firstCellsA_ok {z n : Nat} {x : AV} {l : List AV} (h : firstCellsA s z n x = some (l, s')) :
    Step s s' ∧ s'.h = s.h ∧ s'.c = s.c ∧ ∀ {G B E w x'}, (∀ j, In s'.l j → G j) → Sat G B E s w → Rel E x x' → n ≤ (lenOfA x).getD 0 →
      Sat G B E s' w ∧ ∃ ys, (∀ W : World, W.heap = w.heap → (Builtin.firstCells z n x').run P W = .ok ys.toArray W) ∧ RelL E l ys ∧ ys.length = n * z := by
  cases x <;> simp only [firstCellsA] at h <;> first | (cases h; done) | skip
  case psl m l0 =>
    obtain ⟨hm, h⟩ := bc_some h
    obtain ⟨hl, h⟩ := bc_some h
    cases h
    have hm' : n = m := by simpa using hm
    have hl' : l.length = n * z := by rw [hm']; simpa using hl
    refine ⟨Step.refl _, rfl, rfl, fun {G B E w x'} hG hs hx hn => ⟨hs, ?_⟩⟩
    cases hx with
    | psl0 =>
      subst hm'
      exact ⟨[], fun W hW => rfl, .nil, by simp⟩
    | psl hb hh hn' hc hu hx =>
      rename_i us c e f
      have hlen : us.length = n * z := by rw [← hx.length, hl']
      refine ⟨us, fun W hW => ?_, hx, hlen⟩
      simp only [Builtin.firstCells]
      refine run_loadCells_at (fun j v hj => ?_) hlen
      rw [World.cell?, hW, (hs.prot _ hb).2.1, hh]
      exact hu j v hj
  case str l0 =>
    obtain ⟨hz, h⟩ := bc_some h
    cases h
    refine ⟨Step.refl _, rfl, rfl, fun {G B E w x'} hG hs hx hn => ⟨hs, ?_⟩⟩
    cases hx
    have hz' : z = 1 := by simpa using hz
    refine ⟨(l0.take n).map fun b => Value.int .u8 b.toNat, fun W hW => ?_, ofBytes_rel _, ?_⟩
    · simp [Builtin.firstCells, extract_mk]
    · simp [lenOfA] at hn
      simp [hz']; omega
  case nilslice =>
    cases h
    refine ⟨Step.refl _, rfl, rfl, fun {G B E w x'} hG hs hx hn => ⟨hs, [], ?_, .nil, ?_⟩⟩
    · cases hx; intro W hW; rfl
    · simp [lenOfA] at hn; simp [hn]
  case eslice =>
    cases h
    refine ⟨Step.refl _, rfl, rfl, fun {G B E w x'} hG hs hx hn => ?_⟩
    have hn0 : n = 0 := by simpa [lenOfA] using hn
    subst hn0
    refine ⟨hs, [], ?_, .nil, by simp⟩
    cases hx
    intro W hW
    simp [Builtin.firstCells, loadCells, loadCellsFrom]
  case slice i off len cap dr =>
    obtain ⟨l', hl, h⟩ := oc_some h
    cases h
    refine ⟨Step.see _ _, rfl, rfl, fun {G B E w x'} hG hs hx hn => ⟨hs.seen i, ?_⟩⟩
    cases hx
    rename_i b c hb hc
    obtain ⟨b', C, ys, he, hr, hlen, hcell⟩ := hs.loadN (hG _ (in_see _ _)) hl
    obtain rfl := hs.at_live he hb
    refine ⟨ys, fun W hW => ?_, hr, hlen⟩
    simp only [Builtin.firstCells]
    refine run_loadCells_at (fun j v hj => ?_) hlen
    rw [World.cell?, hW]; exact hcell j v hj
  case aslice i off len =>
    obtain ⟨l', hl, h⟩ := oc_some h
    cases h
    refine ⟨Step.see _ _, rfl, rfl, fun {G B E w x'} hG hs hx hn => ⟨hs.seen i, ?_⟩⟩
    cases hx
    rename_i b C c hb hc
    obtain ⟨b', C', ys, he, hr, hlen, hcell⟩ := hs.rowN (hG _ (in_see _ _)) hl
    obtain ⟨rfl, rfl⟩ := hs.row_live he hb
    refine ⟨ys, fun W hW => ?_, hr, hlen⟩
    simp only [Builtin.firstCells]
    refine run_loadCells_at (fun j v hj => ?_) hlen
    rw [World.cell?, hW]; exact hcell j v hj
theorem lenOfA_ok {x : AV} {n : Nat} {x' : Value} (h : lenOfA x = some n) (hx : Rel E x x') (w : World) : (Builtin.lenOf x').run P w = .ok n w := by
  cases hx <;> simp only [lenOfA] at h <;> first | (cases h; done) | skip
  all_goals cases h
  · simp [Builtin.lenOf, ByteArray.size]
  all_goals rfl
end
end Ev
end Go.Proofs.YtnjpdipombnigaaGreatDoor
namespace Go.Proofs.YtnjpdipombnigaaGreatDoor
namespace Ev
open Go.RowKit

section
variable {P : Program} {G : Nat → Prop} {B : Nat} {E : Env} {s s' : St} {w : World} {v : AV}

/-- An id's object is forgotten. -/
theorem Sat.kill (h : Sat G B E s w) (i : Nat) (hu : E i ≠ .unborn) : Sat G B (E.set i .dead) (s.set i none) w ∧ Ext B (s.set i none).w E (E.set i .dead) w w := by
  have hle : E.le (E.set i .dead) := E.set_le _ _ (by cases hE : E i <;> simp_all [Slot.le])
  have hlive : ∀ j b C, E.set i .dead j = .live b C → j ≠ i ∧ E j = .live b C := by
    intro j b C hj
    by_cases hji : j = i
    · subst hji; rw [Env.set_same] at hj; cases hj
    · rw [Env.set_ne _ _ hji] at hj; exact ⟨hji, hj⟩
  refine ⟨⟨?_, ?_, h.base, fun g hg => Slot.at_le (hle g) (h.glob g hg), ?_, ?_, h.orc, fun k hk => ?_, h.defs⟩, hle, ?_, fun _ _ _ _ _ => rfl, Below.refl _ _, fun _ _ _ => rfl, fun j b C hj => .inl ⟨j, C, (hlive j b C hj).2⟩, fun _ h => .inl h⟩
  · intro j k b C D hb hj hk
    exact h.inj j k b C D hb (hlive _ _ _ hj).2 (hlive _ _ _ hk).2
  · intro j b C hj
    exact h.lt j b C (hlive _ _ _ hj).2
  · intro j hj hg
    have hju := h.fresh j hj hg
    rw [Env.set_ne _ _ (fun e => hu (by rw [← e]; exact hju))]; exact hju
  · intro j o hg hj
    rcases T.put_some hj with ⟨_, hx⟩ | ⟨hne, hx⟩
    · cases hx
    · obtain ⟨b, C, ob, he, hb, hok, hf⟩ := h.fact j o hg hx
      exact ⟨b, C, ob, (Env.set_ne _ _ hne).trans he, hb, hok.mono hle (fun b X hbx => (Env.set_ne _ _ hne).trans hbx), hf⟩
  · obtain ⟨h1, h2, h3⟩ := h.prot k hk
    exact ⟨h1, h2, fun j X hj => h3 j X (hlive j k X hj).2⟩
  · intro j hj
    exact Env.set_ne _ _ (fun e => hj ((in_lor _ _ _).2 (.inr ((in_bit _ _).2 e.symm))))

/-- A new id takes over the block of one that is forgotten. -/
theorem Sat.take (h : Sat G B E s w) {i b C : Nat} {o o' : AObj} {ob' : Obj} (hg : G i) (hgc : G s.c) (ho : s.h.get i = some o) (hf : o.fixed = false) (hf' : o'.fixed = false) (he : E i = .live b C)
    (hok : OkObj ((E.set i .dead).set s.c (.live b C)) s.c o' ob') :
    Sat G B ((E.set i .dead).set s.c (.live b C)) ((s.set i none).new o') (w.putObj b ob') ∧ Ext B ((s.set i none).new o').w E ((E.set i .dead).set s.c (.live b C)) w (w.putObj b ob') := by
  have hu : E i ≠ .unborn := by rw [he]; simp
  have hcu := h.fresh s.c (Nat.le_refl _) hgc
  have hci : s.c ≠ i := fun e => by rw [e, he] at hcu; cases hcu
  obtain ⟨k1, k2⟩ := h.kill i hu
  have hlt := h.lt i b C he
  have hB : B ≤ b := by
    obtain ⟨b', C', ob, he', _, _, hx⟩ := h.fact i o hg ho
    rw [he] at he'
    cases he'
    rcases hx with hx | hx
    · rw [hf] at hx; cases hx
    · exact hx
  have hu2 : E.set i .dead s.c = .unborn := by rw [Env.set_ne _ _ hci]; exact hcu
  have hle2 : (E.set i .dead).le ((E.set i .dead).set s.c (.live b C)) := Env.set_le _ _ _ (by rw [hu2]; trivial)
  have hlive : ∀ j b' C', (E.set i .dead).set s.c (.live b C) j = .live b' C' → (j = s.c ∧ b' = b ∧ C' = C) ∨ (j ≠ s.c ∧ j ≠ i ∧ E j = .live b' C') := by
    intro j b' C' hj
    by_cases h1 : j = s.c
    · subst h1; rw [Env.set_same] at hj; cases hj; exact .inl ⟨rfl, rfl, rfl⟩
    · rw [Env.set_ne _ _ h1] at hj
      by_cases h2 : j = i
      · subst h2; rw [Env.set_same] at hj; cases hj
      · rw [Env.set_ne _ _ h2] at hj; exact .inr ⟨h1, h2, hj⟩
  have hnb : ∀ j b' C', j ≠ i → E j = .live b' C' → b' ≠ b := fun j b' C' hji hj e => hji (h.inj j i b' C' C (by rw [e]; exact hB) hj (by rw [e]; exact he))
  refine ⟨⟨?_, ?_, by simpa [World.putObj] using h.base, fun g hg => Slot.at_le (hle2 g) (k1.glob g hg), ?_, ?_, h.orc, fun k hk => ?_, h.defs⟩, Env.le_trans k2.le hle2, ?_, ?_, ⟨rfl, rfl, rfl, by simp [World.putObj], fun k hk => ?_⟩, fun k hk hn => ?_, fun j b' X hj => ?_, fun _ h => .inl h⟩
  · intro j k b' X Y hbb hj hk
    rcases hlive _ _ _ hj with ⟨rfl, rfl, _⟩ | ⟨h1, h2, h3⟩ <;> rcases hlive _ _ _ hk with ⟨rfl, e2, _⟩ | ⟨h4, h5, h6⟩
    · rfl
    · exact absurd rfl (hnb _ _ _ h5 h6)
    · exact absurd e2 (hnb _ _ _ h2 h3)
    · exact h.inj _ _ _ _ _ hbb h3 h6
  · intro j b' X hj
    simp only [World.putObj, Array.size_setIfInBounds]
    rcases hlive _ _ _ hj with ⟨rfl, rfl, _⟩ | ⟨_, _, h3⟩
    · exact hlt
    · exact h.lt _ _ _ h3
  · intro j hj hgj
    have hj' : s.c + 1 ≤ j := hj
    have hju := h.fresh j (by omega) hgj
    rw [Env.set_ne _ _ (by omega), Env.set_ne _ _ (fun e => hu (by rw [← e]; exact hju))]; exact hju
  · intro j oj hgj hj
    rcases T.put_some hj with ⟨rfl, hx⟩ | ⟨hne, hx⟩
    · cases hx
      exact ⟨b, C, ob', Env.set_same _ _ _, by rw [heap_put hlt]; simp, hok, .inr hB⟩
    · rcases T.put_some hx with ⟨_, hx'⟩ | ⟨hne', hx'⟩
      · cases hx'
      · obtain ⟨b', C', ob, he', hb', hok', hx2⟩ := h.fact j oj hgj hx'
        have hne : j ≠ s.c := hne
        refine ⟨b', C', ob, by rw [Env.set_ne _ _ hne, Env.set_ne _ _ hne']; exact he', ?_, hok'.mono (Env.le_trans k2.le hle2) (fun b X hbx => by rw [Env.set_ne _ _ hne, Env.set_ne _ _ hne']; exact hbx), hx2⟩
        rw [heap_put hlt, if_neg (hnb _ _ _ hne' he'), hb']
  · obtain ⟨h1, h2, h3⟩ := h.prot k hk
    have hkb : k ≠ b := by
      rintro rfl
      exact absurd (h3 i C he) (Nat.not_lt.2 hB)
    refine ⟨by simpa [World.putObj] using h1, by rw [heap_put hlt, if_neg hkb]; exact h2, fun j X hj => ?_⟩
    rcases hlive _ _ _ hj with ⟨_, e, _⟩ | ⟨_, _, h6⟩
    · exact absurd e hkb
    · exact h3 j X h6
  · intro j hj
    have h1 : j ≠ s.c := fun e => hj ((in_lor _ _ _).2 (.inr ((in_bit _ _).2 e.symm)))
    have h2 : j ≠ i := fun e => hj ((in_lor _ _ _).2 (.inl ((in_lor _ _ _).2 (.inr ((in_bit _ _).2 e.symm)))))
    rw [Env.set_ne _ _ h1, Env.set_ne _ _ h2]
  · intro j b' X hj he'
    have h2 : j ≠ i := fun e => hj ((in_lor _ _ _).2 (.inl ((in_lor _ _ _).2 (.inr ((in_bit _ _).2 e.symm)))))
    rw [heap_put hlt, if_neg (hnb _ _ _ h2 he')]
  · rw [heap_put hlt, if_neg (by omega)]
  · rw [heap_put hlt, if_neg]
    rintro rfl
    exact absurd (hn i C he) (Nat.not_lt.2 hB)
  · rcases hlive _ _ _ hj with ⟨_, e, _⟩ | ⟨_, _, h6⟩
    · exact .inl ⟨i, C, by rw [e]; exact he⟩
    · exact .inl ⟨j, X, h6⟩

theorem zeroCells_size (zero : Array Value) (n : Nat) : (Builtin.zeroCells zero n).size = n * zero.size := by simp [Builtin.zeroCells]

/-- What is asked of the types at an append. -/
structure AppT (P : Program) (ts : Array TypeId) (e : TypeId) (z : Nat) (zero : Value) : Prop where
  t : ∃ st yt d, ts[0]? = some st ∧ ts[1]? = some yt ∧ P.underlying st = some (.slice e) ∧ P.underlying yt = some d ∧ isIntD d = false
  i : ∃ i, P.info? e = some i ∧ i.size = z ∧ i.bytes ≤ 4096 ∧ i.zero = some zero
  zs : zero.cells.size = z
  pos : 0 < z
theorem run_append_fit {ts : Array TypeId} {ty e : TypeId} {z n sLen sCap : Nat} {zero : Value} (ht : AppT P ts e z zero) {a : Addr} {y' : Value} {new : Array Value}
    (hl : (Builtin.lenOf y').run P w = .ok n w) (hnew : (Builtin.firstCells z n y').run P w = .ok new w) (hfit : sLen + n ≤ sCap) {w' : World} (hst : (storeCells (a.add (sLen * z)) new.toList).run P w = .ok () w') :
    (Builtin.append_ ts ty #[.slice (some a) sLen sCap, y']).run P w = .ok (.slice (some a) (sLen + n) sCap) w' := by
  obtain ⟨⟨st, yt, d, h0, h1, hu, hd, hi⟩, ⟨i, hi', hsz, hby, hz⟩, hzs, hpos⟩ := ht
  subst hsz
  simp only [Builtin.append_, h0, h1, Sem.run_bind, und_run hu, und_run hd, sizeOf, typeInfo, run_program, hi', Result.andThen_ok, Sem.run_pure, List.getElem?_toArray, List.getElem?_cons_zero, List.getElem?_cons_succ, Sem.run_ite]
  split
  · simp [isIntD] at hi
  · rename_i hc
    simp [hc, hl, hfit, hnew, hst]
theorem run_append_grow {ts : Array TypeId} {ty e : TypeId} {z n sLen sCap : Nat} {zero : Value} (ht : AppT P ts e z zero) {base : Option Addr} {y' : Value} {old new : Array Value}
    (hl : (Builtin.lenOf y').run P w = .ok n w) (hold : (Builtin.firstCells z sLen (.slice base sLen sCap)).run P w.drew = .ok old w.drew) (hnew : (Builtin.firstCells z n y').run P w.drew = .ok new w.drew) (hgrow : sCap < sLen + n) (hsmall : sLen + n ≤ 2000000) :
    (Builtin.append_ ts ty #[.slice base sLen sCap, y']).run P w =
      .ok (.slice (some ⟨w.heap.size, 0, none⟩) (sLen + n) (grownCap w (sLen + n) sCap e)) (w.drew.alloc (.cells (old ++ new ++ Builtin.zeroCells zero.cells (grownCap w (sLen + n) sCap e - (sLen + n))) e)) := by
  obtain ⟨⟨st, yt, d, h0, h1, hu, hd, hi⟩, ⟨i, hi', hsz, hby, hz⟩, hzs, hpos⟩ := ht
  subst hsz
  have hne : ¬ sLen + n ≤ sCap := by omega
  have hmax : ¬ (((sLen + n : Nat) : Int) > IntKind.i64.max) := by
    have : IntKind.i64.max = 9223372036854775807 := by decide
    omega
  have hmax' : ¬ (IntKind.i64.max < (sLen : Int) + (n : Int)) := by
    have : IntKind.i64.max = 9223372036854775807 := by decide
    omega
  have hcap : ¬ (Builtin.nextslicecap (sLen + n) sCap * i.bytes > 2 ^ 48) := by
    have h1 := nextslicecap_le hgrow
    have h2 : Builtin.nextslicecap (sLen + n) sCap * i.bytes ≤ (2 * (sLen + n)) * 4096 := Nat.mul_le_mul h1 hby
    omega
  have hcap' : ¬ (2 ^ 48 < Builtin.nextslicecap (sLen + n) sCap * i.bytes) := hcap
  have hch : ∀ W : World, (choose (.appendCap (sLen + n) sCap e)).run P w = .ok (grownCap w (sLen + n) sCap e) w.drew := fun _ => by simp [Question.forced, grownCap]
  simp only [Builtin.append_, h0, h1, Sem.run_bind, und_run hu, und_run hd, sizeOf, typeInfo, run_program, hi', Result.andThen_ok, Sem.run_pure, List.getElem?_toArray, List.getElem?_cons_zero, List.getElem?_cons_succ, Sem.run_ite]
  split
  · simp [isIntD] at hi
  · rename_i hc
    have hmx : ¬ ((9223372036854775807 : Int) < (sLen : Int) + (n : Int)) := by omega
    simp [hc, hl, hne, hmx, hmax', hcap', hold, hnew, zeroValue, typeInfo, hi', hz, newRow, Question.forced, grownCap]

theorem rel_open {E : Env} {k b C len : Nat} (h : len ≤ C) : Rel (E.set k (.live b C)) (.slice k 0 len none 0) (.slice (some ⟨b, 0, none⟩) len C) :=
  .slice (by rw [Env.set_same]; rfl) ⟨h, by rw [Env.set_same]; simp⟩
theorem storeN_in {i off : Nat} {l : List AV} (h : storeN s i off l = some s') : In s'.l i := by
  obtain ⟨o, h1, h2⟩ := oc_some h
  unfold cellsC at h2
  split at h2
  · obtain ⟨_, h2⟩ := bc_some h2
    obtain ⟨_, h2⟩ := bc_some h2
    obtain ⟨vs', hset, h2⟩ := oc_some h2
    cases h2
    exact in_set _ _ _
  · cases h2
theorem appendKnown_ok {ts : Array TypeId} {ty e : TypeId} {z n : Nat} {zero : Value} (ht : AppT P ts e z zero) (hn : n ≤ 1000000) {new : List AV} {i off len c : Nat} (hone : allOne new = true) (h : appendKnown e z n new i off len c s = some (v, s')) :
    Step s s' ∧ ∀ {G B E w b y' ys}, (∀ j, In s'.l j → G j) → Sat G B E s w → (E i).at b → RelL E new ys → ys.length = n * z → (∀ W : World, W.heap = w.heap → (Builtin.lenOf y').run P W = .ok n W ∧ (Builtin.firstCells z n y').run P W = .ok ys.toArray W) →
      Ok1 P G B s' v E w (Builtin.append_ ts ty #[.slice (some ⟨b, off, none⟩) len c, y']) := by
  unfold appendKnown at h
  cases hfit : Nat.ble (Nat.add len n) c with
  | true =>
    rw [hfit, bi_true] at h
    obtain ⟨s2, hs2, h⟩ := oc_some h
    cases h
    refine ⟨storeN_step hs2, fun {G B E w b y' ys} hG hs hb hr hlen hy => ?_⟩
    obtain ⟨b', C, w', he, hrun, k1, k2⟩ := hs.storeN (P := P) hG hs2 hr
    obtain rfl := hs.at_live he hb
    obtain ⟨hy1, hy2⟩ := hy w rfl
    have hfit' : len + n ≤ c := by simpa using hfit
    refine ⟨E, _, w', run_append_fit ht hy1 hy2 hfit' ?_, .slice hb rfl, k1, k2⟩
    rw [addr_add]; simpa using hrun
  | false =>
    rw [hfit, bi_false] at h
    obtain ⟨hl, h⟩ := bc_some h
    obtain ⟨old, hold, h⟩ := oc_some h
    obtain ⟨hone', h⟩ := bc_some h
    cases h
    refine ⟨(Step.see _ _).trans (Step.new _ _), fun {G B E w b y' ys} hG hs hb hr hlen hy => ?_⟩
    have hgi : G i := hG i ((in_lor _ _ _).2 (.inl (in_see _ _)))
    obtain ⟨b', C, os, he, hor, holen, hcell⟩ := hs.loadN hgi hold
    obtain rfl := hs.at_live he hb
    obtain ⟨hy1, _⟩ := hy w rfl
    obtain ⟨_, hy2⟩ := hy w.drew rfl
    have hgrow : c < len + n := by
      rcases Nat.lt_or_ge c (len + n) with h' | h'
      · exact h'
      · exact absurd (show Nat.ble (len + n) c = true by simpa using h') (by show ¬ Nat.ble (Nat.add len n) c = true; rw [hfit]; simp)
    have hl' : len ≤ 1000000 := by simpa using hl
    have holdrun : (Builtin.firstCells z len (.slice (some ⟨b, off, none⟩) len c)).run P w.drew = .ok os.toArray w.drew := by
      simp only [Builtin.firstCells]
      exact run_loadCells_at (w := w.drew) hcell holen
    have hrun := run_append_grow (ty := ty) ht hy1 holdrun hy2 hgrow (by omega)
    have hge := grownCap_ge w (len + n) c e
    obtain ⟨k1, k2⟩ := new_open (w := w.drew) (s := s.see i) (e := e) (z := z) (f := (0, 0)) (C := grownCap w (len + n) c e) (c := os.toArray ++ ys.toArray ++ Builtin.zeroCells zero.cells (grownCap w (len + n) c e - (len + n))) (xs := os ++ ys)
      (rest := (Builtin.zeroCells zero.cells (grownCap w (len + n) c e - (len + n))).toList) ((hs.seen i).drew _) hG (by simp) (hor.append hr) (by
        have holen' : os.length = len * z := holen
        simp only [Array.size_append, List.size_toArray, zeroCells_size, holen', hlen, ht.zs]
        rw [← Nat.add_mul, ← Nat.add_mul]
        congr 1
        omega) (fun off h1 h2 => by simp at h2)
    exact ⟨_, _, _, hrun, rel_open hge, k1, (Ext.drew (B := B) (E := E) (w := w) _ _).trans k2 (fun j hj => hj)⟩
theorem appendOpen_ok {ts : Array TypeId} {ty e : TypeId} {z n : Nat} {zero : Value} (ht : AppT P ts e z zero) (hn : n ≤ 1000000) {new : List AV} {i off len dr : Nat} (hone : allOne new = true) (h : appendOpen e z n new i off len dr s = some (v, s')) :
    Step s s' ∧ ∀ {G B E w b y' ys c}, (∀ j, In s'.l j → G j) → Sat G B E s w → (E i).at b → capOk (E i) none dr len c → RelL E new ys → ys.length = n * z → (∀ W : World, W.heap = w.heap → (Builtin.lenOf y').run P W = .ok n W ∧ (Builtin.firstCells z n y').run P W = .ok ys.toArray W) →
      Ok1 P G B s' v E w (Builtin.append_ ts ty #[.slice (some ⟨b, off, none⟩) len c, y']) := by
  obtain ⟨o, ho, h1⟩ := oc_some h
  clear h
  unfold cellsC at h1
  split at h1
  case h_2 => cases h1
  rename_i vs e' fz op
  obtain ⟨z', hop, h2⟩ := oc_some h1
  clear h1
  subst hop
  obtain ⟨hee, h3⟩ := bc_some h2
  obtain ⟨hzz, h4⟩ := bc_some h3
  obtain ⟨hoff, h5⟩ := bc_some h4
  clear h2 h3 h4
  have hee' : e = e' := by simpa using hee
  have hzz' : z = z' := by simpa using hzz
  have hoff' : off = dr * z := by simpa using hoff
  subst hee' hzz'
  cases hfit : Nat.ble (Nat.add off (Nat.mul (Nat.add len n) z)) vs.length with
  | true =>
    rw [hfit, bi_true] at h5
    obtain ⟨s2, hs2, h6⟩ := oc_some h5
    cases h6
    refine ⟨storeN_step hs2, fun {G B E w b y' ys c} hG hs hb hc hr hlen hy => ?_⟩
    have hgi : G i := hG i (storeN_in hs2)
    obtain ⟨b0, C0, ob, he0, hb0, hok, _⟩ := hs.fact i _ hgi ho
    obtain ⟨cc, f, xs, rest, b1, C1, rfl, hx, hrx, he1, hsz, hfz⟩ := hok
    rw [he0] at he1
    cases he1
    obtain ⟨b', C, w', he, hrun, k1, k2⟩ := hs.storeN (P := P) hG hs2 hr
    rw [he0] at he
    cases he
    obtain rfl := hs.at_live he0 hb
    obtain ⟨hy1, hy2⟩ := hy w rfl
    obtain ⟨hlc, hcx⟩ := hc
    rw [he0] at hcx
    simp only at hcx
    have hfit' : off + (len + n) * z ≤ vs.length := by simpa using hfit
    have hxl := hrx.length
    have hcs : cc.size = xs.length + rest.length := by rw [← Array.length_toList, hx]; simp
    have hC : dr + (len + n) ≤ C0 := by
      refine Nat.le_of_mul_le_mul_right (c := z) ?_ ht.pos
      rw [Nat.add_mul, ← hoff', ← hsz]; omega
    refine ⟨E, _, w', run_append_fit ht hy1 hy2 (by omega) ?_, .slice hb ⟨by show len + n ≤ c; omega, by rw [he0]; exact hcx⟩, k1, k2⟩
    rw [addr_add]; simpa using hrun
  | false =>
    rw [hfit, bi_false] at h5
    obtain ⟨hdr, h6⟩ := bc_some h5
    obtain ⟨hl, h7⟩ := bc_some h6
    obtain ⟨hun, h8⟩ := bc_some h7
    obtain ⟨old, hold, h9⟩ := oc_some h8
    obtain ⟨hone', h10⟩ := bc_some h9
    clear h5 h6 h7 h8 h9
    cases h10
    have hdr' : dr = 0 := by simpa using hdr
    have hl' : len ≤ 1000000 := by simpa using hl
    subst hdr'
    rw [Nat.zero_mul] at hoff'
    subst hoff'
    refine ⟨(Step.set _ _ _).trans (Step.new _ _), fun {G B E w b y' ys c} hG hs hb hc hr hlen hy => ?_⟩
    have hgi : G i := hG i ((in_lor _ _ _).2 (.inl (in_set _ _ _)))
    have hgc : G s.c := hG s.c (in_new _ _)
    obtain ⟨b0, C0, ob, he0, hb0, hok, _⟩ := hs.fact i _ hgi ho
    obtain ⟨cc, f, xs, rest, b1, C1, rfl, hx, hrx, he1, hsz, hfz⟩ := hok
    rw [he0] at he1
    cases he1
    obtain rfl := hs.at_live he0 hb
    obtain ⟨hlc, hcx⟩ := hc
    rw [he0] at hcx
    simp only [Nat.sub_zero] at hcx
    subst hcx
    obtain ⟨rfl, holdle⟩ := takeN_some _ hold
    have holdle' : len * z ≤ vs.length := holdle
    have hxl := hrx.length
    have hcs : cc.size = xs.length + rest.length := by rw [← Array.length_toList, hx]; simp
    have hor : RelL E (vs.take (Nat.mul len z)) (xs.take (len * z)) := hrx.take _
    by_cases hin : len + n ≤ c
    · obtain ⟨hy1, hy2⟩ := hy w rfl
      have hfits : len * z + ys.length ≤ cc.size := by
        rw [hlen, ← Nat.add_mul, hsz]; exact Nat.mul_le_mul_right _ hin
      have hnl := hr.length
      have hst := run_storeCells_in (P := P) b (0 + len * z) e f ys 0 cc w hb0 (by omega) (fun j hj hx => by
        have := hfz (0 + len * z + 0 + j) (by omega) hx.1 hx.2
        have hun' : unfrozen fz (len * z) new.length = true := hun
        simp only [unfrozen, Bool.or_eq_true, Nat.ble_eq] at hun'
        omega) (hr.one (allOne_mem hone))
      rw [setRow_put hb0] at hst
      have hst' : (storeCells ⟨b, 0 + len * z, none⟩ ys).run P w = .ok () (w.putObj b (.cells (cc.toList.take (len * z) ++ ys ++ cc.toList.drop (len * z + ys.length)).toArray e f)) := by
        simp only [Nat.add_zero, Nat.zero_add] at hst ⊢; exact hst
      have hrun := run_append_fit (ty := ty) ht hy1 hy2 hin (a := ⟨b, 0, none⟩) (by rw [addr_add]; simpa only [List.toList_toArray] using hst')
      have hcu := hs.fresh s.c (Nat.le_refl _) hgc
      have hle : E.le ((E.set i .dead).set s.c (.live b c)) := by
        have hci : s.c ≠ i := fun e => by rw [e, he0] at hcu; cases hcu
        exact Env.le_trans (E.set_le _ _ (by rw [he0]; trivial)) (Env.set_le _ _ _ (by rw [Env.set_ne _ _ hci, hcu]; trivial))
      obtain ⟨k1, k2⟩ := hs.take (o' := .cells (vs.take (Nat.mul len z) ++ new) e fz (some z)) (ob' := .cells (cc.toList.take (len * z) ++ ys ++ cc.toList.drop (len * z + ys.length)).toArray e f) hgi hgc ho rfl rfl he0
        ⟨_, f, xs.take (len * z) ++ ys, cc.toList.drop (len * z + ys.length), b, c, rfl, by
          rw [hx, List.take_append_of_le_length (by omega)], (hor.append hr).mono hle, Env.set_same _ _ _, by rw [← hsz]; simp; omega, fun off' ho' => hfz off' (by simp at ho'; omega)⟩
      exact ⟨_, _, _, hrun, rel_open hin, k1, k2⟩
    · obtain ⟨hy1, _⟩ := hy w rfl
      obtain ⟨_, hy2⟩ := hy w.drew rfl
      have holdrun : (Builtin.firstCells z len (.slice (some ⟨b, 0, none⟩) len c)).run P w.drew = .ok (xs.take (len * z)).toArray w.drew := by
        simp only [Builtin.firstCells]
        refine run_loadCells_at (w := w.drew) (fun j v hj => ?_) (by simp; omega)
        rw [List.getElem?_take] at hj
        split at hj
        · have : cc[j]? = some v := by
            rw [← Array.getElem?_toList, hx, List.getElem?_append_left (List.getElem?_eq_some_iff.1 hj).1]; exact hj
          have hb0' : w.drew.heap[b]? = some (.cells cc e f) := hb0
          simp [World.cell?, hb0', this]
        · cases hj
      have hrun := run_append_grow (ty := ty) ht hy1 holdrun hy2 (by omega) (by omega)
      have hge := grownCap_ge w (len + n) c e
      obtain ⟨q1, q2⟩ := (hs.drew (w.drawn + 1)).kill i (by rw [he0]; simp)
      have hcu := hs.fresh s.c (Nat.le_refl _) hgc
      have hci : s.c ≠ i := fun e => by rw [e, he0] at hcu; cases hcu
      have hle : E.le ((E.set i .dead).set s.c (.live w.heap.size (grownCap w (len + n) c e))) :=
        Env.le_trans (E.set_le _ _ (by rw [he0]; trivial)) (Env.set_le _ _ _ (by rw [Env.set_ne _ _ hci, hcu]; trivial))
      obtain ⟨k1, k2⟩ := q1.new (o := .cells (vs.take (Nat.mul len z) ++ new) e fz (some z)) (C := grownCap w (len + n) c e)
        (ob := .cells ((xs.take (len * z)).toArray ++ ys.toArray ++ Builtin.zeroCells zero.cells (grownCap w (len + n) c e - (len + n))) e (0, 0)) hgc rfl
        ⟨_, (0, 0), xs.take (len * z) ++ ys, (Builtin.zeroCells zero.cells (grownCap w (len + n) c e - (len + n))).toList, _, _, rfl, by simp, (hor.append hr).mono hle, Env.set_same _ _ _, by
          have hxt : (xs.take (len * z)).length = len * z := by simp; omega
          simp only [Array.size_append, List.size_toArray, zeroCells_size, hxt, hlen, ht.zs]
          rw [← Nat.add_mul, ← Nat.add_mul]
          congr 1
          omega, fun off' _ _ h3 => by simp at h3⟩
      refine ⟨_, _, _, hrun, rel_open hge, k1, ?_⟩
      exact ((Ext.drew (B := B) (E := E) (w := w) (s.set i none).w (w.drawn + 1)).trans q2 (fun j hj => hj)).trans k2 (fun j hj => (in_lor _ _ _).2 (.inl hj))
theorem addN_ok {ρ : Nat → Int} {n n2 : SE} {m : Nat} (h : addN n m = some n2) : n2.val ρ = n.val ρ + (m : Int) := by
  unfold addN at h
  split at h
  · cases h
    show (Int.ofNat m) + (1 * ρ _ + 0) = ρ _ + (m : Int)
    simp only [Int.ofNat_eq_natCast]
    omega
  · rename_i a l
    cases h
    show (Int.add a (Int.ofNat m)) + linV ρ l = (a + linV ρ l) + (m : Int)
    have : Int.add a (Int.ofNat m) = a + (m : Int) := rfl
    omega
  · rename_i a
    cases h
    show Int.add a (Int.ofNat m) = a + (m : Int)
    rfl
  · cases h
theorem appendAcc_ok {ts : Array TypeId} {ty e : TypeId} {z n : Nat} {zero : Value} (ht : AppT P ts e z zero) (hn : n ≤ 1000000) {new : List AV} {i : Nat} {m : SE} (hone : allOne new = true) (h : appendAcc e z n new i m s = some (v, s')) :
    Step s s' ∧ ∀ {G B E w b y' ys N c}, (∀ j, In s'.l j → G j) → Sat G B E s w → (E i).at b → m.val E.ρ = ((N : Nat) : Int) → capOk (E i) none 0 N c → RelL E new ys → ys.length = n * z → (∀ W : World, W.heap = w.heap → (Builtin.lenOf y').run P W = .ok n W ∧ (Builtin.firstCells z n y').run P W = .ok ys.toArray W) →
      Ok1 P G B s' v E w (Builtin.append_ ts ty #[.slice (some ⟨b, 0, none⟩) N c, y']) := by
  obtain ⟨o, ho, h1⟩ := oc_some h
  unfold accC at h1
  split at h1
  case h_2 => cases h1
  rename_i k vs m' e' z'
  obtain ⟨hmm, h2⟩ := bc_some h1
  obtain ⟨hee, h3⟩ := bc_some h2
  obtain ⟨hzz, h4⟩ := bc_some h3
  obtain ⟨hle, h5⟩ := bc_some h4
  obtain ⟨m2, hm2, h6⟩ := oc_some h5
  cases h6
  obtain rfl := seEq_ok hmm
  have hee' : e = e' := by simpa using hee
  have hzz' : z = z' := by simpa using hzz
  subst hee' hzz'
  refine ⟨(Step.set _ _ _).trans (Step.new _ _), fun {G B E w b y' ys N c} hG hs hb hN hc hr hlen hy => ?_⟩
  have hgi : G i := hG i ((in_lor _ _ _).2 (.inl (in_set _ _ _)))
  have hgc : G s.c := hG s.c (in_new _ _)
  obtain ⟨b0, C0, ob, he0, hb0, hok, _⟩ := hs.fact i _ hgi ho
  obtain ⟨cc, f, us0, us, rest, b1, C1, N', l, rfl, hx, hd, hl, hrl, he1, hsz, hN', hlen0, hfz⟩ := hok
  rw [he0] at he1
  cases he1
  obtain rfl := hs.at_live he0 hb
  obtain ⟨hlc, hcx⟩ := hc
  rw [he0] at hcx
  simp only [Nat.sub_zero] at hcx
  subst hcx
  obtain rfl : N' = N := by omega
  have hNle : N' ≤ 1000000 := by
    have := leO_ok hs.orc hle
    have h7 : m.val E.ρ ≤ 1000000 := this
    omega
  have hcs : cc.size = us0.length + us.length + rest.length := by rw [← Array.length_toList, hx]; simp; omega
  have hold : cc.toList.take (N' * z) = us0 ++ us := by
    rw [hx, ← hlen0, ← List.length_append, List.take_left']
    rfl
  have hm2v : ∀ {E' : Env}, E'.ρ = E.ρ → m2.val E'.ρ = ((N' + n : Nat) : Int) := by
    intro E' e
    rw [e, addN_ok hm2, hN]
    omega
  have hcu := hs.fresh s.c (Nat.le_refl _) hgc
  have hci : s.c ≠ i := fun e => by rw [e, he0] at hcu; cases hcu
  by_cases hin : N' + n ≤ c
  · obtain ⟨hy1, hy2⟩ := hy w rfl
    have hfits : N' * z + ys.length ≤ cc.size := by
      rw [hlen, ← Nat.add_mul, hsz]; exact Nat.mul_le_mul_right _ hin
    have hst := run_storeCells_in (P := P) b (0 + N' * z) e f ys 0 cc w hb0 (by omega) (fun j hj hx => hfz (0 + N' * z + 0 + j) (by omega) hx.1 hx.2) (hr.one (allOne_mem hone))
    rw [setRow_put hb0] at hst
    have hst' : (storeCells ⟨b, 0 + N' * z, none⟩ ys).run P w = .ok () (w.putObj b (.cells (cc.toList.take (N' * z) ++ ys ++ cc.toList.drop (N' * z + ys.length)).toArray e f)) := by
      simp only [Nat.add_zero, Nat.zero_add] at hst ⊢; exact hst
    have hrun := run_append_fit (ty := ty) ht hy1 hy2 hin (a := ⟨b, 0, none⟩) (by rw [addr_add]; simpa only [List.toList_toArray] using hst')
    have hle2 : E.le ((E.set i .dead).set s.c (.live b c)) :=
      Env.le_trans (E.set_le _ _ (by rw [he0]; trivial)) (Env.set_le _ _ _ (by rw [Env.set_ne _ _ hci, hcu]; trivial))
    obtain ⟨k1, k2⟩ := hs.take (o' := .acc k (vs ++ new) m2 e z) (ob' := .cells (cc.toList.take (N' * z) ++ ys ++ cc.toList.drop (N' * z + ys.length)).toArray e f) hgi hgc ho rfl rfl he0
      ⟨_, f, us0, us ++ ys, cc.toList.drop (N' * z + ys.length), b, c, N' + n, l, rfl, by rw [hold]; simp, hd, hl.mono hle2.K hle2.hp, (hrl.append hr).mono hle2, Env.set_same _ _ _, by rw [← hsz]; simp; omega, hm2v rfl, by
        rw [List.length_append, hlen, Nat.add_mul, ← hlen0]; omega, fun off' ho' => hfz off' (by simp at ho'; omega)⟩
    exact ⟨(E.set i .dead).set s.c (.live b c), _, _, hrun, .rsl (by rw [Env.set_same]; rfl) (hm2v rfl) ⟨hin, by rw [Env.set_same]; simp⟩, k1, k2⟩
  · obtain ⟨hy1, _⟩ := hy w rfl
    obtain ⟨_, hy2⟩ := hy w.drew rfl
    have holdrun : (Builtin.firstCells z N' (.slice (some ⟨b, 0, none⟩) N' c)).run P w.drew = .ok (us0 ++ us).toArray w.drew := by
      simp only [Builtin.firstCells]
      refine run_loadCells_at (w := w.drew) (fun j v hj => ?_) (by simp; omega)
      have : cc[j]? = some v := by
        rw [← Array.getElem?_toList, hx, List.getElem?_append_left (List.getElem?_eq_some_iff.1 hj).1]; exact hj
      have hb0' : w.drew.heap[b]? = some (.cells cc e f) := hb0
      simp [World.cell?, hb0', this]
    have hrun := run_append_grow (ty := ty) ht hy1 holdrun hy2 (by omega) (by omega)
    have hge := grownCap_ge w (N' + n) c e
    obtain ⟨q1, q2⟩ := (hs.drew (w.drawn + 1)).kill i (by rw [he0]; simp)
    have hle2 : E.le ((E.set i .dead).set s.c (.live w.heap.size (grownCap w (N' + n) c e))) :=
      Env.le_trans (E.set_le _ _ (by rw [he0]; trivial)) (Env.set_le _ _ _ (by rw [Env.set_ne _ _ hci, hcu]; trivial))
    obtain ⟨k1, k2⟩ := q1.new (o := .acc k (vs ++ new) m2 e z) (C := grownCap w (N' + n) c e)
      (ob := .cells ((us0 ++ us).toArray ++ ys.toArray ++ Builtin.zeroCells zero.cells (grownCap w (N' + n) c e - (N' + n))) e (0, 0)) hgc rfl
      ⟨_, (0, 0), us0, us ++ ys, (Builtin.zeroCells zero.cells (grownCap w (N' + n) c e - (N' + n))).toList, _, _, N' + n, l, rfl, by simp, hd, hl.mono hle2.K hle2.hp, (hrl.append hr).mono hle2, Env.set_same _ _ _, by
        simp only [Array.size_append, List.size_toArray, zeroCells_size, List.length_append, hlen0, hlen, ht.zs]
        rw [← Nat.add_mul, ← Nat.add_mul]
        congr 1
        omega, hm2v rfl, by rw [List.length_append, hlen, Nat.add_mul, ← hlen0]; omega, fun off' _ _ h3 => by simp at h3⟩
    refine ⟨(E.set i .dead).set s.c (.live w.heap.size (grownCap w (N' + n) c e)), _, _, hrun, .rsl (by rw [Env.set_same]; rfl) (hm2v rfl) ⟨hge, by rw [Env.set_same]; simp⟩, k1, ?_⟩
    exact ((Ext.drew (B := B) (E := E) (w := w) (s.set i none).w (w.drawn + 1)).trans q2 (fun j hj => hj)).trans k2 (fun j hj => (in_lor _ _ _).2 (.inl hj))
theorem bytesStrict_some {E : Env} : ∀ {l : List AV} {b : List UInt8} {ys : List Value}, bytesStrict l = some b → RelL E l ys → ys = b.map fun x => Value.int .u8 x.toNat
  | _, b, _, h, .nil => by cases h; rfl
  | _, b, _, h, .cons hx ht => by
    unfold bytesStrict at h
    split at h
    · rename_i heq; cases heq
    · rename_i n r heq
      cases heq
      obtain ⟨m, hm, h1⟩ := oc_some h
      obtain ⟨hlt, h2⟩ := bc_some h1
      obtain ⟨l', hl, h3⟩ := oc_some h2
      cases h3
      have hn := natOf_some hm
      subst hn
      cases hx
      rw [bytesStrict_some hl ht]
      have hlt' : m < 256 := by simpa using hlt
      have hm' : (UInt8.ofNat m).toNat = m := by simp [UInt8.toNat_ofNat']; omega
      simp [hm']
    · cases h
theorem bytesV_cat (l m : List UInt8) : bytesV (l ++ m) = bytesV l ++ bytesV m := by simp [bytesV]
theorem pcsStrict_some {E : Env} {O : Orc} (ho : OrcOk O E.ρ) : ∀ {l : List AV} {ps : List Pc} {ys : List Value}, pcsStrict O l = some ps → RelL E l ys → ys = bytesV (psVal E.ρ ps)
  | _, b, _, h, .nil => by cases h; rfl
  | _, b, _, h, .cons hx ht => by
    unfold pcsStrict at h
    split at h
    · rename_i heq; cases heq
    · rename_i n r heq
      cases heq
      obtain ⟨m, hm, h1⟩ := oc_some h
      obtain ⟨hlt, h2⟩ := bc_some h1
      obtain ⟨l', hl, h3⟩ := oc_some h2
      cases h3
      have hn := natOf_some hm
      subst hn
      cases hx
      rw [pcsStrict_some ho hl ht, psVal_cat, psVal_one, bytesV_cat]
      have hlt' : m < 256 := by simpa using hlt
      have hm' : (UInt8.ofNat m).toNat = m := by simp [UInt8.toNat_ofNat']; omega
      simp [bytesV, hm']
    · rename_i e r heq
      cases heq
      obtain ⟨h1, h⟩ := bc_some h
      obtain ⟨h2, h⟩ := bc_some h
      obtain ⟨l', hl, h3⟩ := oc_some h
      cases h3
      cases hx
      have h1 : (0 : Int) ≤ e.val E.ρ := leO_ok ho h1
      have h2 : e.val E.ρ ≤ 255 := leO_ok ho h2
      rw [pcsStrict_some ho hl ht]
      have hm' : ((UInt8.ofNat (e.val E.ρ).toNat).toNat : Int) = e.val E.ρ := by
        rw [UInt8.toNat_ofNat', Nat.mod_eq_of_lt (by omega)]
        omega
      show Value.int .u8 (e.val E.ρ) :: bytesV (psVal E.ρ l') = bytesV ([UInt8.ofNat (e.val E.ρ).toNat] ++ psVal E.ρ l')
      rw [bytesV_cat]
      simp only [bytesV, List.map_cons, List.map_nil, List.cons_append, List.nil_append, hm']
    · cases h
theorem bytesV_length (l : List UInt8) : (bytesV l).length = l.length := by simp [bytesV]
theorem bytesV_append (l m : List UInt8) : bytesV (l ++ m) = bytesV l ++ bytesV m := by simp [bytesV]
theorem bytesV_one (l : List UInt8) : ∀ v ∈ bytesV l, v.oneCell' = true := by
  intro v hv
  obtain ⟨b, _, rfl⟩ := List.mem_map.1 hv
  rfl
/-- A row of bytes is appended to: the new row. -/
theorem bufNew_ok {ts : Array TypeId} {ty e : TypeId} {zero : Value} (ht : AppT P ts e 1 zero) {i b C : Nat} {o : AObj} {cc : Array Value} {f : Nat × Nat} {old new : List UInt8} {rest : List Value} {r : List Pc} {y' : Value}
    (hs : Sat G B E s w) (hgi : G i) (hgc : G s.c) (ho : s.h.get i = some o) (hof : o.fixed = false) (he0 : E i = .live b C) (hb0 : w.heap[b]? = some (.cells cc e f)) (hx : cc.toList = bytesV old ++ rest) (hsz : cc.size = C) (hfz : ∀ off, off < cc.size → f.1 ≤ off → off < f.2 → False)
    (hol : old.length ≤ 1000000) (hnl : new.length ≤ 1000000) (hy : ∀ W : World, W.heap = w.heap → (Builtin.lenOf y').run P W = .ok new.length W ∧ (Builtin.firstCells 1 new.length y').run P W = .ok (bytesV new).toArray W)
    (hval : psVal E.ρ r = old ++ new) : Ok1 P G B ((s.set i none).new (.buf r e)) (.bslice s.c r) E w (Builtin.append_ ts ty #[.slice (some ⟨b, 0, none⟩) old.length C, y']) := by
  have hcs : cc.size = (bytesV old).length + rest.length := by rw [← Array.length_toList, hx]; simp
  rw [bytesV_length] at hcs
  have hcu := hs.fresh s.c (Nat.le_refl _) hgc
  have hci : s.c ≠ i := fun e => by rw [e, he0] at hcu; cases hcu
  have hrl : (psVal E.ρ r).length = old.length + new.length := by rw [hval]; simp
  have rel : ∀ {E' : Env} {b' C' : Nat}, E'.ρ = E.ρ → E' s.c = .live b' C' → old.length + new.length ≤ C' → Rel E' (.bslice s.c r) (.slice (some ⟨b', 0, none⟩) (old.length + new.length) C') := by
    intro E' b' C' hρ hE hle
    rw [← hrl, ← hρ]
    exact .bslice (by rw [hE]; rfl) ⟨by rw [hρ, hrl]; exact hle, by rw [hE]; simp⟩
  by_cases hin : old.length + new.length ≤ C
  · obtain ⟨hy1, hy2⟩ := hy w rfl
    have hst := run_storeCells_in (P := P) b (0 + old.length * 1) e f (bytesV new) 0 cc w hb0 (by rw [bytesV_length]; omega) (fun j hj hx => hfz (0 + old.length * 1 + 0 + j) (by rw [bytesV_length] at hj; omega) hx.1 hx.2) (bytesV_one new)
    rw [setRow_put hb0] at hst
    have hst' : (storeCells ⟨b, 0 + old.length * 1, none⟩ (bytesV new)).run P w = .ok () (w.putObj b (.cells (cc.toList.take old.length ++ bytesV new ++ cc.toList.drop (old.length + (bytesV new).length)).toArray e f)) := by
      simp only [Nat.add_zero, Nat.zero_add, Nat.mul_one] at hst ⊢; exact hst
    have hrun := run_append_fit (ty := ty) ht hy1 hy2 hin (a := ⟨b, 0, none⟩) (by rw [addr_add]; simpa only [List.toList_toArray] using hst')
    obtain ⟨k1, k2⟩ := hs.take (o' := .buf r e) (ob' := .cells (cc.toList.take old.length ++ bytesV new ++ cc.toList.drop (old.length + (bytesV new).length)).toArray e f) hgi hgc ho hof rfl he0
      ⟨_, f, cc.toList.drop (old.length + (bytesV new).length), b, C, rfl, by
        show _ = bytesV (psVal E.ρ r) ++ _
        rw [hval, bytesV_append, hx, List.take_append_of_le_length (by rw [bytesV_length]; omega), List.take_of_length_le (by rw [bytesV_length]; omega)], Env.set_same _ _ _, by rw [← hsz]; simp [bytesV_length]; omega, fun off' ho' => hfz off' (by simp [bytesV_length] at ho'; omega)⟩
    exact ⟨(E.set i .dead).set s.c (.live b C), _, _, hrun, rel rfl (Env.set_same _ _ _) hin, k1, k2⟩
  · obtain ⟨hy1, _⟩ := hy w rfl
    obtain ⟨_, hy2⟩ := hy w.drew rfl
    have holdrun : (Builtin.firstCells 1 old.length (.slice (some ⟨b, 0, none⟩) old.length C)).run P w.drew = .ok (bytesV old).toArray w.drew := by
      simp only [Builtin.firstCells]
      refine run_loadCells_at (w := w.drew) (fun j v hj => ?_) (by simp [bytesV_length])
      have : cc[j]? = some v := by
        rw [← Array.getElem?_toList, hx, List.getElem?_append_left (List.getElem?_eq_some_iff.1 hj).1]; exact hj
      have hb0' : w.drew.heap[b]? = some (.cells cc e f) := hb0
      simp [World.cell?, hb0', this]
    have hrun := run_append_grow (ty := ty) ht hy1 holdrun hy2 (by omega) (by omega)
    have hge := grownCap_ge w (old.length + new.length) C e
    obtain ⟨q1, q2⟩ := (hs.drew (w.drawn + 1)).kill i (by rw [he0]; simp)
    obtain ⟨k1, k2⟩ := q1.new (o := .buf r e) (C := grownCap w (old.length + new.length) C e)
      (ob := .cells ((bytesV old).toArray ++ (bytesV new).toArray ++ Builtin.zeroCells zero.cells (grownCap w (old.length + new.length) C e - (old.length + new.length))) e (0, 0)) hgc rfl
      ⟨_, (0, 0), (Builtin.zeroCells zero.cells (grownCap w (old.length + new.length) C e - (old.length + new.length))).toList, _, _, rfl, by
        show _ = bytesV (psVal E.ρ r) ++ _
        rw [hval, bytesV_append]; simp, Env.set_same _ _ _, by
        simp only [Array.size_append, List.size_toArray, zeroCells_size, bytesV_length, ht.zs, Nat.mul_one]
        omega, fun off' _ _ h3 => by simp at h3⟩
    refine ⟨(E.set i .dead).set s.c (.live w.heap.size (grownCap w (old.length + new.length) C e)), _, _, hrun, rel rfl (Env.set_same _ _ _) hge, k1, ?_⟩
    exact ((Ext.drew (B := B) (E := E) (w := w) (s.set i none).w (w.drawn + 1)).trans q2 (fun j hj => hj)).trans k2 (fun j hj => (in_lor _ _ _).2 (.inl hj))
end
end Ev
end Go.Proofs.YtnjpdipombnigaaGreatDoor
namespace Go.Proofs.YtnjpdipombnigaaGreatDoor
namespace Ev
open Go.RowKit

section
variable {P : Program} {G : Nat → Prop} {B : Nat} {E : Env} {s s' : St} {w : World} {v : AV}

theorem append_nil_fit {ts : Array TypeId} {ty e : TypeId} {z : Nat} {zero : Value} (ht : AppT P ts e z zero) {y' : Value} {new : Array Value}
    (hl : (Builtin.lenOf y').run P w = .ok 0 w) (hnew : (Builtin.firstCells z 0 y').run P w = .ok new w) :
    (Builtin.append_ ts ty #[.slice none 0 0, y']).run P w = .ok (.slice none 0 0) w := by
  obtain ⟨⟨st, yt, d, h0, h1, hu, hd, hi⟩, ⟨i, hi', hsz, hby, hz⟩, hzs, hpos⟩ := ht
  subst hsz
  simp only [Builtin.append_, h0, h1, Sem.run_bind, und_run hu, und_run hd, sizeOf, typeInfo, run_program, hi', Result.andThen_ok, Sem.run_pure, List.getElem?_toArray, List.getElem?_cons_zero, List.getElem?_cons_succ, Sem.run_ite]
  split
  · simp [isIntD] at hi
  · simp [hl, hnew]
theorem appendB_ok {ts : Array TypeId} {ty : TypeId} {x y : AV} (h : appendB P ts.toList x y s = some (v, s')) :
    Step s s' ∧ ∀ {G B E w x' y'}, (∀ j, In s'.l j → G j) → Sat G B E s w → Rel E x x' → Rel E y y' → Ok1 P G B s' v E w (Builtin.append_ ts ty #[x', y']) := by
  unfold appendB at h
  split at h
  case h_2 => cases h
  rename_i st yt rst hts
  split at h
  case h_2 => cases h
  rename_i e hu
  obtain ⟨z, hz, h1⟩ := oc_some h
  obtain ⟨by_, hby, h2⟩ := oc_some h1
  obtain ⟨d, hd, h3⟩ := oc_some h2
  obtain ⟨hint, h4⟩ := bc_some h3
  obtain ⟨zero, hzero, h5⟩ := oc_some h4
  obtain ⟨n, hn, h6⟩ := oc_some h5
  obtain ⟨hzl, h7⟩ := bc_some h6
  obtain ⟨hpos, h8⟩ := bc_some h7
  obtain ⟨hnl, h9⟩ := bc_some h8
  obtain ⟨hbl, h10⟩ := bc_some h9
  obtain ⟨new, s1, hnew, h11⟩ := oc2_some h10
  obtain ⟨hone, h12⟩ := bc_some h11
  clear h h1 h2 h3 h4 h5 h6 h7 h8 h9 h10 h11
  have hnl' : n ≤ 1000000 := by simpa using hnl
  have ⟨zv, hzv, hzr, hzinfo⟩ : ∃ zv, (∀ w, (zeroValue e).run P w = .ok zv w) ∧ (∀ E, Rel E zero zv) ∧ ∃ i, P.info? e = some i ∧ i.zero = some zv := by
    unfold zeroOf at hzero
    split at hzero
    · rename_i i hi
      split at hzero
      · rename_i zv hv
        exact ⟨zv, fun w => by simp [zeroValue, typeInfo, hi, hv], fun E => ofVal_ok hzero, i, hi, hv⟩
      · cases hzero
    · cases hzero
  obtain ⟨i, hi, hiz⟩ := hzinfo
  have ht : AppT P ts e z zv := by
    refine ⟨⟨st, yt, d, ?_, ?_, hu, hd, by simpa using hint⟩, ⟨i, hi, ?_, ?_, hiz⟩, ?_, by simpa using hpos⟩
    · rw [← Array.getElem?_toList, hts]; rfl
    · rw [← Array.getElem?_toList, hts]; rfl
    · unfold szOf at hz; rw [hi] at hz; cases hz; rfl
    · unfold bytesB at hby; rw [hi] at hby; cases hby; simpa using hbl
    · have := (hzr (⟨fun _ => .dead, fun _ => 0, fun _ => .same, fun _ => default, fun _ => False, fun _ => none⟩ : Env)).cells.length
      have hzl' : zero.cells.length = z := by simpa using hzl
      simp at this; omega
  obtain ⟨hst1, hh1, hc1, hfirst⟩ := firstCellsA_ok (P := P) hnew
  have pre : ∀ {G B E w y'}, (∀ j, In s1.l j → G j) → Sat G B E s w → Rel E y y' → Sat G B E s1 w ∧ ∃ ys, RelL E new ys ∧ ys.length = n * z ∧ ∀ W : World, W.heap = w.heap → (Builtin.lenOf y').run P W = .ok n W ∧ (Builtin.firstCells z n y').run P W = .ok ys.toArray W := by
    intro G B E w y' hG hs hy
    obtain ⟨hs1, ys, h1, h2, h3⟩ := hfirst hG hs hy (by rw [hn]; simp)
    exact ⟨hs1, ys, h2, h3, fun W hW => ⟨lenOfA_ok hn hy W, h1 W hW⟩⟩
  unfold appendTo at h12
  split at h12
  · -- nil
    cases hn0 : Nat.beq n 0 with
    | true =>
      rw [show Nat.beq n (nat_lit 0) = Nat.beq n 0 from rfl, hn0, bi_true] at h12
      cases h12
      have hn0' : n = 0 := by simpa using hn0
      refine ⟨hst1, fun {G B E w x' y'} hG hs hx hy => ?_⟩
      obtain ⟨hs1, ys, hr, hlen, hrun⟩ := pre hG hs hy
      obtain ⟨r1, r2⟩ := hrun w rfl
      subst hn0'
      cases hx
      exact Ok1.pure hs1 (append_nil_fit ht r1 r2) .nilslice
    | false =>
      rw [show Nat.beq n (nat_lit 0) = Nat.beq n 0 from rfl, hn0, bi_false] at h12
      cases h12
      have hn0' : n ≠ 0 := fun e => by subst e; simp at hn0
      refine ⟨hst1.trans (Step.new _ _), fun {G B E w x' y'} hG hs hx hy => ?_⟩
      obtain ⟨hs1, ys, hr, hlen, hrun⟩ := pre (fun j hj => hG j ((Step.new _ _).l j hj)) hs hy
      obtain ⟨r1, _⟩ := hrun w rfl
      obtain ⟨_, r2⟩ := hrun w.drew rfl
      cases hx
      have hrun' := run_append_grow (ty := ty) (sLen := 0) (sCap := 0) (base := none) (old := #[]) ht r1 rfl r2 (by omega) (by omega)
      have hge := grownCap_ge w (0 + n) 0 e
      obtain ⟨k1, k2⟩ := new_open (w := w.drew) (s := s1) (e := e) (z := z) (f := (0, 0)) (l := new) (C := grownCap w (0 + n) 0 e) (c := #[] ++ ys.toArray ++ Builtin.zeroCells zv.cells (grownCap w (0 + n) 0 e - (0 + n))) (xs := ys)
        (rest := (Builtin.zeroCells zv.cells (grownCap w (0 + n) 0 e - (0 + n))).toList) (hs1.drew _) hG (by simp) hr (by
          simp only [Array.size_append, List.size_toArray, zeroCells_size, hlen, ht.zs]
          rw [List.length_nil, Nat.zero_add, ← Nat.add_mul]
          congr 1
          omega) (fun off h1 h2 => by simp at h2)
      refine ⟨_, _, _, hrun', ?_, k1, (Ext.drew (B := B) (E := E) (w := w) _ _).trans k2 (fun j hj => hj)⟩
      have := rel_open (E := E) (k := s1.c) (b := w.heap.size) hge
      simpa using this
  · rename_i i' off len c dr
    obtain ⟨q1, q2⟩ := appendKnown_ok (ty := ty) ht hnl' hone h12
    refine ⟨hst1.trans q1, fun {G B E w x' y'} hG hs hx hy => ?_⟩
    obtain ⟨hs1, ys, hr, hlen, hrun⟩ := pre (fun j hj => hG j (q1.l j hj)) hs hy
    cases hx
    rename_i b c' hb hc
    cases hc
    exact q2 hG hs1 hb hr hlen hrun
  · rename_i i' off len dr
    obtain ⟨q1, q2⟩ := appendOpen_ok (ty := ty) ht hnl' hone h12
    refine ⟨hst1.trans q1, fun {G B E w x' y'} hG hs hx hy => ?_⟩
    obtain ⟨hs1, ys, hr, hlen, hrun⟩ := pre (fun j hj => hG j (q1.l j hj)) hs hy
    cases hx
    rename_i b c' hb hc
    exact q2 hG hs1 hb hc hr hlen hrun
  · rename_i i' m
    obtain ⟨q1, q2⟩ := appendAcc_ok (ty := ty) ht hnl' hone h12
    refine ⟨hst1.trans q1, fun {G B E w x' y'} hG hs hx hy => ?_⟩
    obtain ⟨hs1, ys, hr, hlen, hrun⟩ := pre (fun j hj => hG j (q1.l j hj)) hs hy
    cases hx
    rename_i b c' N hb hc hN
    exact q2 hG hs1 hb hN hc hr hlen hrun
  · cases h12
theorem newP_ok {y : AV} {q : List Pc} (h : newP s y = some (q, s')) : Step s s' ∧ s'.h = s.h ∧ s'.c = s.c ∧ ∀ {G B E w y'}, (∀ j, In s'.l j → G j) → Sat G B E s w → Rel E y y' →
    Sat G B E s' w ∧ ∀ W : World, W.heap = w.heap → (Builtin.lenOf y').run P W = .ok (psVal E.ρ q).length W ∧ (Builtin.firstCells 1 (psVal E.ρ q).length y').run P W = .ok (bytesV (psVal E.ρ q)).toArray W := by
  have str : ∀ (l : List UInt8) (W : World), (Builtin.lenOf (.string ⟨l.toArray⟩)).run P W = .ok l.length W ∧ (Builtin.firstCells 1 l.length (.string ⟨l.toArray⟩)).run P W = .ok (bytesV l).toArray W := by
    intro l W
    refine ⟨by simp [Builtin.lenOf, ByteArray.size], ?_⟩
    simp [Builtin.firstCells, bytesV, ByteArray.size]
  unfold newP at h
  split at h
  · cases h
    refine ⟨Step.refl _, rfl, rfl, fun {G B E w y'} hG hs hy => ⟨hs, fun W hW => ?_⟩⟩
    cases hy
    exact str _ W
  · cases h
    refine ⟨Step.refl _, rfl, rfl, fun {G B E w y'} hG hs hy => ⟨hs, fun W hW => ?_⟩⟩
    cases hy
    rw [psVal_one]
    exact str _ W
  · rename_i j off n cap dr
    obtain ⟨l, hl, h1⟩ := oc_some h
    obtain ⟨b, hb, h2⟩ := oc_some h1
    cases h2
    refine ⟨Step.see _ _, rfl, rfl, fun {G B E w y'} hG hs hy => ⟨hs.seen _, fun W hW => ?_⟩⟩
    have hgi : G j := hG j (in_see _ _)
    obtain ⟨b', C, os, he, hor, holen, hcell⟩ := hs.loadN hgi hl
    cases hy
    rename_i bb c hbb hc
    obtain rfl := hs.at_live he hbb
    have hys := pcsStrict_some hs.orc hb hor
    have hbl : (psVal E.ρ q).length = n := by
      have h1 := congrArg List.length hys
      rw [bytesV_length] at h1; omega
    refine ⟨by simp [Builtin.lenOf, hbl], ?_⟩
    simp only [Builtin.firstCells]
    have := run_loadCells_at (P := P) (w := W) (b := bb) (off := off) (n := (psVal E.ρ q).length * 1) (ys := os) ?_ ?_
    · rw [hys] at this; exact this
    · intro k v hk
      have := hcell k v hk
      rw [← this]
      simp [World.cell?, hW]
    · rw [Nat.mul_one, hbl]; exact holen
  · cases h
theorem appendP_ok {ts : Array TypeId} {ty : TypeId} {x y : AV} (h : appendP P ts.toList x y s = some (v, s')) :
    Step s s' ∧ ∀ {G B E w x' y'}, (∀ j, In s'.l j → G j) → Sat G B E s w → Rel E x x' → Rel E y y' → Ok1 P G B s' v E w (Builtin.append_ ts ty #[x', y']) := by
  unfold appendP at h
  split at h
  case h_2 => cases h
  rename_i st yt rst hts
  split at h
  case h_2 => cases h
  rename_i e hu
  obtain ⟨z, hz, h1⟩ := oc_some h
  obtain ⟨by_, hby, h2⟩ := oc_some h1
  obtain ⟨d, hd, h3⟩ := oc_some h2
  obtain ⟨hint, h4⟩ := bc_some h3
  obtain ⟨zero, hzero, h5⟩ := oc_some h4
  obtain ⟨hzl, h6⟩ := bc_some h5
  obtain ⟨hz1, h7⟩ := bc_some h6
  obtain ⟨hbl, h8⟩ := bc_some h7
  obtain ⟨q, s1, hnew, h9⟩ := oc2_some h8
  obtain ⟨hql, h10⟩ := bc_some h9
  clear h h1 h2 h3 h4 h5 h6 h7 h8 h9
  have hz1' : z = 1 := by simpa using hz1
  subst hz1'
  have hql' : pcsMax q ≤ 1000000 := by simpa using hql
  have ⟨zv, hzv, hzr, hzinfo⟩ : ∃ zv, (∀ w, (zeroValue e).run P w = .ok zv w) ∧ (∀ E, Rel E zero zv) ∧ ∃ i, P.info? e = some i ∧ i.zero = some zv := by
    unfold zeroOf at hzero
    split at hzero
    · rename_i i hi
      split at hzero
      · rename_i zv hv
        exact ⟨zv, fun w => by simp [zeroValue, typeInfo, hi, hv], fun E => ofVal_ok hzero, i, hi, hv⟩
      · cases hzero
    · cases hzero
  obtain ⟨i, hi, hiz⟩ := hzinfo
  have ht : AppT P ts e 1 zv := by
    refine ⟨⟨st, yt, d, ?_, ?_, hu, hd, by simpa using hint⟩, ⟨i, hi, ?_, ?_, hiz⟩, ?_, by omega⟩
    · rw [← Array.getElem?_toList, hts]; rfl
    · rw [← Array.getElem?_toList, hts]; rfl
    · unfold szOf at hz; rw [hi] at hz; exact Option.some.inj hz
    · unfold bytesB at hby; rw [hi] at hby; cases hby; simpa using hbl
    · have := (hzr (⟨fun _ => .dead, fun _ => 0, fun _ => .same, fun _ => default, fun _ => False, fun _ => none⟩ : Env)).cells.length
      have hzl' : zero.cells.length = 1 := by simpa using hzl
      simp at this; omega
  obtain ⟨hst1, hh1, hc1, hfirst⟩ := newP_ok (P := P) hnew
  unfold appendToP at h10
  split at h10
  · rename_i i' p
    obtain ⟨o, ho, h11⟩ := oc_some h10
    split at h11
    case h_2 => cases h11
    rename_i p' e'
    obtain ⟨hp, h12⟩ := bc_some h11
    obtain ⟨hee, h13⟩ := bc_some h12
    obtain ⟨hpl, h14⟩ := bc_some h13
    cases h14
    clear h10 h11 h12 h13
    have hee' : e = e' := by simpa using hee
    subst hee'
    have hpl' : pcsMax p ≤ 1000000 := by simpa using hpl
    refine ⟨hst1.trans ((Step.set _ _ _).trans (Step.new _ _)), fun {G B E w x' y'} hG hs hx hy => ?_⟩
    obtain ⟨hs1, hrun⟩ := hfirst (fun j hj => hG j (((Step.set _ _ _).trans (Step.new _ _)).l j hj)) hs hy
    have hgi : G i' := hG i' ((in_lor _ _ _).2 (.inl (in_set _ _ _)))
    have hgc : G s1.c := hG s1.c (in_new _ _)
    obtain ⟨b0, C0, ob, he0, hb0, hok, _⟩ := hs1.fact i' _ hgi ho
    obtain ⟨cc, f, rest, b1, C1, rfl, hxx, he1, hsz, hfz⟩ := hok
    rw [he0] at he1
    cases he1
    have hpp := pcsEq_ok E.ρ hp
    cases hx
    rename_i b c hb hc
    obtain rfl := hs1.at_live he0 hb
    obtain ⟨_, hcx⟩ := hc
    rw [he0] at hcx
    simp only [Nat.sub_zero] at hcx
    subst hcx
    have m1 := psVal_max E.ρ p
    have m2 := psVal_max E.ρ q
    rw [← hpp] at hxx
    exact bufNew_ok ht hs1 hgi hgc ho rfl he0 hb0 hxx hsz hfz (by omega) (by omega) hrun (psVal_cat _ _ _)
  · rename_i i' off n dr
    obtain ⟨hoff, h11⟩ := bc_some h10
    obtain ⟨hdr, h12⟩ := bc_some h11
    obtain ⟨hnl, h13⟩ := bc_some h12
    obtain ⟨o, ho, h14⟩ := oc_some h13
    clear h10 h11 h12 h13
    split at h14
    case h_2 => cases h14
    rename_i vs e' fz z
    obtain ⟨hz', h15⟩ := bc_some h14
    obtain ⟨hee, h16⟩ := bc_some h15
    obtain ⟨hfz, h17⟩ := bc_some h16
    obtain ⟨l, hl, h18⟩ := oc_some h17
    obtain ⟨bs, hbs, h19⟩ := oc_some h18
    obtain ⟨hbm, h20⟩ := bc_some h19
    cases h20
    clear h14 h15 h16 h17 h18 h19
    have hbm' : pcsMax bs ≤ 1000000 := by simpa using hbm
    have hee' : e = e' := by simpa using hee
    have hz'' : z = 1 := by simpa using hz'
    have hoff' : off = 0 := by simpa using hoff
    have hdr' : dr = 0 := by simpa using hdr
    have hnl' : n ≤ 1000000 := by simpa using hnl
    have hfz' : fz.2 ≤ fz.1 := by simpa using hfz
    subst hee' hz'' hoff' hdr'
    refine ⟨hst1.trans ((Step.set _ _ _).trans (Step.new _ _)), fun {G B E w x' y'} hG hs hx hy => ?_⟩
    obtain ⟨hs1, hrun⟩ := hfirst (fun j hj => hG j (((Step.set _ _ _).trans (Step.new _ _)).l j hj)) hs hy
    have hgi : G i' := hG i' ((in_lor _ _ _).2 (.inl (in_set _ _ _)))
    have hgc : G s1.c := hG s1.c (in_new _ _)
    obtain ⟨b0, C0, ob, he0, hb0, hok, _⟩ := hs1.fact i' _ hgi ho
    obtain ⟨cc, f, xs, rest, b1, C1, rfl, hxx, hrx, he1, hsz, hf⟩ := hok
    rw [he0] at he1
    cases he1
    cases hx
    rename_i b c hb hc
    obtain rfl := hs1.at_live he0 hb
    obtain ⟨_, hcx⟩ := hc
    rw [he0] at hcx
    simp only [Nat.sub_zero] at hcx
    subst hcx
    obtain ⟨rfl, hnle⟩ := takeN_some _ hl
    have hys := pcsStrict_some hs1.orc hbs (hrx.take n)
    have hxl := hrx.length
    have hbl : (psVal E.ρ bs).length = n := by
      have h1 := congrArg List.length hys
      rw [bytesV_length] at h1
      simp at h1; omega
    have m1 := psVal_max E.ρ bs
    have m2 := psVal_max E.ρ q
    have hxx' : cc.toList = bytesV (psVal E.ρ bs) ++ (xs.drop n ++ rest) := by
      rw [← hys, ← List.append_assoc, List.take_append_drop, hxx]
    subst hbl
    exact bufNew_ok ht hs1 hgi hgc ho rfl he0 hb0 hxx' (by omega) (fun off' h1 h2 h3 => by have := hf off' h1 h2 h3; omega) (by omega) (by omega) hrun (psVal_cat _ _ _)
  · obtain ⟨hpos, h11⟩ := bc_some h10
    cases h11
    refine ⟨hst1.trans (Step.new _ _), fun {G B E w x' y'} hG hs hx hy => ?_⟩
    obtain ⟨hs1, hrun⟩ := hfirst (fun j hj => hG j ((Step.new _ _).l j hj)) hs hy
    have hgc : G s1.c := hG s1.c (in_new _ _)
    have hpp := pcsPos_ok E.ρ hpos
    have m2 := psVal_max E.ρ q
    cases hx
    obtain ⟨r1, _⟩ := hrun w rfl
    obtain ⟨_, r2⟩ := hrun w.drew rfl
    have hrun' := run_append_grow (ty := ty) (sLen := 0) (sCap := 0) (base := none) (old := #[]) ht r1 rfl r2 (by omega) (by omega)
    have hge := grownCap_ge w (0 + (psVal E.ρ q).length) 0 e
    obtain ⟨k1, k2⟩ := (hs1.drew (w.drawn + 1)).new (o := .buf q e) (C := grownCap w (0 + (psVal E.ρ q).length) 0 e)
      (ob := .cells (#[] ++ (bytesV (psVal E.ρ q)).toArray ++ Builtin.zeroCells zv.cells (grownCap w (0 + (psVal E.ρ q).length) 0 e - (0 + (psVal E.ρ q).length))) e (0, 0)) hgc rfl
      ⟨_, (0, 0), (Builtin.zeroCells zv.cells (grownCap w (0 + (psVal E.ρ q).length) 0 e - (0 + (psVal E.ρ q).length))).toList, _, _, rfl, by
        show _ = bytesV (psVal E.ρ q) ++ _
        simp, Env.set_same _ _ _, by
        simp only [Array.size_append, List.size_toArray, zeroCells_size, bytesV_length, ht.zs, Nat.mul_one, List.length_nil, Nat.zero_add] at hge ⊢
        omega, fun off' _ _ h3 => by simp at h3⟩
    refine ⟨_, _, _, hrun', ?_, k1, (Ext.drew (B := B) (E := E) (w := w) _ _).trans k2 (fun j hj => hj)⟩
    have h5 := Rel.bslice (E := E.set s1.c (.live w.heap.size (grownCap w (0 + (psVal E.ρ q).length) 0 e))) (i := s1.c) (b := w.heap.size) (c := grownCap w (0 + (psVal E.ρ q).length) 0 e) (ps := q) (by rw [Env.set_same]; rfl) ⟨by
      show (psVal E.ρ q).length ≤ _
      omega, by rw [Env.set_same]; simp⟩
    rw [Nat.zero_add] at h5 ⊢
    exact h5
  · cases h10
theorem appendA_ok {ts : Array TypeId} {ty : TypeId} {x y : AV} (h : appendA P ts.toList x y s = some (v, s')) :
    Step s s' ∧ ∀ {G B E w x' y'}, (∀ j, In s'.l j → G j) → Sat G B E s w → Rel E x x' → Rel E y y' → Ok1 P G B s' v E w (Builtin.append_ ts ty #[x', y']) := by
  have h' : bi (inP x y) (appendP P ts.toList x y s) (appendB P ts.toList x y s) = some (v, s') := h
  cases hb : inP x y <;> rw [hb] at h'
  · exact appendB_ok h'
  · exact appendP_ok h'
theorem copyA_ok {ts : Array TypeId} {ty : TypeId} {x y : AV} (h : copyA P ts.toList x y s = some (v, s')) :
    Step s s' ∧ ∀ {G B E w x' y'}, (∀ j, In s'.l j → G j) → Sat G B E s w → Rel E x x' → Rel E y y' → Ok1 P G B s' v E w (Builtin.copy_ ts ty #[x', y']) := by
  unfold copyA at h
  split at h
  case h_2 => cases h
  rename_i dt rst hts
  split at h
  case h_2 => cases h
  rename_i e hu
  obtain ⟨z, hz, h1⟩ := oc_some h
  obtain ⟨dl, hdl, h2⟩ := oc_some h1
  obtain ⟨sl, hsl, h3⟩ := oc_some h2
  obtain ⟨l, s1, hl, h4⟩ := oc2_some h3
  clear h h1 h2 h3
  obtain ⟨hst1, hh1, hc1, hfirst⟩ := firstCellsA_ok (P := P) hl
  have hts0 : ts[0]? = some dt := by rw [← Array.getElem?_toList, hts]; rfl
  have hmin : Nat.min sl dl ≤ sl := Nat.min_le_left _ _
  split at h4
  · rename_i i off len cap dr
    obtain ⟨s2, hs2, h5⟩ := oc_some h4
    cases h5
    refine ⟨hst1.trans (storeN_step hs2), fun {G B E w x' y'} hG hs hx hy => ?_⟩
    obtain ⟨hs1, ys, h1, h2, h3⟩ := hfirst (fun j hj => hG j ((storeN_step hs2).l j hj)) hs hy (by rw [hsl]; exact hmin)
    cases hx
    rename_i b c hb hc
    cases hdl
    obtain ⟨b', C, w', he, hrun, k1, k2⟩ := hs1.storeN (P := P) hG hs2 h2
    obtain rfl := hs1.at_live he hb
    refine ⟨E, .int .i64 (Nat.min sl dl : Nat), w', ?_, .int _ _, k1, k2⟩
    simp [Builtin.copy_, hts0, und_run hu, lenOfA_ok hsl hy, szOf_run hz, h1 w rfl, hrun, goInt]
  · cases h4
    refine ⟨hst1, fun {G B E w x' y'} hG hs hx hy => ?_⟩
    obtain ⟨hs1, ys, h1, h2, h3⟩ := hfirst hG hs hy (by rw [hsl]; exact hmin)
    cases hx
    cases hdl
    refine Ok1.pure hs1 (v' := .int .i64 (Nat.min sl 0 : Nat)) ?_ (.int _ _)
    simp [Builtin.copy_, hts0, und_run hu, lenOfA_ok hsl hy, szOf_run hz, goInt]
    have := h1 w rfl
    simp at this
    simp [this]
  · cases h4
theorem saysNo_ok {x : Option Bool} (h : saysNo x = true) : x = some false := by
  cases x with
  | none => cases h
  | some b => cases b with
    | true => cases h
    | false => rfl
theorem max1_ok {O : Orc} (ho : OrcOk O E.ρ) {x y z : AV} {x' y' : Value} (h : max1 O x y = some z) (hx : Rel E x x') (hy : Rel E y y') : ∃ z', (Builtin.max2 x' y').run P w = .ok z' w ∧ Rel E z z' := by
  cases hx <;> cases hy <;> simp only [max1] at h <;> first | (cases h; done) | skip
  · rename_i k a k' b
    cases h
    exact ⟨.int k (if b > a then b else a), by simp [Builtin.max2], .int _ _⟩
  · rename_i k a k' e
    split at h
    · rename_i hk
      subst hk
      cases hno : saysNo (O.lt e (.lit a)) with
      | true =>
        rw [hno, bi_true] at h
        cases h
        have h0 : false = decide (e.val E.ρ < a) := ho.lt _ _ _ (saysNo_ok hno)
        have h1 : ¬ e.val E.ρ < a := of_decide_eq_false h0.symm
        refine ⟨.int k (if e.val E.ρ > a then e.val E.ρ else a), by simp [Builtin.max2], ?_⟩
        have : (if e.val E.ρ > a then e.val E.ρ else a) = e.val E.ρ := by split <;> omega
        rw [this]; exact .sint _ _
      | false =>
      rw [hno, bi_false] at h
      obtain ⟨q, hq, rfl⟩ := Option.map_eq_some_iff.1 h
      have hlt : q = decide (a < e.val E.ρ) := ho.lt _ _ _ hq
      refine ⟨.int k (if e.val E.ρ > a then e.val E.ρ else a), by simp [Builtin.max2], ?_⟩
      by_cases hc : a < e.val E.ρ
      · rw [hlt, decide_eq_true hc, bi_true, if_pos hc]; exact .sint _ _
      · rw [hlt, decide_eq_false hc, bi_false, if_neg hc]; exact .int _ _
    · cases h
  · rename_i k e k' b
    split at h
    · rename_i hk
      subst hk
      obtain ⟨q, hq, rfl⟩ := Option.map_eq_some_iff.1 h
      have hlt : q = decide (e.val E.ρ < b) := ho.lt _ _ _ hq
      refine ⟨.int k (if b > e.val E.ρ then b else e.val E.ρ), by simp [Builtin.max2], ?_⟩
      by_cases hc : e.val E.ρ < b
      · rw [hlt, decide_eq_true hc, bi_true, if_pos hc]; exact .int _ _
      · rw [hlt, decide_eq_false hc, bi_false, if_neg hc]; exact .sint _ _
    · cases h
  · rename_i k e k' f
    split at h
    · rename_i hk
      subst hk
      obtain ⟨q, hq, rfl⟩ := Option.map_eq_some_iff.1 h
      have hlt : q = decide (e.val E.ρ < f.val E.ρ) := ho.lt _ _ _ hq
      refine ⟨.int k (if f.val E.ρ > e.val E.ρ then f.val E.ρ else e.val E.ρ), by simp [Builtin.max2], ?_⟩
      by_cases hc : e.val E.ρ < f.val E.ρ
      · rw [hlt, decide_eq_true hc, bi_true, if_pos hc]; exact .sint _ _
      · rw [hlt, decide_eq_false hc, bi_false, if_neg hc]; exact .sint _ _
    · cases h
theorem maxA_ok {O : Orc} (ho : OrcOk O E.ρ) (r : List AV) : ∀ {x v : AV} {r' : List Value} {x' : Value}, maxA O x r = some v → Rel E x x' → RelL E r r' → ∃ v', (r'.foldlM Builtin.max2 x').run P w = .ok v' w ∧ Rel E v v' := by
  induction r with
  | nil =>
    intro x v r' x' h hx hr
    cases hr
    have : v = x := by simp [maxA] at h; exact h.symm
    subst this; exact ⟨x', rfl, hx⟩
  | cons y r ih =>
    intro x v r' x' h hx hr
    cases hr with
    | cons hy ht =>
      obtain ⟨z, hz, h1⟩ := oc_some (show oc (max1 O x y) (fun z => maxA O z r) = some v from h)
      obtain ⟨z', hz1, hz2⟩ := max1_ok (P := P) (w := w) ho hz hx hy
      obtain ⟨v', h2, h3⟩ := ih h1 hz2 ht
      exact ⟨v', by simp only [List.foldlM_cons, Sem.run_bind, hz1, Result.andThen_ok]; exact h2, h3⟩
theorem min1_ok {O : Orc} (ho : OrcOk O E.ρ) {x y z : AV} {x' y' : Value} (h : min1 O x y = some z) (hx : Rel E x x') (hy : Rel E y y') : ∃ z', (Builtin.min2 x' y').run P w = .ok z' w ∧ Rel E z z' := by
  cases hx <;> cases hy <;> simp only [min1] at h <;> first | (cases h; done) | skip
  · rename_i k a k' b
    cases h
    exact ⟨.int k (if b < a then b else a), by simp [Builtin.min2], .int _ _⟩
  · rename_i k a k' e
    split at h
    · rename_i hk
      subst hk
      cases hno : saysNo (O.lt (.lit a) e) with
      | true =>
        rw [hno, bi_true] at h
        cases h
        have h0 : false = decide (a < e.val E.ρ) := ho.lt _ _ _ (saysNo_ok hno)
        have h1 : ¬ a < e.val E.ρ := of_decide_eq_false h0.symm
        refine ⟨.int k (if e.val E.ρ < a then e.val E.ρ else a), by simp [Builtin.min2], ?_⟩
        have : (if e.val E.ρ < a then e.val E.ρ else a) = e.val E.ρ := by split <;> omega
        rw [this]; exact .sint _ _
      | false =>
      rw [hno, bi_false] at h
      obtain ⟨q, hq, rfl⟩ := Option.map_eq_some_iff.1 h
      have hlt : q = decide (e.val E.ρ < a) := ho.lt _ _ _ hq
      refine ⟨.int k (if e.val E.ρ < a then e.val E.ρ else a), by simp [Builtin.min2], ?_⟩
      by_cases hc : e.val E.ρ < a
      · rw [hlt, decide_eq_true hc, bi_true, if_pos hc]; exact .sint _ _
      · rw [hlt, decide_eq_false hc, bi_false, if_neg hc]; exact .int _ _
    · cases h
  · rename_i k e k' b
    split at h
    · rename_i hk
      subst hk
      obtain ⟨q, hq, rfl⟩ := Option.map_eq_some_iff.1 h
      have hlt : q = decide (b < e.val E.ρ) := ho.lt _ _ _ hq
      refine ⟨.int k (if b < e.val E.ρ then b else e.val E.ρ), by simp [Builtin.min2], ?_⟩
      by_cases hc : b < e.val E.ρ
      · rw [hlt, decide_eq_true hc, bi_true, if_pos hc]; exact .int _ _
      · rw [hlt, decide_eq_false hc, bi_false, if_neg hc]; exact .sint _ _
    · cases h
  · rename_i k e k' f
    split at h
    · rename_i hk
      subst hk
      obtain ⟨q, hq, rfl⟩ := Option.map_eq_some_iff.1 h
      have hlt : q = decide (f.val E.ρ < e.val E.ρ) := ho.lt _ _ _ hq
      refine ⟨.int k (if f.val E.ρ < e.val E.ρ then f.val E.ρ else e.val E.ρ), by simp [Builtin.min2], ?_⟩
      by_cases hc : f.val E.ρ < e.val E.ρ
      · rw [hlt, decide_eq_true hc, bi_true, if_pos hc]; exact .sint _ _
      · rw [hlt, decide_eq_false hc, bi_false, if_neg hc]; exact .sint _ _
    · cases h
theorem minA_ok {O : Orc} (ho : OrcOk O E.ρ) (r : List AV) : ∀ {x v : AV} {r' : List Value} {x' : Value}, minA O x r = some v → Rel E x x' → RelL E r r' → ∃ v', (r'.foldlM Builtin.min2 x').run P w = .ok v' w ∧ Rel E v v' := by
  induction r with
  | nil =>
    intro x v r' x' h hx hr
    cases hr
    have : v = x := by simp [minA] at h; exact h.symm
    subst this; exact ⟨x', rfl, hx⟩
  | cons y r ih =>
    intro x v r' x' h hx hr
    cases hr with
    | cons hy ht =>
      obtain ⟨z, hz, h1⟩ := oc_some (show oc (min1 O x y) (fun z => minA O z r) = some v from h)
      obtain ⟨z', hz1, hz2⟩ := min1_ok (P := P) (w := w) ho hz hx hy
      obtain ⟨v', h2, h3⟩ := ih h1 hz2 ht
      exact ⟨v', by simp only [List.foldlM_cons, Sem.run_bind, hz1, Result.andThen_ok]; exact h2, h3⟩
end
end Ev
end Go.Proofs.YtnjpdipombnigaaGreatDoor
