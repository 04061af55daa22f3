/-
  The evaluator: literals, make, conversions, len, copy, clear, max, min.
-/
import Derived.Test.YtbjllaknnpbkkaaGreatDoorSz8
import Derived.Laws.IdiomStrings
import Derived.Laws.BytesString
namespace Go.Proofs.YtbjllaknnpbkkaaGreatDoor
namespace Ev
open Go.RowKit

section
variable {P : Program} {G : Nat → Prop} {B : Nat} {E : Env} {s s' : St} {w : World} {v : AV}

theorem range_zero_map (f : Nat → Value) : (Array.range 0).map f = #[] := by apply Array.ext'; simp
theorem placesOf_run : ∀ {fs : List Field} {pl : List (Nat × Nat)}, placesOf P fs = some pl → (fs.mapM fun (f : Field) => (do pure (f.offset, ← sizeOf f.type) : Sem (Nat × Nat))).run P w = .ok pl w
  | [], pl, h => by cases h; rfl
  | f :: r, pl, h => by
    simp only [placesOf] at h
    split at h
    · rename_i n l hn hl
      cases h
      have ih := placesOf_run hl
      simp only [List.mapM_cons, Sem.run_bind, szOf_run hn, Result.andThen_ok, Sem.run_pure, ih]
    · cases h
theorem build_ok {t : TypeId} {z : AV} {parts : List (Nat × AV)} {parts' : Array (Nat × Value)} {l : List AV} (hz : zeroOf P t = some z) (hp : RelP E parts parts'.toList)
    (h : (match P.underlying t with
      | some (.struct fs) => oc (placesOf P fs.toList) fun pl => oc (fillA (nth pl) z.cells parts) fun l => some (AV.agg l, s)
      | some (.array _ e) => oc (szOf P e) fun n => oc (fillA (fun i => some (i * n, n)) z.cells parts) fun l => some (AV.agg l, s)
      | _ => none) = some (v, s')) : s' = s ∧ ∃ v', (Instr.build t parts').run P w = .ok v' w ∧ Rel E v v' := by
  obtain ⟨zv, hzr, hzrel⟩ := zeroOf_run hz
  split at h
  · rename_i fs hu
    obtain ⟨pl, hpl, h⟩ := oc_some h
    obtain ⟨l, hl, h⟩ := oc_some h
    cases h
    obtain ⟨cs', h1, h2⟩ := fillA_ok parts hl hp (hzrel E).cells
    have hpr : (fs.mapM fun (f : Field) => (do pure (f.offset, ← sizeOf f.type) : Sem (Nat × Nat))).run P w = .ok pl.toArray w := by
      rw [Array.mapM_eq_mapM_toList]
      simp only [Sem.run_map, placesOf_run hpl, Result.andThen_ok]
    have hpl' : (fun i => pl.toArray[i]?) = nth pl := by funext i; rw [nth_get]; simp
    refine ⟨rfl, .agg cs', ?_, .agg h2⟩
    simp only [Instr.build, Sem.run_bind, hzr, Result.andThen_ok, und_run hu, hpr, hpl', h1, Sem.run_pure]
  · rename_i n e hu
    obtain ⟨k, hk, h⟩ := oc_some h
    obtain ⟨l, hl, h⟩ := oc_some h
    cases h
    obtain ⟨cs', h1, h2⟩ := fillA_ok parts hl hp (hzrel E).cells
    refine ⟨rfl, .agg cs', ?_, .agg h2⟩
    simp only [Instr.build, Sem.run_bind, hzr, Result.andThen_ok, und_run hu, szOf_run hk, h1, Sem.run_pure]
  · cases h
theorem buildSlice_ok {t : TypeId} {len : Nat} {parts : List (Nat × AV)}
    (h : (match P.underlying t with
      | some (.slice e) => oc (szOf P e) fun n => oc (zeroOf P e) fun z => bc (Nat.blt 0 n) (bc (Nat.beq z.cells.length n) (bc (Nat.ble (Nat.mul len n) 1000000)
        (oc (fillA (fun i => some (i * n, n)) (repL z.cells len) parts) fun l => bc (allOne l) (some (AV.slice s.c 0 len (some len) 0, s.new (.cells l e (0, 0) none))))))
      | _ => none) = some (v, s')) :
    Step s s' ∧ ∀ {G B E w} {parts' : Array (Nat × Value)}, (∀ j, In s'.l j → G j) → Sat G B E s w → RelP E parts parts'.toList → Ok1 P G B s' v E w (Instr.buildSlice t len parts') := by
  split at h
  · rename_i e hu
    obtain ⟨n, hn, h⟩ := oc_some h
    obtain ⟨z, hz, h⟩ := oc_some h
    obtain ⟨hpos, h⟩ := bc_some h
    obtain ⟨hzl, h⟩ := bc_some h
    obtain ⟨hle, h⟩ := bc_some h
    obtain ⟨l, hl, h⟩ := oc_some h
    obtain ⟨hone, h⟩ := bc_some h
    cases h
    refine ⟨Step.new _ _, fun {G B E w parts'} hG hs hp => ?_⟩
    obtain ⟨zv, hzr, hzrel⟩ := zeroOf_run hz
    have hpos' : 0 < n := by simpa using hpos
    have hzl' : z.cells.length = n := by simpa using hzl
    have hle' : len * n ≤ 1000000 := by simpa using hle
    have hrep := repL_rel (hzrel E) (n := len) hzl' hpos'
    obtain ⟨cs', h1, h2⟩ := fillA_ok parts hl hp hrep
    obtain ⟨k1, k2⟩ := new_cells hs hG h2
    refine ⟨_, .slice (some ⟨w.heap.size, 0, none⟩) len len, _, ?_, .slice (by rw [Env.set_same]; rfl) rfl, k1, k2⟩
    have hn24 : ¬ len * n > 2 ^ 24 := by omega
    by_cases h0 : len * n = 0
    · have hl0 : len = 0 := by rcases Nat.mul_eq_zero.1 h0 with h | h <;> omega
      subst hl0
      simp only [Instr.buildSlice, Sem.run_bind, und_run hu, szOf_run hn, Result.andThen_ok, Sem.run_ite, Sem.run_pure]
      rw [Nat.zero_mul, range_zero_map] at h1
      simp [range_zero_map, h1, newRow]
    · simp only [Instr.buildSlice, Sem.run_bind, und_run hu, szOf_run hn, Result.andThen_ok, Sem.run_ite, Sem.run_pure, hzr]
      simp [hn24, h0, h1, newRow]
  · cases h
theorem makeSliceA_ok {t : TypeId} {l c : AV} (h : makeSliceA P t l c s = some (v, s')) :
    Step s s' ∧ ∀ {G B E w l' c'}, (∀ j, In s'.l j → G j) → Sat G B E s w → Rel E l l' → Rel E c c' → Ok1 P G B s' v E w (Instr.makeSlice t l' c') := by
  unfold makeSliceA at h
  split at h
  case h_2 => cases h
  rename_i e hu
  unfold AV.intC at h
  split at h
  case h_2 => cases h
  split at h
  case h_2 => cases h
  rename_i kl nl _ kc nc
  obtain ⟨ln, hln, h⟩ := oc_some h
  obtain ⟨cn, hcn, h⟩ := oc_some h
  obtain ⟨z, hz, h⟩ := oc_some h
  obtain ⟨by_, hby, h⟩ := oc_some h
  obtain ⟨zero, hzero, h⟩ := oc_some h
  obtain ⟨h1, h⟩ := bc_some h
  obtain ⟨h2, h⟩ := bc_some h
  obtain ⟨h3, h⟩ := bc_some h
  obtain ⟨h4, h⟩ := bc_some h
  obtain ⟨h5, h⟩ := bc_some h
  obtain ⟨h6, h⟩ := bc_some h
  cases h
  refine ⟨Step.new _ _, fun {G B E w l' c'} hG hs hl hc => ?_⟩
  cases hl
  cases hc
  obtain rfl := natOf_some hln
  obtain rfl := natOf_some hcn
  have h1' : ln ≤ cn := by simpa using h1
  have h2' : cn ≤ 1000000 := by simpa using h2
  have h3' : by_ ≤ 4096 := by simpa using h3
  have h4' : 0 < z := by simpa using h4
  have h5' : zero.cells.length = z := by simpa using h5
  obtain ⟨zv, hzr, hzrel⟩ := zeroOf_run hzero
  have hrep := repL_rel (hzrel E) (n := cn) h5' h4'
  obtain ⟨k1, k2⟩ := new_cells (e := e) hs hG hrep
  refine ⟨_, .slice (some ⟨w.heap.size, 0, none⟩) ln cn, _, ?_, .slice (by rw [Env.set_same]; rfl) rfl, k1, k2⟩
  have hi : ∃ i, P.info? e = some i ∧ i.bytes = by_ ∧ i.size = z := by
    unfold bytesB at hby
    unfold szOf at hz
    cases hi : P.info? e with
    | none => rw [hi] at hby; cases hby
    | some i => rw [hi] at hby hz; cases hby; cases hz; exact ⟨i, rfl, rfl, rfl⟩
  obtain ⟨i, hi, hib, his⟩ := hi
  have w1 : IntKind.i64.wrap (ln : Int) = ln := wrap_i64 _ (by omega) (by omega)
  have w2 : IntKind.i64.wrap (cn : Int) = cn := wrap_i64 _ (by omega) (by omega)
  have hbig : ¬ ((by_ : Int) * (cn : Int) > 2 ^ 48) := by
    have : (by_ : Int) * (cn : Int) ≤ 4096 * 1000000 := Int.mul_le_mul (by omega) (by omega) (by omega) (by omega)
    omega
  have hneg : ¬ ((cn : Int) < 0) := by omega
  have hneg' : ¬ ((ln : Int) < 0) := by omega
  have hlc : ¬ ((ln : Int) > (cn : Int)) := by omega
  simp only [Instr.makeSlice, Sem.run_bind, und_run hu, Result.andThen_ok, asInt, asIntOf, Sem.run_pure, typeInfo, run_program, hi, hib, w1, w2, hneg, hneg', hlc, hbig, decide_false, Bool.or_false, Bool.false_eq_true, if_false, run_askRoom, sizeOf, his]
  by_cases h0 : cn * z = 0
  · have hc0 : cn = 0 := by rcases Nat.mul_eq_zero.1 h0 with h | h <;> omega
    subst hc0
    simp [range_zero_map, newRow]
  · simp [h0, hzr, newRow]
end
end Ev
end Go.Proofs.YtbjllaknnpbkkaaGreatDoor
