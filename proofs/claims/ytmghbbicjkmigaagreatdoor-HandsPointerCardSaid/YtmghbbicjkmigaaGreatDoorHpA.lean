/-
  An array of whole numbers, as a row's argument gives it.
-/
import Derived.OpenShut
import Derived.ChangeShapes
import Derived.WideShapes
namespace Go.Proofs.YtmghbbicjkmigaaGreatDoor
namespace Ev
open Go.ChangeShapes Go.WideShapes
theorem cells_of {q : IntKind} {n : Nat} {l : List Value} {f : Nat → Int} (hl : l.length = n) (h : ∀ i, i < n → (l.drop (i * 1)).take 1 = [.int q (f i)]) : l = (List.range n).map fun i => .int q (f i) := by
  apply List.ext_getElem?
  intro i
  by_cases hi : i < n
  · have h1 := h i hi
    rw [Nat.mul_one, List.drop_eq_getElem_cons (by omega)] at h1
    simp only [List.take_succ_cons, List.take_zero, List.cons.injEq, and_true] at h1
    rw [List.getElem?_eq_getElem (by omega), h1, List.getElem?_map, List.getElem?_range hi]
    rfl
  · rw [List.getElem?_eq_none (by omega), List.getElem?_eq_none (by simp; omega)]
theorem array_in {H : Type} {enc : TypeId × Value → H} {P : Program} {w : World} {t e : TypeId} {r : Go.Reach} {b0 : Nat} {v : Value} {d : DataW H} {ps : List MemPlace} {q : IntKind} {n : Nat} (ht : P.underlying t = some (.array n e)) (he : P.underlying e = some (.int q)) (hc : P.cellsOf e = 1) (hct : P.cellsOf t = n)
    (hval : Value.okWide P w r b0 t v) (h : DataW.Trod enc P w 0 (fun _ => true) true t v d ps) : ∃ f : Nat → Int, v = .agg ((List.range n).map fun i => Value.int q (f i)).toArray ∧ ∀ i, i < n → q.min ≤ f i ∧ f i ≤ q.max := by
  simp only [Value.okWide, ht] at hval
  obtain ⟨cs, rfl, h2, _⟩ := hval
  obtain ⟨fuel, hf⟩ := h
  have hf : DataW.trod enc P w 0 (fun _ => true) true fuel t cs.toList = some (d, ps) := by simpa [Value.cells] using hf
  obtain ⟨xs, m, _, _, _, hl, hg⟩ := Go.DataW.trod_array ht hf
  have key : ∀ i, i < n → ∃ k : Int, (cs.toList.drop (i * 1)).take 1 = [.int q k] ∧ q.min ≤ k ∧ k ≤ q.max := by
    intro i hi
    have h3 := hg i hi
    rw [hc] at h3
    rw [List.getElem?_eq_getElem (by omega)] at h3
    obtain ⟨k, h4, _, hw⟩ := DataW.trod_int he h3
    refine ⟨k, h4, ?_⟩
    simp [Lit.wf] at hw
    exact hw
  have hl2 : cs.toList.length = n := by rw [Array.length_toList, h2, hct]
  have hf2 : ∃ f : Nat → Int, ∀ i, i < n → (cs.toList.drop (i * 1)).take 1 = [.int q (f i)] ∧ q.min ≤ f i ∧ f i ≤ q.max := by
    refine ⟨fun i => if hi : i < n then (key i hi).choose else 0, fun i hi => ?_⟩
    simp only [dif_pos hi]
    exact (key i hi).choose_spec
  obtain ⟨f, hf2⟩ := hf2
  refine ⟨f, ?_, fun i hi => (hf2 i hi).2⟩
  have := cells_of hl2 fun i hi => (hf2 i hi).1
  rw [← this]
theorem array4_in {H : Type} {enc : TypeId × Value → H} {P : Program} {w : World} {t e : TypeId} {r : Go.Reach} {b0 : Nat} {v : Value} {d : DataW H} {ps : List MemPlace} (ht : P.underlying t = some (.array 4 e)) (he : P.underlying e = some (.int .u8)) (hc : P.cellsOf e = 1) (hct : P.cellsOf t = 4)
    (hval : Value.okWide P w r b0 t v) (h : DataW.Trod enc P w 0 (fun _ => true) true t v d ps) : ∃ q0 q1 q2 q3 : Int, v = .agg #[.int .u8 q0, .int .u8 q1, .int .u8 q2, .int .u8 q3] ∧ (0 ≤ q0 ∧ q0 ≤ 255) ∧ (0 ≤ q1 ∧ q1 ≤ 255) ∧ (0 ≤ q2 ∧ q2 ≤ 255) ∧ (0 ≤ q3 ∧ q3 ≤ 255) := by
  obtain ⟨f, h1, h2⟩ := array_in ht he hc hct hval h
  have r : ∀ i, i < 4 → 0 ≤ f i ∧ f i ≤ 255 := fun i hi => by
    have := h2 i hi
    simp [IntKind.min, IntKind.max, IntKind.signed, IntKind.bits] at this
    omega
  exact ⟨f 0, f 1, f 2, f 3, h1, r 0 (by omega), r 1 (by omega), r 2 (by omega), r 3 (by omega)⟩
theorem array2_in {H : Type} {enc : TypeId × Value → H} {P : Program} {w : World} {t e : TypeId} {r : Go.Reach} {b0 : Nat} {v : Value} {d : DataW H} {ps : List MemPlace} (ht : P.underlying t = some (.array 2 e)) (he : P.underlying e = some (.int .i16)) (hc : P.cellsOf e = 1) (hct : P.cellsOf t = 2)
    (hval : Value.okWide P w r b0 t v) (h : DataW.Trod enc P w 0 (fun _ => true) true t v d ps) : ∃ t0 t1 : Int, v = .agg #[.int .i16 t0, .int .i16 t1] ∧ (-32768 ≤ t0 ∧ t0 ≤ 32767) ∧ (-32768 ≤ t1 ∧ t1 ≤ 32767) := by
  obtain ⟨f, h1, h2⟩ := array_in ht he hc hct hval h
  have r : ∀ i, i < 2 → -32768 ≤ f i ∧ f i ≤ 32767 := fun i hi => by
    have := h2 i hi
    simp [IntKind.min, IntKind.max, IntKind.signed, IntKind.bits] at this
    omega
  exact ⟨f 0, f 1, h1, r 0 (by omega), r 1 (by omega)⟩
end Ev
end Go.Proofs.YtmghbbicjkmigaaGreatDoor
