/-
  A slice of entries that came in: its entries, as data.
-/
import Derived.Test.YtlgepoiaolhajaaDoorRows
import Derived.Test.YtlgepoiaolhajaaDoorReAdd
import Derived.Deep.Slices
import Derived.Deep.Fields
import Derived.ChangeSame
import Derived.SizedLaws
namespace Go.Proofs.YtlgepoiaolhajaaDoor
open Go.RowKit Go.ChangeShapes Go.WideShapes Go.Deep

theorem weights_mem_all {H : Type} {P : Program} {e : TypeId} : ∀ {ds : List (DataW H)} {d : DataW H}, d ∈ ds → ∀ n ∈ d.weights P e, n ∈ DataW.weightsAll P e ds
  | [], _, h, _, _ => by cases h
  | d0 :: r, d, h, n, hn => by
    simp only [DataW.weightsAll, List.mem_append]
    rcases List.mem_cons.1 h with rfl | h
    · exact .inl hn
    · exact .inr (weights_mem_all h n hn)

section
variable {H : Type} {enc : TypeId × Value → H} {W : World} {base : Nat} {sp : Nat → Bool} {held : Bool}
instance : Inhabited En := ⟨⟨0, 0, ⟨#[]⟩, 0, 0, 0, 0, 0, 0⟩⟩
set_option maxRecDepth 100000 in
/-- One entry's cells. -/
theorem open_entry {fuel : Nat} {cs : List Value} {x : DataW H × List MemPlace} (h : DataW.trod enc Tryd.prog W base sp held fuel 37 cs = some x) :
    ∃ e : En, cs = e.cells ∧ 0 ≤ e.time ∧ e.bytes.size ∈ x.1.weights Tryd.prog 37 := by
  obtain ⟨ys, n, -, rfl, hlen, hyl, hf⟩ := DataW.trod_struct Tryd.underlying37 h
  have hc9 : Tryd.prog.cellsOf 37 = 9 := by kernel_rfl
  have c3 : Tryd.prog.cellsOf 3 = 1 := by kernel_rfl
  have c9 : Tryd.prog.cellsOf 9 = 1 := by kernel_rfl
  have c33 : Tryd.prog.cellsOf 33 = 6 := by kernel_rfl
  have c31 : Tryd.prog.cellsOf 31 = 1 := by kernel_rfl
  rw [hc9] at hlen
  match cs, hlen with
  | [v0, v1, v2, v3, v4, v5, v6, v7, v8], _ =>
    match ys, hyl with
    | [y0, y1, y2, y3], _ =>
      have g0 := hf 0 _ rfl
      have g1 := hf 1 _ rfl
      have g2 := hf 2 _ rfl
      have g3 := hf 3 _ rfl
      simp [c3, c9, c33] at g0 g1 g2 g3
      obtain ⟨a0, e0, r0, w0⟩ := DataW.trod_int Tryd.underlying3 g0
      obtain ⟨a1, e1, r1, w1⟩ := DataW.trod_int Tryd.underlying3 g1
      obtain ⟨a2, e2, r2, w2⟩ := DataW.trod_string Tryd.underlying9 g2
      obtain ⟨zs, m, -, -, -, hzl, hz⟩ := DataW.trod_struct Tryd.underlying33 g3
      match zs, hzl with
      | [z0, z1, z2, z3, z4, z5], _ =>
        have k0 := hz 0 _ rfl
        have k1 := hz 1 _ rfl
        have k2 := hz 2 _ rfl
        have k3 := hz 3 _ rfl
        have k4 := hz 4 _ rfl
        have k5 := hz 5 _ rfl
        simp [c3, c31] at k0 k1 k2 k3 k4 k5
        obtain ⟨b0, s0, -, -⟩ := DataW.trod_int Tryd.underlying3 k0
        obtain ⟨b1, s1, -, -⟩ := DataW.trod_int Tryd.underlying3 k1
        obtain ⟨b2, s2, -, -⟩ := DataW.trod_int Tryd.underlying3 k2
        obtain ⟨b3, s3, -, -⟩ := DataW.trod_int Tryd.underlying3 k3
        obtain ⟨b4, s4, -, w4⟩ := DataW.trod_int Tryd.underlying31 k4
        obtain ⟨b5, s5, -, -⟩ := DataW.trod_int Tryd.underlying3 k5
        simp only [List.cons.injEq, and_true] at e0 e1 e2 s0 s1 s2 s3 s4 s5
        subst e0 e1 e2 s0 s1 s2 s3 s4 s5 r2
        refine ⟨⟨a0, a1, a2, b0, b1, b2, b3, b4, b5⟩, rfl, ?_, ?_⟩
        · simp [Lit.wf, IntKind.min, IntKind.max, IntKind.signed, IntKind.bits] at w4
          exact w4.1
        · simp only [DataW.weights, Tryd.underlying37]
          refine DataW.weights_mem_each (j := 2) (t := 9) (d := .lit (.string a2.data.toList)) rfl rfl _ ?_
          simp [DataW.weights]

set_option maxRecDepth 100000 in
/-- A slice of entries. -/
theorem open_entries {fuel : Nat} {a : Option Addr} {len cap : Nat} {x : DataW H × List MemPlace} (h : DataW.trod enc Tryd.prog W base sp held fuel 22 [.slice a len cap] = some x) :
    ∃ es : List En, len = es.length ∧ Reads W W.heap.size 9 a len (flat es) ∧ len ≤ maxLen ∧ (∀ e ∈ es, 0 ≤ e.time) ∧ ∀ R, (∀ n ∈ x.1.weights Tryd.prog 22, n ≤ R) → ∀ e ∈ es, e.bytes.size ≤ R := by
  rcases open_slice Tryd.underlying22 h with ⟨hcs, -⟩ | ⟨ad, l, c, m, n, D, Pl, hcs, hb, hl, hm, hmm, rfl, hi⟩
  · simp only [List.cons.injEq, Value.slice.injEq, and_true] at hcs
    obtain ⟨rfl, rfl, rfl⟩ := hcs
    exact ⟨[], rfl, Reads.none_, Nat.zero_le _, by simp, by simp⟩
  · simp only [List.cons.injEq, Value.slice.injEq, and_true] at hcs
    obtain ⟨rfl, rfl, rfl⟩ := hcs
    have hlm : len ≤ m := by rw [hmm]; split <;> omega
    have c37 : Tryd.prog.cellsOf 37 = 9 := by kernel_rfl
    rw [c37] at hi
    obtain ⟨V, hV⟩ := choose_lt (α := En) (n := len) (p := fun i e => (∀ j v, e.cells[j]? = some v → W.cell? (ad.add (i * 9 + j)) = some v) ∧ 0 ≤ e.time ∧ e.bytes.size ∈ (D i).weights Tryd.prog 37) (fun i him => by
      obtain ⟨cs', hc, ht'⟩ := hi i (by omega)
      obtain ⟨e, rfl, h1, h2⟩ := open_entry ht'
      obtain ⟨_, hcl, hat⟩ := World.cells?_some hc
      refine ⟨e, fun j v hv => ?_, h1, h2⟩
      have hj : j < 9 := by have := (List.getElem?_eq_some_iff.1 hv).1; simpa [En.cells] using this
      have := hat j hj
      rw [Go.Deep.add_add] at this
      rw [this, hv])
    refine ⟨(List.range len).map V, by simp, ⟨?_, fun hn => ⟨ad, rfl, ?_, ?_⟩⟩, by omega, ?_, ?_⟩
    · simp [flat_length]
    · have := (hV 0 hn).1 0 _ rfl
      have := block_lt_of_cell this
      rwa [block_of_add] at this
    · intro j u hu
      have hjl : j < len * 9 := by have := (List.getElem?_eq_some_iff.1 hu).1; simpa [flat_length] using this
      have hd : j = (j / 9) * 9 + j % 9 := by omega
      have hq : j / 9 < len := by omega
      rw [hd] at hu ⊢
      rw [flat_at _ _ _ (by simpa using hq) (by omega)] at hu
      simp only [List.getElem_map, List.getElem_range] at hu
      exact (hV (j / 9) hq).1 _ _ hu
    · intro e he
      obtain ⟨i, hi', rfl⟩ := List.mem_map.1 he
      exact (hV i (List.mem_range.1 hi')).2.1
    · intro R hR e he
      obtain ⟨i, hi', rfl⟩ := List.mem_map.1 he
      refine hR _ ?_
      simp only [DataW.weights, Tryd.underlying22, List.mem_cons, List.mem_append]
      exact .inr (.inl (weights_mem_all (List.mem_map.2 ⟨i, hi', rfl⟩) _ (hV i (List.mem_range.1 hi')).2.2))
end
end Go.Proofs.YtlgepoiaolhajaaDoor
