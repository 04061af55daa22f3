/-
  A tape's Add and All: what they answer and make.
-/
import Derived.Test.YtlgepoiaolhajaaDoorRows
import Derived.Test.YtlgepoiaolhajaaDoorKit
import Derived.Test.YtlgepoiaolhajaaDoorReFew
import Derived.Test.YtlgepoiaolhajaaDoorReWrong
import Derived.WalkKit
import Derived.WalkSpells
import Derived.WalkLawsBesides
import Derived.BigGuardPart
import Derived.Deep.Light
namespace Go.Proofs.YtlgepoiaolhajaaDoor
open Go.RowKit

theorem entry_info : (Tryd.prog.info? 37).map (fun i => (i.zero, i.size, i.bytes)) = some (some (.agg #[.int .i64 0, .int .i64 0, .string ⟨#[]⟩, .int .i64 0, .int .i64 0, .int .i64 0, .int .i64 0, .int .u32 0, .int .i64 0]), 9, 80) := by kernel_rfl
theorem entry_size : (Tryd.prog.info? 37).map (·.size) = some 9 := by kernel_rfl

theorem cells_one (e : En) : ∀ v ∈ e.cells, v.oneCell' = true := by
  intro v hv
  simp [En.cells] at hv
  rcases hv with rfl | rfl | rfl | rfl | rfl | rfl | rfl | rfl | rfl <;> rfl
theorem flat_one (es : List En) : ∀ v ∈ flat es, v.oneCell' = true := by
  intro v hv
  unfold flat at hv
  obtain ⟨e, _, he⟩ := List.mem_flatMap.1 hv
  exact cells_one e v he
theorem flat_length (es : List En) : (flat es).length = es.length * 9 := by
  induction es with
  | nil => rfl
  | cons e r ih => unfold flat at ih ⊢; rw [List.flatMap_cons, List.length_append, ih]; simp [En.cells]; omega

/-- A slice value that holds entries. -/
def Tapes (w : World) (v : Value) (es : List En) : Prop := ∃ A c, v = .slice A es.length c ∧ Reads w w.heap.size 9 A es.length (flat es)

theorem Tapes.below {w w' : World} {v : Value} {es : List En} (h : Tapes w v es) (hb : Below w.heap.size w w') : Tapes w' v es := by
  obtain ⟨A, c, rfl, hr⟩ := h
  exact ⟨A, c, rfl, (hr.below hb).more hb.size⟩
theorem Tapes.nil (w : World) : Tapes w (.slice none 0 0) [] := ⟨none, 0, rfl, Reads.none_⟩
theorem Tapes.of_own {w : World} {base t : Nat} {v : Value} {es : List En} (h : w.ownsRow base t 9 v es.length (flat es)) : Tapes w v es := by
  rcases h.2 with ⟨rfl, h0⟩ | ⟨g, cap, cur, rfl, hrest⟩
  · have : es = [] := List.eq_nil_of_length_eq_zero h0
    subst this
    exact Tapes.nil w
  · exact ⟨_, cap, rfl, Reads.of_own h⟩

theorem bcell {W w1 : World} (hb : Below W.heap.size W w1) : (∀ b o, b < W.heap.size → w1.cell? ⟨b, o, none⟩ = W.cell? ⟨b, o, none⟩) ∧ (∀ b o, b < W.heap.size → w1.frozen? ⟨b, o, none⟩ = W.frozen? ⟨b, o, none⟩) :=
  ⟨fun b o h => hb.cell (p := ⟨b, o, none⟩) h, fun b o h => hb.frozen (p := ⟨b, o, none⟩) h⟩

/-- What Add answers where the entry's code is q. -/
def addCode (es : List En) (q : Int) : Int := if q ≠ 0 then q else if 8192 ≤ es.length then 12 else 0
/-- The entries behind Add. -/
def added (es : List En) (e : En) (q : Int) : List En := if addCode es q = 0 then es ++ [e] else es
def AddPost (es : List En) (e : En) (q : Int) (v : Value) (w : World) (r : Ending) (w' : World) : Prop :=
  ∃ v', r = .returned (.tuple #[.agg #[v'], .int .i64 (addCode es q)]) ∧ Below w.heap.size w w' ∧ Tapes w' v' (added es e q) ∧ (addCode es q ≠ 0 → v' = v) ∧ (addCode es q = 0 → w'.ownsRow w.heap.size 37 9 v' (added es e q).length (flat (added es e q)))
theorem splice_end {α : Type} (xs ys cs : List α) (h : ys.length = cs.length) : splice (xs ++ ys) xs.length cs = xs ++ cs := by
  simp only [splice]
  rw [List.take_left, ← h, ← List.length_append, List.drop_length]
  simp

set_option maxHeartbeats 1000000 in
set_option maxRecDepth 100000 in
theorem add_any (es : List En) (e : En) (v : Value) (w : World) (hv : Tapes w v es) (hm : es.length ≤ 9000) :
    Calls Tryd.prog 17 #[.agg #[v], e.val] w (AddPost es e e.wrong v w) := by
  obtain ⟨A, c, rfl, hr⟩ := hv
  obtain ⟨i0, hi, hz0, hz1, hz2⟩ := info_parts entry_info
  have HR := Lib.hid hr
  clear hr
  obtain ⟨k, cl, bs, a, b, cc, d, t, n⟩ := e
  have hch := check_any ⟨k, cl, bs, a, b, cc, d, t, n⟩
  have HE : Hid (Tapes w (.slice A es.length c) es) := ⟨A, c, rfl, HR.out⟩
  generalize En.wrong _ = q at *
  have HC := Lib.hid hch
  clear hch
  simp only [En.val]
  have hB1 : ∀ w1, Below (w.heap.size + 1 + 1 + 1) (((w.alloc (.cells #[.slice A es.length c] 26)).alloc (.cells #[.int .i64 k, .int .i64 cl, .string bs, .int .i64 a, .int .i64 b, .int .i64 cc, .int .i64 d, .int .u32 t, .int .i64 n] 37)).alloc (.cells #[.slice none 0 0] 26)) w1 →
      Box w1 w.heap.size 26 #[.slice A es.length c] ∧ Box w1 (w.heap.size + 1) 37 #[.int .i64 k, .int .i64 cl, .string bs, .int .i64 a, .int .i64 b, .int .i64 cc, .int .i64 d, .int .u32 t, .int .i64 n] ∧ Box w1 (w.heap.size + 1 + 1) 26 #[.slice none 0 0] := by
    intro w1 hb1
    refine ⟨((((Box.new w _ _).alloc _).alloc _).below hb1 (by omega)), ?_, ?_⟩
    · have := ((Box.new (w.alloc (.cells #[.slice A es.length c] 26)) 37 #[.int .i64 k, .int .i64 cl, .string bs, .int .i64 a, .int .i64 b, .int .i64 cc, .int .i64 d, .int .u32 t, .int .i64 n]).alloc (.cells #[.slice none 0 0] 26)).below hb1 (by simp)
      simpa using this
    · have := (Box.new ((w.alloc (.cells #[.slice A es.length c] 26)).alloc (.cells #[.int .i64 k, .int .i64 cl, .string bs, .int .i64 a, .int .i64 b, .int .i64 cc, .int .i64 d, .int .u32 t, .int .i64 n] 37)) 26 #[.slice none 0 0]).below hb1 (by simp)
      simpa using this
  have HB1 := Lib.hid hB1
  clear hB1
  by_cases hq : (q != 0) = true
  · have HA : Hid (addCode es q = q) := by
      show addCode es q = q
      unfold addCode
      rw [if_pos (by simpa using hq)]
    have HD : Hid (added es ⟨k, cl, bs, a, b, cc, d, t, n⟩ q = es) := by
      show added _ _ _ = es
      unfold added
      rw [HA.out, if_neg (by simpa using hq)]
    go_enter Tryd.func17, Tryd.ntmps17
    go_wp2_with (go_at_call 30; refine (HC.out _).mono ?_; rintro r w1 ⟨rfl, hb1⟩; have hs1 := hb1.size; simp at hs1; obtain ⟨X1, Y1, Z1⟩ := HB1.out w1 (hb1.mono (by simp)); obtain ⟨x1, x1'⟩ := box1 X1; obtain ⟨z1, z1'⟩ := box1 Z1)
    have hbw : Below w.heap.size w w1 := (((Below.refl _ _).alloc (Nat.le_refl _) _).alloc (by simp) _).alloc (by simp; omega) _ |>.trans (hb1.mono (by simp; omega))
    refine bodyPost_ret (v := .tuple #[.agg #[.slice A es.length c], .int .i64 q]) (by simp [results, Tryd.results17, go_sem, z1]) rfl ⟨_, by rw [HA.out], hbw.setCell (by simp; omega) _, by rw [HD.out]; exact HE.out.below (hbw.setCell (by simp; omega) _), fun _ => rfl, fun h => absurd (HA.out.symm.trans h) (by first | decide | (simpa using hq))⟩
  · have hq0 : q = 0 := by simpa using hq
    subst hq0
    by_cases h8 : 8192 ≤ es.length
    · have HA : Hid (addCode es 0 = 12) := by
        show addCode es 0 = 12
        unfold addCode
        rw [if_neg (by simp), if_pos h8]
      have HD : Hid (added es ⟨k, cl, bs, a, b, cc, d, t, n⟩ 0 = es) := by
        show added _ _ _ = es
        unfold added
        rw [HA.out, if_neg (by simp)]
      go_enter Tryd.func17, Tryd.ntmps17
      go_wp2_with (go_at_call 30; refine (HC.out _).mono ?_; rintro r w1 ⟨rfl, hb1⟩; have hs1 := hb1.size; simp at hs1; obtain ⟨X1, Y1, Z1⟩ := HB1.out w1 (hb1.mono (by simp)); obtain ⟨x1, x1'⟩ := box1 X1; obtain ⟨z1, z1'⟩ := box1 Z1)
      have hbw : Below w.heap.size w w1 := (((Below.refl _ _).alloc (Nat.le_refl _) _).alloc (by simp) _).alloc (by simp; omega) _ |>.trans (hb1.mono (by simp; omega))
      refine bodyPost_ret (v := .tuple #[.agg #[.slice A es.length c], .int .i64 12]) (by simp [results, Tryd.results17, go_sem, z1]) rfl ⟨_, by rw [HA.out], hbw.setCell (by simp; omega) _, by rw [HD.out]; exact HE.out.below (hbw.setCell (by simp; omega) _), fun _ => rfl, fun h => absurd (HA.out.symm.trans h) (by first | decide | (simpa using hq))⟩
    · have hlt : es.length < 8192 := by omega
      have HA : Hid (addCode es 0 = 0) := by
        show addCode es 0 = 0
        unfold addCode
        rw [if_neg (by simp), if_neg h8]
      have HD : Hid (added es ⟨k, cl, bs, a, b, cc, d, t, n⟩ 0 = es ++ [⟨k, cl, bs, a, b, cc, d, t, n⟩]) := by
        show added _ _ _ = _
        unfold added
        rw [HA.out, if_pos rfl]
      go_enter Tryd.func17, Tryd.ntmps17
      go_wp2_with (first
        | (go_at_call 30; refine (HC.out _).mono ?_; rintro r w1 ⟨rfl, hb1⟩; have hs1 := hb1.size; simp at hs1; obtain ⟨X1, Y1, Z1⟩ := HB1.out w1 (hb1.mono (by simp)); obtain ⟨x1, x1'⟩ := box1 X1)
        | (at_make; refine wpList_make_full _ rfl _ _ 22 rfl w.heap.size 37 i0 _ 9 Tryd.underlying22 hi hz0 hz1 .i64 .i64 _ _ (es.length + 1) rfl rfl ?c1 ?c2 ?c3 ?c4 ?c5 ?_))
      case c1 => omega
      case c2 => omega
      case c3 => rw [hz2]; omega
      case c4 => simp only [maxLen]; omega
      case c5 => omega
      intro w2 hown2 hg2
      have hb2 : Below w1.heap.size w1 w2 := grown_below hg2 (Nat.le_refl _) (by simp)
      have hs2 := hb2.size
      have X2 := X1.below hb2 (by omega)
      have Y2 := Y1.below hb2 (by omega)
      have Z2 := Z1.below hb2 (by omega)
      obtain ⟨x2, x2'⟩ := box1 X2
      generalize Array.toList _ = ys at hown2
      have hrd := (((((HR.out.alloc (Nat.le_refl _) (.cells #[.slice A es.length c] 26)).alloc (by simp) (.cells #[.int .i64 k, .int .i64 cl, .string bs, .int .i64 a, .int .i64 b, .int .i64 cc, .int .i64 d, .int .u32 t, .int .i64 n] 37)).alloc (by simp; omega) (.cells #[.slice none 0 0] 26)).below (hb1.mono (by simp; omega))).below (hb2.mono (by omega)))
      have HRD := Lib.hid hrd
      clear hrd
      go_wp2_with (with_reducible refine wpList_copy_reads rfl _ _ _ _ rfl w.heap.size 37 9 Tryd.underlying22 entry_size w1.heap.size (es.length + 1) (es.length + 1) es.length c w.heap.size A (flat es) ys rfl rfl hown2 HRD.out (by omega) (flat_one es) ?_)
      intro w3 hown3 hg3
      have hb3 : Below w1.heap.size w2 w3 := grown_below hg3 hs2 (by simp)
      have hs3 := hb3.size
      have X3 := X2.below hb3 (by omega)
      have Y3 := Y2.below hb3 (by omega)
      have Z3 := Z2.below hb3 (by omega)
      obtain ⟨x3, x3'⟩ := box1 X3
      obtain ⟨y0, y1, y2, y3, y4, y5, y6, y7, y8⟩ := box9 Y3
      clear x1 x1' x2 x2'
      have HALL : Hid ((#[.int .i64 k, .int .i64 cl, .string bs, .int .i64 a, .int .i64 b, .int .i64 cc, .int .i64 d, .int .u32 t, .int .i64 n] : Array Value).all (·.oneCell') = true) := all_oneCell_toArray (cells_one ⟨k, cl, bs, a, b, cc, d, t, n⟩)
      go_wp2_with (with_reducible refine wpList_store_own rfl _ _ _ rfl w.heap.size 37 9 w1.heap.size (es.length + 1) (es.length + 1) es.length _ #[.int .i64 k, .int .i64 cl, .string bs, .int .i64 a, .int .i64 b, .int .i64 cc, .int .i64 d, .int .u32 t, .int .i64 n] rfl rfl hown3 (by omega) rfl entry_size HALL.out ?_)
      intro w4 hown4 hg4
      have hb4 : Below w1.heap.size w3 w4 := grown_below hg4 (by omega) (by simp)
      have hs4 := hb4.size
      have Z4 := Z3.below hb4 (by omega)
      obtain ⟨z4, z4'⟩ := box1 Z4
      clear x3 x3' y0 y1 y2 y3 y4 y5 y6 y7 y8
      go_wp2
      have hbw : Below w.heap.size w w4 := ((((((Below.refl _ _).alloc (Nat.le_refl _) _).alloc (by simp) _).alloc (by simp; omega) _).trans (hb1.mono (by simp; omega))).trans (hb2.mono (by omega))).trans ((hb3.mono (by omega)).trans (hb4.mono (by omega)))
      refine bodyPost_ret (v := .tuple #[.agg #[.slice (some ⟨w1.heap.size, 0, none⟩) (es.length + 1) (es.length + 1)], .int .i64 0]) (by simp [results, Tryd.results17, go_sem, z4]) rfl ⟨_, by rw [HA.out], hbw.setCell (by simp; omega) _, ?_⟩
      rw [HD.out]
      have hfl : splice (flat es ++ List.drop (flat es).length ys) (es.length * 9) [.int .i64 k, .int .i64 cl, .string bs, .int .i64 a, .int .i64 b, .int .i64 cc, .int .i64 d, .int .u32 t, .int .i64 n] = flat (es ++ [(⟨k, cl, bs, a, b, cc, d, t, n⟩ : En)]) := by
        rw [← flat_length, splice_end]
        · simp [flat, En.cells]
        · have := hown2.1
          simp only [List.length_drop, this, flat_length, List.length_cons, List.length_nil]
          omega
      rw [hfl] at hown4
      have hfin : (w4.setCell ⟨w.heap.size + 1 + 1, 0, none⟩ (.slice (some ⟨w1.heap.size, 0, none⟩) (es.length + 1) (es.length + 1))).ownsRow w.heap.size 37 9 (.slice (some ⟨w1.heap.size, 0, none⟩) (es.length + 1) (es.length + 1)) (es ++ [(⟨k, cl, bs, a, b, cc, d, t, n⟩ : En)]).length (flat (es ++ [(⟨k, cl, bs, a, b, cc, d, t, n⟩ : En)])) := by
        rw [List.length_append]
        exact (hown4.kept (w' := w4.setCell _ _) (row := some (w.heap.size + 1 + 1)) ⟨rfl, rfl, rfl, by simp, fun j _ hj => heap_setCell_other w4 _ j _ (fun e => hj (by simp [e]))⟩ (.inr (by simp [Value.ownBlock]; omega)))
      exact ⟨Tapes.of_own hfin, fun h => absurd HA.out h, fun _ => hfin⟩
end Go.Proofs.YtlgepoiaolhajaaDoor
