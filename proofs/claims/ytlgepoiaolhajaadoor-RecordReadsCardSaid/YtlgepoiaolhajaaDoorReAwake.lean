/-
  The document's example (awake): true.
-/
import Derived.Test.YtlgepoiaolhajaaDoorReTx2
import Derived.Test.YtlgepoiaolhajaaDoorReMade
namespace Go.Proofs.YtlgepoiaolhajaaDoor
open Go.RowKit

def ex1 : En := ⟨0, 0, ⟨#[]⟩, 0, 0, 0, 0, 0, 0⟩
def ex2 : En := ⟨1, 1, ⟨#[108, 1]⟩, 0, 0, 0, 0, 0, 0⟩
def ex3 : En := ⟨2, 0, ⟨#[]⟩, 5, 0, 2, -1, 7, 0⟩
theorem ex1_right : ex1.wrong = 0 := by simp [ex1, En.wrong, En.ofClient, En.noInput, Go.ByteArray.toList_eq, ByteArray.size]
theorem ex2_right : ex2.wrong = 0 := by simp [ex2, En.wrong, En.ofClient, En.noInput, Go.ByteArray.toList_eq, ByteArray.size]
theorem ex3_right : ex3.wrong = 0 := by simp [ex3, En.wrong, En.ofClient, En.noInput, En.right, Go.ByteArray.toList_eq, ByteArray.size]
theorem itoa_digit (n : Nat) (h : n < 10) : Lib.itoa (n : Int) = [UInt8.ofNat (48 + n)] := by rw [Lib.itoa_nonneg, Lib.decDigits_one h]
theorem it0 : Lib.itoa 0 = [48] := itoa_digit 0 (by decide)
theorem it1 : Lib.itoa 1 = [49] := itoa_digit 1 (by decide)
theorem it2 : Lib.itoa 2 = [50] := itoa_digit 2 (by decide)
theorem it5 : Lib.itoa 5 = [53] := itoa_digit 5 (by decide)
theorem it7 : Lib.itoa 7 = [55] := itoa_digit 7 (by decide)
theorem itm1 : Lib.itoa (-1) = [45, 49] := by
  have := Lib.itoa_neg 1 (by decide)
  rw [Lib.decDigits_one (by decide)] at this
  exact this
theorem ex_text : textOf [ex1, ex2, ex3] = [48, 10, 49, 32, 49, 32, 54, 99, 48, 49, 10, 50, 32, 53, 32, 48, 32, 50, 32, 45, 49, 32, 55, 10] := by
  simp [textOf, ex1, ex2, ex3, En.line, En.ofClient, blanked, hexed, hexOf, hexD, it0, it1, it2, it5, it7, itm1]

theorem belowThen' {w W2 w' : World} (h : Below w.heap.size w W2) (hb : Below W2.heap.size W2 w') : Below w.heap.size w w' := h.trans (hb.mono h.size)
def TruePost (w : World) (r : Ending) (w' : World) : Prop := r = .returned (.bool true) ∧ Below w.heap.size w w'

set_option maxHeartbeats 1000000 in
set_option maxRecDepth 100000 in
theorem awake_any (w : World) (ht : Tab w) : Calls Tryd.prog 8 #[] w (TruePost w) := by
  have HT := Lib.hid ht
  clear ht
  have HA : Hid (∀ es e v W, e.wrong = 0 → es.length < 10 → Tapes W v es → Calls Tryd.prog 17 #[.agg #[v], e.val] W fun r W' => ∃ A c, r = .returned (.tuple #[.agg #[.slice A (es ++ [e]).length c], .int .i64 0]) ∧ Below W.heap.size W W' ∧ W'.ownsRow W.heap.size 37 9 (.slice A (es ++ [e]).length c) (es ++ [e]).length (flat (es ++ [e]))) := by
    intro es e v W he hl hv
    refine (add_any es e v W hv (by omega)).mono ?_
    rintro r W' ⟨v', rfl, hb, htp, -, how⟩
    have hc : addCode es e.wrong = 0 := by unfold addCode; rw [he]; simp; omega
    have hd : added es e e.wrong = es ++ [e] := by unfold added; rw [hc, if_pos rfl]
    have how := how hc
    rw [hd] at htp how
    obtain ⟨A, c, rfl, hr⟩ := htp
    exact ⟨A, c, by rw [hc], hb, how⟩
  go_enter Tryd.func8, Tryd.ntmps8
  go_wp2_with fail
  refine (HA.out [] ex1 _ _ ex1_right (by simp) (Tapes.nil _)).mono ?_
  rintro r w1 ⟨A1, c1, rfl, hb1, ht1⟩
  have hn1 : Below w.heap.size w w1 := ((Below.refl _ _).alloc (Nat.le_refl _) _).trans (hb1.mono (by simp))
  have hs1 : w.heap.size + 1 ≤ w1.heap.size := by have := hb1.size; simpa using this
  have X1 := (Box.new w 26 #[.slice none 0 0]).below hb1 (by simp)
  obtain ⟨x1, y1⟩ := box1 X1
  have h1 := own_far (p := ⟨w.heap.size, 0, none⟩) (u := .slice A1 ([] ++ [ex1]).length c1) ht1 (own_box_ne ht1 X1 (by decide))
  have Y1 := X1.set_ 0 (.slice A1 ([] ++ [ex1]).length c1)
  have hm1 := hn1.setCell (p := ⟨w.heap.size, 0, none⟩) (Nat.le_refl _) (.slice A1 ([] ++ [ex1]).length c1)
  have hz1 : w.heap.size + 1 ≤ (w1.setCell ⟨w.heap.size, 0, none⟩ (.slice A1 ([] ++ [ex1]).length c1)).heap.size := by simpa using hs1
  simp only [List.nil_append, List.length_singleton, List.setIfInBounds_toArray, List.set_cons_zero] at h1 Y1 hm1 hz1 ⊢
  have H1 := Lib.hid h1
  clear h1 ht1 hb1
  go_wp2_with fail
  generalize w1.setCell ⟨w.heap.size, 0, none⟩ (.slice A1 1 c1) = W1 at *
  clear x1 y1 X1 hn1 hs1
  refine (HA.out [ex1] ex2 _ _ ex2_right (by simp) (Tapes.of_own H1.out)).mono ?_
  rintro r w2 ⟨A2, c2, rfl, hb2, ht2⟩
  have hn2 := belowThen' hm1 hb2
  have X2 := Y1.below hb2 (by omega)
  obtain ⟨x2, y2⟩ := box1 X2
  have hs2 := hb2.size
  have h2 := own_far (p := ⟨w.heap.size, 0, none⟩) (u := .slice A2 ([ex1] ++ [ex2]).length c2) ht2 (own_box_ne ht2 X2 (by decide))
  have Y2 := X2.set_ 0 (.slice A2 ([ex1] ++ [ex2]).length c2)
  have hm2 := hn2.setCell (p := ⟨w.heap.size, 0, none⟩) (Nat.le_refl _) (.slice A2 ([ex1] ++ [ex2]).length c2)
  have hz2 : w.heap.size + 1 ≤ (w2.setCell ⟨w.heap.size, 0, none⟩ (.slice A2 ([ex1] ++ [ex2]).length c2)).heap.size := by simp; omega
  simp only [List.cons_append, List.nil_append, List.length_cons, List.length_nil, Nat.zero_add, Nat.reduceAdd, List.setIfInBounds_toArray, List.set_cons_zero] at h2 Y2 hm2 hz2 ⊢
  have H2 := Lib.hid h2
  clear h2 ht2 hb2
  go_wp2_with fail
  generalize w2.setCell ⟨w.heap.size, 0, none⟩ (.slice A2 2 c2) = W2 at *
  clear x2 y2 X2 hn2 hs2 Y1 H1 hz1 hm1
  refine (HA.out [ex1, ex2] ex3 _ _ ex3_right (by simp) (Tapes.of_own H2.out)).mono ?_
  rintro r w3 ⟨A3, c3, rfl, hb3, ht3⟩
  have hn3 := belowThen' hm2 hb3
  have X3 := Y2.below hb3 (by omega)
  obtain ⟨x3, y3⟩ := box1 X3
  have hs3 := hb3.size
  have h3 := own_far (p := ⟨w.heap.size, 0, none⟩) (u := .slice A3 ([ex1, ex2] ++ [ex3]).length c3) ht3 (own_box_ne ht3 X3 (by decide))
  have hm3 := hn3.setCell (p := ⟨w.heap.size, 0, none⟩) (Nat.le_refl _) (.slice A3 ([ex1, ex2] ++ [ex3]).length c3)
  simp only [List.cons_append, List.nil_append, List.length_cons, List.length_nil, Nat.zero_add, Nat.reduceAdd] at h3 hm3 ⊢
  have H3 := Lib.hid h3
  clear h3 ht3 hb3
  go_wp2_with fail
  have hT3 := HT.out.below hm3
  refine (text_any [ex1, ex2, ex3] _ _ (Tapes.of_own H3.out) (by simp) ?_ hT3).mono ?_
  · intro e he
    simp at he
    rcases he with rfl | rfl | rfl
    · exact ⟨ex1_right, by decide⟩
    · exact ⟨ex2_right, by decide⟩
    · exact ⟨ex3_right, by decide⟩
  rintro r w4 ⟨rfl, hb4⟩
  rw [ex_text]
  go_wp2
  go_ret
  exact ⟨rfl, belowThen' hm3 hb4⟩
end Go.Proofs.YtlgepoiaolhajaaDoor
