/-
  A tape's Text, walked.
-/
import Derived.Test.YtlgepoiaolhajaaDoorReTxt
namespace Go.Proofs.YtlgepoiaolhajaaDoor
open Go.RowKit

def TextPost (es : List En) (w : World) (r : Ending) (w' : World) : Prop := r = .returned (.string ⟨(textOf es).toArray⟩) ∧ Below w.heap.size w w'

set_option maxHeartbeats 4000000 in
set_option maxRecDepth 100000 in
theorem text_any (es : List En) (v : Value) (w : World) (hv : Tapes w v es) (hm : es.length ≤ 9000) (hok : ∀ e ∈ es, e.wrong = 0 ∧ 0 ≤ e.time) (ht : Tab w) :
    Calls Tryd.prog 13 #[.agg #[v]] w (TextPost es w) := by
  obtain ⟨A, c, rfl, hr⟩ := hv
  have HR := Lib.hid hr
  have HT := Lib.hid ht
  have HOK := Lib.hid hok
  clear hr ht hok
  have hB0 : Bld (w.heap.size + 1) (w.heap.size + 1) [] ((w.alloc (.cells #[.slice A es.length c] 26)).alloc (.cells #[.pointer none, .slice none 0 0] 58)) := by
    refine .inl ⟨Nat.le_refl _, .slice none 0 0, ?_, World.ownsRowF_nil _ _ _ _, by simp [Value.ownBlock]⟩
    have := Box.new (w.alloc (.cells #[.slice A es.length c] 26)) 58 #[.pointer none, .slice none 0 0]
    simpa [Box] using this
  have HB0 := Lib.hid hB0
  clear hB0
  go_enter Tryd.func13, Tryd.ntmps13
  go_wp2
  have hbw0 : Below w.heap.size w ((w.alloc (.cells #[.slice A es.length c] 26)).alloc (.cells #[.pointer none, .slice none 0 0] 58)) := ((Below.refl _ _).alloc (Nat.le_refl _) _).alloc (by simp) _
  have hsz0 : w.heap.size + 2 = ((w.alloc (.cells #[.slice A es.length c] 26)).alloc (.cells #[.pointer none, .slice none 0 0] 58)).heap.size := by simp
  have hle0 : w.heap.size + 1 ≤ ((w.alloc (.cells #[.slice A es.length c] 26)).alloc (.cells #[.pointer none, .slice none 0 0] 58)).heap.size := by omega
  have hT0 : Lib.TabBelow Tryd.prog (w.heap.size + 1) ((w.alloc (.cells #[.slice A es.length c] 26)).alloc (.cells #[.pointer none, .slice none 0 0] 58)) "internal/strconv.uint64pow10" .u64 Lib.pow10Tab :=
    fun w' hb => HT.out.below (hbw0.trans (hb.mono (by omega)))
  clear hsz0
  generalize ((w.alloc (.cells #[.slice A es.length c] 26)).alloc (.cells #[.pointer none, .slice none 0 0] 58)) = w0 at *
  have HT0 := Lib.hid hT0
  clear hT0
  go_loopw [9] (fun i wr => ∃ k : Nat, k ≤ es.length ∧ i = .int .i64 k ∧ Bld (w.heap.size + 1) (w.heap.size + 1) (textOf (es.take k)) wr ∧ Kp (w.heap.size + 1) (w.heap.size + 1) w0 wr) (fun i _ => es.length - (intOf i).toNat)
  case atStart => exact ⟨0, by omega, rfl, by simpa [textOf] using HB0.out, Kp.refl _ _ _⟩
  case round =>
    obtain ⟨k, hk, rfl, hbl, hkp⟩ := hrel
    have hle : w.heap.size + 1 ≤ wr.heap.size := Nat.le_trans hle0 hkp.below.size
    by_cases hlt : k < es.length
    · obtain ⟨bb, o, rfl, hbb, ha⟩ := ((HR.out.below hbw0).below (hkp.below.mono (by omega))).entry rfl hlt
      obtain ⟨hw, htm⟩ := HOK.out es[k] (List.getElem_mem hlt)
      obtain ⟨q1, q2, q3, q4, q5, q6⟩ := wrong_zero hw
      have HS : Hid (textOf (es.take (k + 1)) = textOf (es.take k) ++ es[k].line) := textOf_snoc es k hlt
      have hp : (textOf (es.take k)).length ≤ 1260000000 := by
        have h1 := textOf_length (es.take k) (fun e he => HOK.out e (List.mem_of_mem_take he))
        have h2 : (es.take k).length ≤ 9000 := by rw [List.length_take]; omega
        omega
      generalize es[k] = e at *
      generalize textOf (es.take k) = p at *
      obtain ⟨kk, cl, bs, a, b, cc, d, t, n⟩ := e
      simp only at q1 q2 q3 q4 q5 q6 htm ha
      clear hw
      obtain ⟨a0, a1, a2, a3, a4, a5, a6, a7, a8⟩ := ha
      have hrd : Rd w0 (w.heap.size + 1) (w.heap.size + 1) wr.heap.size ⟨kk, cl, bs, a, b, cc, d, t, n⟩ p (wr.alloc (.cells #[.int .i64 kk, .int .i64 cl, .string bs, .int .i64 a, .int .i64 b, .int .i64 cc, .int .i64 d, .int .u32 t, .int .i64 n] 37)) :=
        ⟨hbl.below ((Below.refl _ _).alloc (Nat.le_refl _) _), Box.new wr _ _, hkp.trans (Kp.of_below ((Below.refl _ _).alloc (Nat.le_refl _) _) hle), by simp; omega, by have := hbl.lt; omega⟩
      have i2 := blanked_length [cl] (by intro z hz; simp at hz; omega)
      simp only [List.length_singleton] at i2
      have i3 : (hexed bs.data.toList).length ≤ 131073 := by
        have hb : bs.data.toList.length = bs.size := by simp
        unfold hexed
        split
        · simp
        · rw [hexOf_length]; omega
      have R0 := hrd
      clear hrd
      simp only at a0 a1 a2 a3 a4 a5 a6 a7 a8
      obtain rfl | rfl | rfl | rfl | rfl : kk = 0 ∨ kk = 1 ∨ kk = 2 ∨ kk = 3 ∨ kk = 4 := by omega
      · have i1 := Lib.itoa_length_le 0 (by omega) (by omega)
        clear q6
        go_wp2_with fail
        refine (itoa_any _ (by omega) (by omega) _ (HT0.out _ R0.kp.below)).mono ?_
        rintro r w1 ⟨rfl, hb1⟩
        have R1 := R0.quiet hb1
        clear R0 hb1
        obtain ⟨x0, x1, x2, x3, x4, x5, x6, x7, x8⟩ := R1.cells
        go_wp2_with fail
        refine (writeString_any (w.heap.size + 1) (w.heap.size + 1) p (Lib.itoa 0) _ R1.bld (by omega) R1.le).mono ?_
        rintro r w2 ⟨rfl, hb2, hk2⟩
        have R2 := R1.wrote hb2 hk2
        clear R1 hb2 hk2
        clear x0 x1 x2 x3 x4 x5 x6 x7 x8
        obtain ⟨x0, x1, x2, x3, x4, x5, x6, x7, x8⟩ := R2.cells
        go_wp2_with (go_at_call 22; refine (ofClient_any _ _).mono ?_; rintro e w' ⟨rfl, rfl⟩)
        refine (writeByte_any (w.heap.size + 1) (w.heap.size + 1) (p ++ Lib.itoa 0) 10 _ R2.bld (by simp only [List.length_append, List.length_singleton]; omega) R2.le).mono ?_
        rintro r w3 ⟨rfl, hb, hk⟩
        have R3 := R2.wrote hb hk
        clear R2 hb hk
        clear x0 x1 x2 x3 x4 x5 x6 x7 x8
        obtain ⟨x0, x1, x2, x3, x4, x5, x6, x7, x8⟩ := R3.cells
        go_wp2
        go_roundw
        case rel => exact ⟨k + 1, by omega, by go_num, by rw [HS.out]; simpa [En.line, En.ofClient] using R3.bld, R3.kp⟩
        case measure => simp [intOf]; omega
      · have i1 := Lib.itoa_length_le 1 (by omega) (by omega)
        clear q6
        go_wp2_with fail
        refine (itoa_any _ (by omega) (by omega) _ (HT0.out _ R0.kp.below)).mono ?_
        rintro r w1 ⟨rfl, hb1⟩
        have R1 := R0.quiet hb1
        clear R0 hb1
        obtain ⟨x0, x1, x2, x3, x4, x5, x6, x7, x8⟩ := R1.cells
        go_wp2_with fail
        refine (writeString_any (w.heap.size + 1) (w.heap.size + 1) p (Lib.itoa 1) _ R1.bld (by omega) R1.le).mono ?_
        rintro r w2 ⟨rfl, hb2, hk2⟩
        have R2 := R1.wrote hb2 hk2
        clear R1 hb2 hk2
        clear x0 x1 x2 x3 x4 x5 x6 x7 x8
        obtain ⟨x0, x1, x2, x3, x4, x5, x6, x7, x8⟩ := R2.cells
        go_wp2_with (go_at_call 22; refine (ofClient_any _ _).mono ?_; rintro e w' ⟨rfl, rfl⟩)
        refine (number_any (w.heap.size + 1) (w.heap.size + 1) w2.heap.size (p ++ Lib.itoa 1) [cl] _ (R2.alloc _).bld (Box.new w2 _ _) (by have := R2.bld.lt; omega) (by intro z hz; simp at hz; omega) (by simp) (by simp only [List.length_append, List.length_singleton]; omega) (R2.alloc _).le (HT0.out.on (R2.alloc _).kp.below)).mono ?_
        rintro r w3 ⟨rfl, hb, hk⟩
        have R3 := (R2.alloc _).wrote hb hk
        clear R2 hb hk
        clear x0 x1 x2 x3 x4 x5 x6 x7 x8
        obtain ⟨x0, x1, x2, x3, x4, x5, x6, x7, x8⟩ := R3.cells
        go_wp2_with fail
        refine (writeByte_any (w.heap.size + 1) (w.heap.size + 1) ((p ++ Lib.itoa 1) ++ blanked [cl]) 32 _ R3.bld (by simp only [List.length_append, List.length_singleton]; omega) R3.le).mono ?_
        rintro r w4 ⟨rfl, hb, hk⟩
        have R4 := R3.wrote hb hk
        clear R3 hb hk
        clear x0 x1 x2 x3 x4 x5 x6 x7 x8
        obtain ⟨x0, x1, x2, x3, x4, x5, x6, x7, x8⟩ := R4.cells
        go_wp2_with fail
        refine (hex_any (w.heap.size + 1) (w.heap.size + 1) (((p ++ Lib.itoa 1) ++ blanked [cl]) ++ [32]) bs _ R4.bld (by omega) (by simp only [List.length_append, List.length_singleton]; omega) R4.le).mono ?_
        rintro r w5 ⟨rfl, hb, hk⟩
        have R5 := R4.wrote hb hk
        clear R4 hb hk
        clear x0 x1 x2 x3 x4 x5 x6 x7 x8
        obtain ⟨x0, x1, x2, x3, x4, x5, x6, x7, x8⟩ := R5.cells
        go_wp2_with fail
        refine (writeByte_any (w.heap.size + 1) (w.heap.size + 1) ((((p ++ Lib.itoa 1) ++ blanked [cl]) ++ [32]) ++ hexed bs.data.toList) 10 _ R5.bld (by simp only [List.length_append, List.length_singleton]; omega) R5.le).mono ?_
        rintro r w6 ⟨rfl, hb, hk⟩
        have R6 := R5.wrote hb hk
        clear R5 hb hk
        clear x0 x1 x2 x3 x4 x5 x6 x7 x8
        obtain ⟨x0, x1, x2, x3, x4, x5, x6, x7, x8⟩ := R6.cells
        go_wp2
        go_roundw
        case rel => exact ⟨k + 1, by omega, by go_num, by rw [HS.out]; simpa [En.line, En.ofClient] using R6.bld, R6.kp⟩
        case measure => simp [intOf]; omega
      · have i1 := Lib.itoa_length_le 2 (by omega) (by omega)
        obtain ⟨z1, z2, z3, z4, z5, z6, z7, z8, z9, z10⟩ := q6 rfl
        clear q6 z10
        have i4 := blanked_length [a, b, cc, d, t] (by intro z hz; simp at hz; omega)
        simp only [List.length_cons, List.length_nil] at i4
        go_wp2_with fail
        refine (itoa_any _ (by omega) (by omega) _ (HT0.out _ R0.kp.below)).mono ?_
        rintro r w1 ⟨rfl, hb1⟩
        have R1 := R0.quiet hb1
        clear R0 hb1
        obtain ⟨x0, x1, x2, x3, x4, x5, x6, x7, x8⟩ := R1.cells
        go_wp2_with fail
        refine (writeString_any (w.heap.size + 1) (w.heap.size + 1) p (Lib.itoa 2) _ R1.bld (by omega) R1.le).mono ?_
        rintro r w2 ⟨rfl, hb2, hk2⟩
        have R2 := R1.wrote hb2 hk2
        clear R1 hb2 hk2
        clear x0 x1 x2 x3 x4 x5 x6 x7 x8
        obtain ⟨x0, x1, x2, x3, x4, x5, x6, x7, x8⟩ := R2.cells
        go_wp2_with (go_at_call 22; refine (ofClient_any _ _).mono ?_; rintro e w' ⟨rfl, rfl⟩)
        refine (number_any (w.heap.size + 1) (w.heap.size + 1) w2.heap.size (p ++ Lib.itoa 2) [a, b, cc, d, t] _ (R2.alloc _).bld (Box.new w2 _ _) (by have := R2.bld.lt; omega) (by intro z hz; simp at hz; omega) (by simp) (by simp only [List.length_append, List.length_singleton]; omega) (R2.alloc _).le (HT0.out.on (R2.alloc _).kp.below)).mono ?_
        rintro r w3 ⟨rfl, hb, hk⟩
        have R3 := (R2.alloc _).wrote hb hk
        clear R2 hb hk
        clear x0 x1 x2 x3 x4 x5 x6 x7 x8
        obtain ⟨x0, x1, x2, x3, x4, x5, x6, x7, x8⟩ := R3.cells
        go_wp2_with fail
        refine (writeByte_any (w.heap.size + 1) (w.heap.size + 1) ((p ++ Lib.itoa 2) ++ blanked [a, b, cc, d, t]) 10 _ R3.bld (by simp only [List.length_append, List.length_singleton]; omega) R3.le).mono ?_
        rintro r w4 ⟨rfl, hb, hk⟩
        have R4 := R3.wrote hb hk
        clear R3 hb hk
        clear x0 x1 x2 x3 x4 x5 x6 x7 x8
        obtain ⟨x0, x1, x2, x3, x4, x5, x6, x7, x8⟩ := R4.cells
        go_wp2
        go_roundw
        case rel => exact ⟨k + 1, by omega, by go_num, by rw [HS.out]; simpa [En.line, En.ofClient] using R4.bld, R4.kp⟩
        case measure => simp [intOf]; omega
      · have i1 := Lib.itoa_length_le 3 (by omega) (by omega)
        clear q6
        go_wp2_with fail
        refine (itoa_any _ (by omega) (by omega) _ (HT0.out _ R0.kp.below)).mono ?_
        rintro r w1 ⟨rfl, hb1⟩
        have R1 := R0.quiet hb1
        clear R0 hb1
        obtain ⟨x0, x1, x2, x3, x4, x5, x6, x7, x8⟩ := R1.cells
        go_wp2_with fail
        refine (writeString_any (w.heap.size + 1) (w.heap.size + 1) p (Lib.itoa 3) _ R1.bld (by omega) R1.le).mono ?_
        rintro r w2 ⟨rfl, hb2, hk2⟩
        have R2 := R1.wrote hb2 hk2
        clear R1 hb2 hk2
        clear x0 x1 x2 x3 x4 x5 x6 x7 x8
        obtain ⟨x0, x1, x2, x3, x4, x5, x6, x7, x8⟩ := R2.cells
        go_wp2_with (go_at_call 22; refine (ofClient_any _ _).mono ?_; rintro e w' ⟨rfl, rfl⟩)
        refine (number_any (w.heap.size + 1) (w.heap.size + 1) w2.heap.size (p ++ Lib.itoa 3) [cl] _ (R2.alloc _).bld (Box.new w2 _ _) (by have := R2.bld.lt; omega) (by intro z hz; simp at hz; omega) (by simp) (by simp only [List.length_append, List.length_singleton]; omega) (R2.alloc _).le (HT0.out.on (R2.alloc _).kp.below)).mono ?_
        rintro r w3 ⟨rfl, hb, hk⟩
        have R3 := (R2.alloc _).wrote hb hk
        clear R2 hb hk
        clear x0 x1 x2 x3 x4 x5 x6 x7 x8
        obtain ⟨x0, x1, x2, x3, x4, x5, x6, x7, x8⟩ := R3.cells
        go_wp2_with fail
        refine (writeByte_any (w.heap.size + 1) (w.heap.size + 1) ((p ++ Lib.itoa 3) ++ blanked [cl]) 10 _ R3.bld (by simp only [List.length_append, List.length_singleton]; omega) R3.le).mono ?_
        rintro r w4 ⟨rfl, hb, hk⟩
        have R4 := R3.wrote hb hk
        clear R3 hb hk
        clear x0 x1 x2 x3 x4 x5 x6 x7 x8
        obtain ⟨x0, x1, x2, x3, x4, x5, x6, x7, x8⟩ := R4.cells
        go_wp2
        go_roundw
        case rel => exact ⟨k + 1, by omega, by go_num, by rw [HS.out]; simpa [En.line, En.ofClient] using R4.bld, R4.kp⟩
        case measure => simp [intOf]; omega
      · have i1 := Lib.itoa_length_le 4 (by omega) (by omega)
        clear q6
        go_wp2_with fail
        refine (itoa_any _ (by omega) (by omega) _ (HT0.out _ R0.kp.below)).mono ?_
        rintro r w1 ⟨rfl, hb1⟩
        have R1 := R0.quiet hb1
        clear R0 hb1
        obtain ⟨x0, x1, x2, x3, x4, x5, x6, x7, x8⟩ := R1.cells
        go_wp2_with fail
        refine (writeString_any (w.heap.size + 1) (w.heap.size + 1) p (Lib.itoa 4) _ R1.bld (by omega) R1.le).mono ?_
        rintro r w2 ⟨rfl, hb2, hk2⟩
        have R2 := R1.wrote hb2 hk2
        clear R1 hb2 hk2
        clear x0 x1 x2 x3 x4 x5 x6 x7 x8
        obtain ⟨x0, x1, x2, x3, x4, x5, x6, x7, x8⟩ := R2.cells
        go_wp2_with (go_at_call 22; refine (ofClient_any _ _).mono ?_; rintro e w' ⟨rfl, rfl⟩)
        refine (number_any (w.heap.size + 1) (w.heap.size + 1) w2.heap.size (p ++ Lib.itoa 4) [cl] _ (R2.alloc _).bld (Box.new w2 _ _) (by have := R2.bld.lt; omega) (by intro z hz; simp at hz; omega) (by simp) (by simp only [List.length_append, List.length_singleton]; omega) (R2.alloc _).le (HT0.out.on (R2.alloc _).kp.below)).mono ?_
        rintro r w3 ⟨rfl, hb, hk⟩
        have R3 := (R2.alloc _).wrote hb hk
        clear R2 hb hk
        clear x0 x1 x2 x3 x4 x5 x6 x7 x8
        obtain ⟨x0, x1, x2, x3, x4, x5, x6, x7, x8⟩ := R3.cells
        go_wp2_with fail
        refine (writeByte_any (w.heap.size + 1) (w.heap.size + 1) ((p ++ Lib.itoa 4) ++ blanked [cl]) 10 _ R3.bld (by simp only [List.length_append, List.length_singleton]; omega) R3.le).mono ?_
        rintro r w4 ⟨rfl, hb, hk⟩
        have R4 := R3.wrote hb hk
        clear R3 hb hk
        clear x0 x1 x2 x3 x4 x5 x6 x7 x8
        obtain ⟨x0, x1, x2, x3, x4, x5, x6, x7, x8⟩ := R4.cells
        go_wp2
        go_roundw
        case rel => exact ⟨k + 1, by omega, by go_num, by rw [HS.out]; simpa [En.line, En.ofClient] using R4.bld, R4.kp⟩
        case measure => simp [intOf]; omega
    · have hkk : k = es.length := by omega
      rw [hkk, List.take_length] at hbl
      clear hkk
      go_wp2_with (go_at_call 26; refine (string_any (w.heap.size + 1) (w.heap.size + 1) (textOf es) _ hbl hle).mono ?_; rintro r w1 ⟨rfl, hb1, hk1⟩)
      go_ret
      exact ⟨rfl, hbw0.trans ((hkp.below.mono (by omega)).trans (hk1.below.mono (by omega)))⟩
end Go.Proofs.YtlgepoiaolhajaaDoor
