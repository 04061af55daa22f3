/-
  The reference's Line, of entries that may be: the line.
-/
import Derived.Test.YtlgepoiaolhajaaDoorReDig
import Derived.Deep.RegionHeld3
namespace Go.Proofs.YtlgepoiaolhajaaDoor
open Go.RowKit

theorem belowStep {W2 W w' : World} (h : Below W2.heap.size W2 W) (hb : Below W.heap.size W w') : Below W2.heap.size W2 w' := h.trans (hb.mono h.size)
theorem belowThen {w W2 w' : World} (h : Below w.heap.size w W2) (hb : Below W2.heap.size W2 w') : Below w.heap.size w w' := h.trans (hb.mono h.size)
/-- kinds 0, 3, 4 -/
theorem line_0 (cl : Int) (bs : ByteArray) (a b c d t n : Int) : En.line ⟨0, cl, bs, a, b, c, d, t, n⟩ = Lib.itoa 0 ++ [10] := by simp [En.line, En.ofClient]
theorem line_3 (cl : Int) (bs : ByteArray) (a b c d t n : Int) : En.line ⟨3, cl, bs, a, b, c, d, t, n⟩ = Lib.itoa 3 ++ [32] ++ Lib.itoa cl ++ [10] := by simp [En.line, En.ofClient, blanked]
theorem line_4 (cl : Int) (bs : ByteArray) (a b c d t n : Int) : En.line ⟨4, cl, bs, a, b, c, d, t, n⟩ = Lib.itoa 4 ++ [32] ++ Lib.itoa cl ++ [10] := by simp [En.line, En.ofClient, blanked]
theorem line_1 (cl : Int) (bs : ByteArray) (a b c d t n : Int) : En.line ⟨1, cl, bs, a, b, c, d, t, n⟩ = Lib.itoa 1 ++ [32] ++ Lib.itoa cl ++ [32] ++ hexed bs.data.toList ++ [10] := by simp [En.line, En.ofClient, blanked]
theorem line_2 (cl : Int) (bs : ByteArray) (a b c d t n : Int) : En.line ⟨2, cl, bs, a, b, c, d, t, n⟩ = Lib.itoa 2 ++ [32] ++ Lib.itoa a ++ [32] ++ Lib.itoa b ++ [32] ++ Lib.itoa c ++ [32] ++ Lib.itoa d ++ [32] ++ Lib.itoa t ++ [10] := by simp [En.line, En.ofClient, blanked]

theorem add_run (x y : List UInt8) (W : World) (h : x.length + y.length ≤ 100000000) : (Op.stringOp .add (ByteArray.mk x.toArray) (ByteArray.mk y.toArray)).run Tryd.prog W = .ok (.string (ByteArray.mk (x ++ y).toArray)) W := by
  unfold Op.stringOp
  rw [← str_append]
  have : ¬ (((ByteArray.mk x.toArray).size + (ByteArray.mk y.toArray).size : Nat) : Int) > IntKind.i64.max := by
    simp [ByteArray.size, IntKind.max, IntKind.signed, IntKind.bits]
    omega
  simp only [this, if_false]
  rfl

set_option maxHeartbeats 1000000 in
set_option maxRecDepth 100000 in
theorem Line_2 (cl : Int) (bs : ByteArray) (a b c d t n : Int) (w : World) (ha : -32768 ≤ a ∧ a ≤ 32767) (hb : -32768 ≤ b ∧ b ≤ 32767) (hc : -32768 ≤ c ∧ c ≤ 32767) (hd : -32768 ≤ d ∧ d ≤ 32767) (ht0 : 0 ≤ t) (ht : t < 2147483648) :
    Calls Tryd.prog 10 #[En.val ⟨2, cl, bs, a, b, c, d, t, n⟩] w (StrP ⟨(En.line ⟨2, cl, bs, a, b, c, d, t, n⟩).toArray⟩ w) := by
  rw [line_2]
  simp only [En.val]
  have i2 := Lib.itoa_length_le 2 (by omega) (by omega)
  have ia := Lib.itoa_length_le a (by omega) (by omega)
  have ib := Lib.itoa_length_le b (by omega) (by omega)
  have ic := Lib.itoa_length_le c (by omega) (by omega)
  have id := Lib.itoa_length_le d (by omega) (by omega)
  have it := Lib.itoa_length_le t (by omega) (by omega)
  have DA := Lib.hid (fun W => digits_any a W (by omega) (by omega))
  have DB := Lib.hid (fun W => digits_any b W (by omega) (by omega))
  have DC := Lib.hid (fun W => digits_any c W (by omega) (by omega))
  have DD := Lib.hid (fun W => digits_any d W (by omega) (by omega))
  have DT := Lib.hid (fun W => digits_any t W (by omega) (by omega))
  have D2 := Lib.hid (fun W => digits_any 2 W (by omega) (by omega))
  generalize Lib.itoa 2 = l2 at *
  generalize Lib.itoa a = la at *
  generalize Lib.itoa b = lb at *
  generalize Lib.itoa c = lc at *
  generalize Lib.itoa d = ld at *
  generalize Lib.itoa t = lt at *
  have f1 : ∀ W, (Op.stringOp .add (ByteArray.mk l2.toArray) (ByteArray.mk #[32])).run Tryd.prog W = .ok (.string (ByteArray.mk (l2 ++ [32]).toArray)) W := fun W => add_run (l2) ([32]) W (by simp only [List.length_append, List.length_singleton]; omega)
  have f2 : ∀ W, (Op.stringOp .add (ByteArray.mk (l2 ++ [32]).toArray) (ByteArray.mk la.toArray)).run Tryd.prog W = .ok (.string (ByteArray.mk (l2 ++ [32] ++ la).toArray)) W := fun W => add_run (l2 ++ [32]) (la) W (by simp only [List.length_append, List.length_singleton]; omega)
  have f3 : ∀ W, (Op.stringOp .add (ByteArray.mk (l2 ++ [32] ++ la).toArray) (ByteArray.mk #[32])).run Tryd.prog W = .ok (.string (ByteArray.mk (l2 ++ [32] ++ la ++ [32]).toArray)) W := fun W => add_run (l2 ++ [32] ++ la) ([32]) W (by simp only [List.length_append, List.length_singleton]; omega)
  have f4 : ∀ W, (Op.stringOp .add (ByteArray.mk (l2 ++ [32] ++ la ++ [32]).toArray) (ByteArray.mk lb.toArray)).run Tryd.prog W = .ok (.string (ByteArray.mk (l2 ++ [32] ++ la ++ [32] ++ lb).toArray)) W := fun W => add_run (l2 ++ [32] ++ la ++ [32]) (lb) W (by simp only [List.length_append, List.length_singleton]; omega)
  have f5 : ∀ W, (Op.stringOp .add (ByteArray.mk (l2 ++ [32] ++ la ++ [32] ++ lb).toArray) (ByteArray.mk #[32])).run Tryd.prog W = .ok (.string (ByteArray.mk (l2 ++ [32] ++ la ++ [32] ++ lb ++ [32]).toArray)) W := fun W => add_run (l2 ++ [32] ++ la ++ [32] ++ lb) ([32]) W (by simp only [List.length_append, List.length_singleton]; omega)
  have f6 : ∀ W, (Op.stringOp .add (ByteArray.mk (l2 ++ [32] ++ la ++ [32] ++ lb ++ [32]).toArray) (ByteArray.mk lc.toArray)).run Tryd.prog W = .ok (.string (ByteArray.mk (l2 ++ [32] ++ la ++ [32] ++ lb ++ [32] ++ lc).toArray)) W := fun W => add_run (l2 ++ [32] ++ la ++ [32] ++ lb ++ [32]) (lc) W (by simp only [List.length_append, List.length_singleton]; omega)
  have f7 : ∀ W, (Op.stringOp .add (ByteArray.mk (l2 ++ [32] ++ la ++ [32] ++ lb ++ [32] ++ lc).toArray) (ByteArray.mk #[32])).run Tryd.prog W = .ok (.string (ByteArray.mk (l2 ++ [32] ++ la ++ [32] ++ lb ++ [32] ++ lc ++ [32]).toArray)) W := fun W => add_run (l2 ++ [32] ++ la ++ [32] ++ lb ++ [32] ++ lc) ([32]) W (by simp only [List.length_append, List.length_singleton]; omega)
  have f8 : ∀ W, (Op.stringOp .add (ByteArray.mk (l2 ++ [32] ++ la ++ [32] ++ lb ++ [32] ++ lc ++ [32]).toArray) (ByteArray.mk ld.toArray)).run Tryd.prog W = .ok (.string (ByteArray.mk (l2 ++ [32] ++ la ++ [32] ++ lb ++ [32] ++ lc ++ [32] ++ ld).toArray)) W := fun W => add_run (l2 ++ [32] ++ la ++ [32] ++ lb ++ [32] ++ lc ++ [32]) (ld) W (by simp only [List.length_append, List.length_singleton]; omega)
  have f9 : ∀ W, (Op.stringOp .add (ByteArray.mk (l2 ++ [32] ++ la ++ [32] ++ lb ++ [32] ++ lc ++ [32] ++ ld).toArray) (ByteArray.mk #[32])).run Tryd.prog W = .ok (.string (ByteArray.mk (l2 ++ [32] ++ la ++ [32] ++ lb ++ [32] ++ lc ++ [32] ++ ld ++ [32]).toArray)) W := fun W => add_run (l2 ++ [32] ++ la ++ [32] ++ lb ++ [32] ++ lc ++ [32] ++ ld) ([32]) W (by simp only [List.length_append, List.length_singleton]; omega)
  have f10 : ∀ W, (Op.stringOp .add (ByteArray.mk (l2 ++ [32] ++ la ++ [32] ++ lb ++ [32] ++ lc ++ [32] ++ ld ++ [32]).toArray) (ByteArray.mk lt.toArray)).run Tryd.prog W = .ok (.string (ByteArray.mk (l2 ++ [32] ++ la ++ [32] ++ lb ++ [32] ++ lc ++ [32] ++ ld ++ [32] ++ lt).toArray)) W := fun W => add_run (l2 ++ [32] ++ la ++ [32] ++ lb ++ [32] ++ lc ++ [32] ++ ld ++ [32]) (lt) W (by simp only [List.length_append, List.length_singleton]; omega)
  have f11 : ∀ W, (Op.stringOp .add (ByteArray.mk (l2 ++ [32] ++ la ++ [32] ++ lb ++ [32] ++ lc ++ [32] ++ ld ++ [32] ++ lt).toArray) (ByteArray.mk #[10])).run Tryd.prog W = .ok (.string (ByteArray.mk (l2 ++ [32] ++ la ++ [32] ++ lb ++ [32] ++ lc ++ [32] ++ ld ++ [32] ++ lt ++ [10]).toArray)) W := fun W => add_run (l2 ++ [32] ++ la ++ [32] ++ lb ++ [32] ++ lc ++ [32] ++ ld ++ [32] ++ lt) ([10]) W (by simp only [List.length_append, List.length_singleton]; omega)
  generalize ByteArray.mk (l2 ++ [32] ++ la ++ [32] ++ lb ++ [32] ++ lc ++ [32] ++ ld ++ [32] ++ lt ++ [10]).toArray = s11 at *
  generalize ByteArray.mk (l2 ++ [32] ++ la ++ [32] ++ lb ++ [32] ++ lc ++ [32] ++ ld ++ [32] ++ lt).toArray = s10 at *
  generalize ByteArray.mk (l2 ++ [32] ++ la ++ [32] ++ lb ++ [32] ++ lc ++ [32] ++ ld ++ [32]).toArray = s9 at *
  generalize ByteArray.mk (l2 ++ [32] ++ la ++ [32] ++ lb ++ [32] ++ lc ++ [32] ++ ld).toArray = s8 at *
  generalize ByteArray.mk (l2 ++ [32] ++ la ++ [32] ++ lb ++ [32] ++ lc ++ [32]).toArray = s7 at *
  generalize ByteArray.mk (l2 ++ [32] ++ la ++ [32] ++ lb ++ [32] ++ lc).toArray = s6 at *
  generalize ByteArray.mk (l2 ++ [32] ++ la ++ [32] ++ lb ++ [32]).toArray = s5 at *
  generalize ByteArray.mk (l2 ++ [32] ++ la ++ [32] ++ lb).toArray = s4 at *
  generalize ByteArray.mk (l2 ++ [32] ++ la ++ [32]).toArray = s3 at *
  generalize ByteArray.mk (l2 ++ [32] ++ la).toArray = s2 at *
  generalize ByteArray.mk (l2 ++ [32]).toArray = s1 at *
  generalize ByteArray.mk l2.toArray = s0 at *
  generalize ByteArray.mk la.toArray = ta at *
  generalize ByteArray.mk lb.toArray = tb at *
  generalize ByteArray.mk lc.toArray = tc at *
  generalize ByteArray.mk ld.toArray = td at *
  generalize ByteArray.mk lt.toArray = tt at *
  clear i2 ia ib ic id it
  go_enter Tryd.func10, Tryd.ntmps10
  go_wp2_with (go_at_call 18; refine (D2.out _).mono ?_; rintro r w1 ⟨rfl, hb1⟩; obtain ⟨bc1, bf1⟩ := bcell hb1; simp at bc1 bf1)
  have X2 := Box.new w1 33 #[.int .i64 a, .int .i64 b, .int .i64 c, .int .i64 d, .int .u32 t, .int .i64 n]
  have hbw : Below w.heap.size w (w1.alloc (.cells #[.int .i64 a, .int .i64 b, .int .i64 c, .int .i64 d, .int .u32 t, .int .i64 n] 33)) := (((Below.refl _ _).alloc (Nat.le_refl _) _).trans (hb1.mono (by simp))).alloc (by have := hb1.size; simp at this; omega) _
  have hg : w1.heap.size < (w1.alloc (.cells #[.int .i64 a, .int .i64 b, .int .i64 c, .int .i64 d, .int .u32 t, .int .i64 n] 33)).heap.size := by simp
  clear bc1 bf1
  generalize (w1.alloc (.cells #[.int .i64 a, .int .i64 b, .int .i64 c, .int .i64 d, .int .u32 t, .int .i64 n] 33)) = W2 at *
  generalize w1.heap.size = g at *
  have KS : Hid (∀ x, Below W2.heap.size W2 x → Below W2.heap.size W2 x ∧ x.cell? ⟨g, 0, none⟩ = some (.int .i64 a) ∧ x.cell? ⟨g, 1, none⟩ = some (.int .i64 b) ∧ x.cell? ⟨g, 2, none⟩ = some (.int .i64 c) ∧ x.cell? ⟨g, 3, none⟩ = some (.int .i64 d) ∧ x.cell? ⟨g, 4, none⟩ = some (.int .u32 t)) := by
    intro x hx
    have hX := X2.below hx hg
    exact ⟨hx, hX.cell 0, hX.cell 1, hX.cell 2, hX.cell 3, hX.cell 4⟩
  clear X2
  have et : IntKind.i64.wrap t = t := IntWalk.i64_in _ (by omega)
  clear ha hb hc hd ht0 ht
  go_region_held3 (fun x => Below W2.heap.size W2 x ∧ x.cell? ⟨g, 0, none⟩ = some (.int .i64 a) ∧ x.cell? ⟨g, 1, none⟩ = some (.int .i64 b) ∧ x.cell? ⟨g, 2, none⟩ = some (.int .i64 c) ∧ x.cell? ⟨g, 3, none⟩ = some (.int .i64 d) ∧ x.cell? ⟨g, 4, none⟩ = some (.int .u32 t))
    (first | exact KS.out _ (by assumption) | exact KS.out _ (Below.refl _ _).drew | exact KS.out _ (Below.refl _ _))
    (first | (go_at_call 18; first | ((with_reducible refine (DA.out _).mono ?_); rintro r w' ⟨rfl, hb'⟩; have hB : Below W2.heap.size W2 w' := by first | exact belowStep (by assumption) hb' | exact belowStep (Below.refl _ _).drew hb') | ((with_reducible refine (DB.out _).mono ?_); rintro r w' ⟨rfl, hb'⟩; have hB : Below W2.heap.size W2 w' := by first | exact belowStep (by assumption) hb' | exact belowStep (Below.refl _ _).drew hb') | ((with_reducible refine (DC.out _).mono ?_); rintro r w' ⟨rfl, hb'⟩; have hB : Below W2.heap.size W2 w' := by first | exact belowStep (by assumption) hb' | exact belowStep (Below.refl _ _).drew hb') | ((with_reducible refine (DD.out _).mono ?_); rintro r w' ⟨rfl, hb'⟩; have hB : Below W2.heap.size W2 w' := by first | exact belowStep (by assumption) hb' | exact belowStep (Below.refl _ _).drew hb') | ((with_reducible refine (DT.out _).mono ?_); rintro r w' ⟨rfl, hb'⟩; have hB : Below W2.heap.size W2 w' := by first | exact belowStep (by assumption) hb' | exact belowStep (Below.refl _ _).drew hb')))
  go_wp2
  go_ret
  exact ⟨rfl, belowThen hbw (by assumption)⟩

set_option maxHeartbeats 1000000 in
set_option maxRecDepth 100000 in
theorem Line_0 (cl : Int) (bs : ByteArray) (a b c d t n : Int) (w : World) :
    Calls Tryd.prog 10 #[En.val ⟨0, cl, bs, a, b, c, d, t, n⟩] w (StrP ⟨(En.line ⟨0, cl, bs, a, b, c, d, t, n⟩).toArray⟩ w) := by
  rw [line_0]
  simp only [En.val]
  have i2 := Lib.itoa_length_le 0 (by omega) (by omega)
  have D2 := Lib.hid (fun W => digits_any 0 W (by omega) (by omega))
  generalize Lib.itoa 0 = l2 at *
  have f1 : ∀ W, (Op.stringOp .add (ByteArray.mk l2.toArray) (ByteArray.mk #[10])).run Tryd.prog W = .ok (.string (ByteArray.mk (l2 ++ [10]).toArray)) W := fun W => add_run l2 [10] W (by simp only [List.length_singleton]; omega)
  generalize ByteArray.mk (l2 ++ [10]).toArray = s1 at *
  generalize ByteArray.mk l2.toArray = s0 at *
  go_enter Tryd.func10, Tryd.ntmps10
  go_wp2_with (go_at_call 18; refine (D2.out _).mono ?_; rintro r w1 ⟨rfl, hb1⟩; obtain ⟨bc1, bf1⟩ := bcell hb1; simp at bc1 bf1)
  go_ret
  exact ⟨rfl, (((Below.refl _ _).alloc (Nat.le_refl _) _).trans (hb1.mono (by simp)))⟩

set_option maxHeartbeats 1000000 in
set_option maxRecDepth 100000 in
theorem Line_3 (cl : Int) (bs : ByteArray) (a b c d t n : Int) (w : World) (hcl : 0 ≤ cl ∧ cl ≤ 8) :
    Calls Tryd.prog 10 #[En.val ⟨3, cl, bs, a, b, c, d, t, n⟩] w (StrP ⟨(En.line ⟨3, cl, bs, a, b, c, d, t, n⟩).toArray⟩ w) := by
  rw [line_3]
  simp only [En.val]
  have i2 := Lib.itoa_length_le 3 (by omega) (by omega)
  have ic := Lib.itoa_length_le cl (by omega) (by omega)
  have D2 := Lib.hid (fun W => digits_any 3 W (by omega) (by omega))
  have DC := Lib.hid (fun W => digits_any cl W (by omega) (by omega))
  generalize Lib.itoa 3 = l2 at *
  generalize Lib.itoa cl = lc at *
  have f1 : ∀ W, (Op.stringOp .add (ByteArray.mk l2.toArray) (ByteArray.mk #[32])).run Tryd.prog W = .ok (.string (ByteArray.mk (l2 ++ [32]).toArray)) W := fun W => add_run l2 [32] W (by simp only [List.length_singleton]; omega)
  have f2 : ∀ W, (Op.stringOp .add (ByteArray.mk (l2 ++ [32]).toArray) (ByteArray.mk lc.toArray)).run Tryd.prog W = .ok (.string (ByteArray.mk (l2 ++ [32] ++ lc).toArray)) W := fun W => add_run _ lc W (by simp only [List.length_append, List.length_singleton]; omega)
  have f3 : ∀ W, (Op.stringOp .add (ByteArray.mk (l2 ++ [32] ++ lc).toArray) (ByteArray.mk #[10])).run Tryd.prog W = .ok (.string (ByteArray.mk (l2 ++ [32] ++ lc ++ [10]).toArray)) W := fun W => add_run _ [10] W (by simp only [List.length_append, List.length_singleton]; omega)
  generalize ByteArray.mk (l2 ++ [32] ++ lc ++ [10]).toArray = s3 at *
  generalize ByteArray.mk (l2 ++ [32] ++ lc).toArray = s2 at *
  generalize ByteArray.mk (l2 ++ [32]).toArray = s1 at *
  generalize ByteArray.mk l2.toArray = s0 at *
  generalize ByteArray.mk lc.toArray = tc at *
  clear i2 ic
  go_enter Tryd.func10, Tryd.ntmps10
  go_wp2_with fail
  refine (D2.out _).mono ?_
  rintro r w1 ⟨rfl, hb1⟩
  have X1 := (Box.new w 35 #[.int .i64 3, .int .i64 cl, .string bs, .int .i64 a, .int .i64 b, .int .i64 c, .int .i64 d, .int .u32 t, .int .i64 n]).below hb1 (by simp)
  have hbw : Below w.heap.size w w1 := ((Below.refl _ _).alloc (Nat.le_refl _) _).trans (hb1.mono (by simp))
  have hs1 := hb1.size
  simp at hs1
  clear hb1
  obtain ⟨x0, x1, x2, x3, x4, x5, x6, x7, x8⟩ := box9 X1
  go_wp2_with fail
  refine (DC.out _).mono ?_
  rintro r w2 ⟨rfl, hb2⟩
  clear x0 x1 x2 x3 x4 x5 x6 x7 x8
  obtain ⟨x0, x1, x2, x3, x4, x5, x6, x7, x8⟩ := box9 (X1.below hb2 (by omega))
  go_wp2
  go_ret
  exact ⟨rfl, belowThen hbw hb2⟩

set_option maxHeartbeats 1000000 in
set_option maxRecDepth 100000 in
theorem Line_4 (cl : Int) (bs : ByteArray) (a b c d t n : Int) (w : World) (hcl : 0 ≤ cl ∧ cl ≤ 8) :
    Calls Tryd.prog 10 #[En.val ⟨4, cl, bs, a, b, c, d, t, n⟩] w (StrP ⟨(En.line ⟨4, cl, bs, a, b, c, d, t, n⟩).toArray⟩ w) := by
  rw [line_4]
  simp only [En.val]
  have i2 := Lib.itoa_length_le 4 (by omega) (by omega)
  have ic := Lib.itoa_length_le cl (by omega) (by omega)
  have D2 := Lib.hid (fun W => digits_any 4 W (by omega) (by omega))
  have DC := Lib.hid (fun W => digits_any cl W (by omega) (by omega))
  generalize Lib.itoa 4 = l2 at *
  generalize Lib.itoa cl = lc at *
  have f1 : ∀ W, (Op.stringOp .add (ByteArray.mk l2.toArray) (ByteArray.mk #[32])).run Tryd.prog W = .ok (.string (ByteArray.mk (l2 ++ [32]).toArray)) W := fun W => add_run l2 [32] W (by simp only [List.length_singleton]; omega)
  have f2 : ∀ W, (Op.stringOp .add (ByteArray.mk (l2 ++ [32]).toArray) (ByteArray.mk lc.toArray)).run Tryd.prog W = .ok (.string (ByteArray.mk (l2 ++ [32] ++ lc).toArray)) W := fun W => add_run _ lc W (by simp only [List.length_append, List.length_singleton]; omega)
  have f3 : ∀ W, (Op.stringOp .add (ByteArray.mk (l2 ++ [32] ++ lc).toArray) (ByteArray.mk #[10])).run Tryd.prog W = .ok (.string (ByteArray.mk (l2 ++ [32] ++ lc ++ [10]).toArray)) W := fun W => add_run _ [10] W (by simp only [List.length_append, List.length_singleton]; omega)
  generalize ByteArray.mk (l2 ++ [32] ++ lc ++ [10]).toArray = s3 at *
  generalize ByteArray.mk (l2 ++ [32] ++ lc).toArray = s2 at *
  generalize ByteArray.mk (l2 ++ [32]).toArray = s1 at *
  generalize ByteArray.mk l2.toArray = s0 at *
  generalize ByteArray.mk lc.toArray = tc at *
  clear i2 ic
  go_enter Tryd.func10, Tryd.ntmps10
  go_wp2_with fail
  refine (D2.out _).mono ?_
  rintro r w1 ⟨rfl, hb1⟩
  have X1 := (Box.new w 35 #[.int .i64 4, .int .i64 cl, .string bs, .int .i64 a, .int .i64 b, .int .i64 c, .int .i64 d, .int .u32 t, .int .i64 n]).below hb1 (by simp)
  have hbw : Below w.heap.size w w1 := ((Below.refl _ _).alloc (Nat.le_refl _) _).trans (hb1.mono (by simp))
  have hs1 := hb1.size
  simp at hs1
  clear hb1
  obtain ⟨x0, x1, x2, x3, x4, x5, x6, x7, x8⟩ := box9 X1
  go_wp2_with fail
  refine (DC.out _).mono ?_
  rintro r w2 ⟨rfl, hb2⟩
  clear x0 x1 x2 x3 x4 x5 x6 x7 x8
  obtain ⟨x0, x1, x2, x3, x4, x5, x6, x7, x8⟩ := box9 (X1.below hb2 (by omega))
  go_wp2
  go_ret
  exact ⟨rfl, belowThen hbw hb2⟩
end Go.Proofs.YtlgepoiaolhajaaDoor
