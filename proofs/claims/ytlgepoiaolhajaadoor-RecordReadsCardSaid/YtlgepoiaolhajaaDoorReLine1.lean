/-
  The reference's Line, of an entry of bytes.
-/
import Derived.Test.YtlgepoiaolhajaaDoorReLine
import Derived.Deep.AppendLies
import Derived.Lib.SlBytesConst
namespace Go.Proofs.YtlgepoiaolhajaaDoor
open Go.RowKit
open Go.Lib (byteCells byteCells_length byteCells_append)

set_option maxHeartbeats 400000 in
theorem rhex_any (n : Int) (w : World) (h0 : 0 ≤ n) (h1 : n < 16) :
    Calls Tryd.prog 19 #[.int .u8 n] w fun e w' => e = .returned (.int .u8 ((hexD n.toNat).toNat : Int)) ∧ w = w' := by
  obtain ⟨m, rfl⟩ := Int.eq_ofNat_of_zero_le h0
  have hm : m < 16 := by omega
  have hd : ((hexD m).toNat : Int) = if (m : Int) < 10 then 48 + (m : Int) else 87 + (m : Int) := by
    unfold hexD
    split
    · rw [if_pos (by omega)]; simp; omega
    · rw [if_neg (by omega)]; simp; omega
  rw [Int.toNat_natCast]
  generalize ((hexD m).toNat : Int) = q at *
  have HD := Lib.hid hd
  clear hd
  go_enter Tryd.func19, Tryd.ntmps19
  go_wp2
  · go_ret
    exact ⟨ret_int (by rw [HD.out, if_pos (by omega)]), rfl⟩
  · go_ret
    exact ⟨ret_int (by rw [HD.out, if_neg (by omega)]), rfl⟩

set_option maxHeartbeats 2000000 in
set_option maxRecDepth 100000 in
theorem Line_1 (cl : Int) (bs : ByteArray) (a b c d t n : Int) (w : World) (hcl : 0 ≤ cl ∧ cl ≤ 8) (hbs : bs.size ≤ 65536) :
    Calls Tryd.prog 10 #[En.val ⟨1, cl, bs, a, b, c, d, t, n⟩] w (StrP ⟨(En.line ⟨1, cl, bs, a, b, c, d, t, n⟩).toArray⟩ w) := by
  rw [line_1]
  simp only [En.val]
  obtain ⟨i0, hi, hz0, hz1, hz2⟩ := info_parts byte_info
  have i2 := Lib.itoa_length_le 1 (by omega) (by omega)
  have ic := Lib.itoa_length_le cl (by omega) (by omega)
  have D2 := Lib.hid (fun W => digits_any 1 W (by omega) (by omega))
  have DC := Lib.hid (fun W => digits_any cl W (by omega) (by omega))
  have hbl : bs.data.toList.length = bs.size := by simp
  have ih : (hexed bs.data.toList).length ≤ 131073 := by
    unfold hexed
    split
    · simp
    · rw [hexOf_length]; omega
  generalize hhx : hexed bs.data.toList = hx at *
  have HX := Lib.hid hhx
  clear hhx
  generalize Lib.itoa 1 = l2 at *
  generalize Lib.itoa cl = lc at *
  have f1 : ∀ W, (Op.stringOp .add (ByteArray.mk l2.toArray) (ByteArray.mk #[32])).run Tryd.prog W = .ok (.string (ByteArray.mk (l2 ++ [32]).toArray)) W := fun W => add_run l2 [32] W (by simp only [List.length_singleton]; omega)
  have f2 : ∀ W, (Op.stringOp .add (ByteArray.mk (l2 ++ [32]).toArray) (ByteArray.mk lc.toArray)).run Tryd.prog W = .ok (.string (ByteArray.mk (l2 ++ [32] ++ lc).toArray)) W := fun W => add_run _ lc W (by simp only [List.length_append, List.length_singleton]; omega)
  have f3 : ∀ W, (Op.stringOp .add (ByteArray.mk (l2 ++ [32] ++ lc).toArray) (ByteArray.mk #[32])).run Tryd.prog W = .ok (.string (ByteArray.mk (l2 ++ [32] ++ lc ++ [32]).toArray)) W := fun W => add_run _ [32] W (by simp only [List.length_append, List.length_singleton]; omega)
  have f4 : ∀ W, (Op.stringOp .add (ByteArray.mk (l2 ++ [32] ++ lc ++ [32]).toArray) (ByteArray.mk hx.toArray)).run Tryd.prog W = .ok (.string (ByteArray.mk (l2 ++ [32] ++ lc ++ [32] ++ hx).toArray)) W := fun W => add_run _ hx W (by simp only [List.length_append, List.length_singleton]; omega)
  have f5 : ∀ W, (Op.stringOp .add (ByteArray.mk (l2 ++ [32] ++ lc ++ [32] ++ hx).toArray) (ByteArray.mk #[10])).run Tryd.prog W = .ok (.string (ByteArray.mk (l2 ++ [32] ++ lc ++ [32] ++ hx ++ [10]).toArray)) W := fun W => add_run _ [10] W (by simp only [List.length_append, List.length_singleton]; omega)
  generalize ByteArray.mk (l2 ++ [32] ++ lc ++ [32] ++ hx ++ [10]).toArray = s5 at *
  generalize ByteArray.mk (l2 ++ [32] ++ lc ++ [32] ++ hx).toArray = s4 at *
  generalize ByteArray.mk (l2 ++ [32] ++ lc ++ [32]).toArray = s3 at *
  generalize ByteArray.mk (l2 ++ [32] ++ lc).toArray = s2 at *
  generalize ByteArray.mk (l2 ++ [32]).toArray = s1 at *
  generalize ByteArray.mk l2.toArray = s0 at *
  generalize ByteArray.mk lc.toArray = tc at *
  clear i2 ic
  have HBL := Lib.hid hbl
  clear hbl
  go_enter Tryd.func10, Tryd.ntmps10
  go_wp2_with fail
  refine (D2.out _).mono ?_
  rintro r w1 ⟨rfl, hb1⟩
  have X1 := (Box.new w 35 #[.int .i64 1, .int .i64 cl, .string bs, .int .i64 a, .int .i64 b, .int .i64 c, .int .i64 d, .int .u32 t, .int .i64 n]).below hb1 (by simp)
  have hbw : Below w.heap.size w w1 := ((Below.refl _ _).alloc (Nat.le_refl _) _).trans (hb1.mono (by simp))
  have hs1 := hb1.size
  simp at hs1
  clear hb1
  obtain ⟨x0, x1, x2, x3, x4, x5, x6, x7, x8⟩ := box9 X1
  go_wp2_with fail
  refine (DC.out _).mono ?_
  rintro r w2 ⟨rfl, hb2⟩
  have hbw2 := belowThen hbw hb2
  have hs2 := hb2.size
  clear x0 x1 x2 x3 x4 x5 x6 x7 x8
  have X2 := X1.below hb2 (by omega)
  obtain ⟨x0, x1, x2, x3, x4, x5, x6, x7, x8⟩ := box9 X2
  clear X1 hb2 hbw
  go_wp2_with fail
  go_loopw [5, 6] (fun v i wr => ∃ k g cap : Nat, k ≤ bs.size ∧ i = .int .i64 k ∧ v = .slice (some ⟨g, 0, none⟩) (2 * k) cap ∧ wr.ownsRow w2.heap.size 5 1 (.slice (some ⟨g, 0, none⟩) (2 * k) cap) (2 * k) (byteCells (hexOf (bs.data.toList.take k))) ∧ Below w2.heap.size w2 wr) (fun _ i _ => bs.size - (intOf i).toNat)
  case atStart => exact ⟨0, w2.heap.size, 0, by omega, rfl, rfl, by simpa [hexOf, byteCells] using World.ownsRow_lit (base := w2.heap.size) (e := 5) (size := 1) w2 #[] 0 (Nat.le_refl _) (Nat.zero_le _) rfl, (Below.refl _ _).alloc (Nat.le_refl _) _⟩
  case round =>
    obtain ⟨k, g, cap, hk, rfl, rfl, hown, hbr⟩ := hrel
    clear x0 x1 x2 x3 x4 x5 x6 x7 x8
    have x2 := (X2.below hbr (by omega)).cell 2
    simp only [List.getElem?_toArray, List.getElem?_cons_succ, List.getElem?_cons_zero] at x2
    have hsr := hbr.size
    have hgb := (hown.lt g rfl).1
    by_cases hlt : k < bs.size
    · have hlt' : k < bs.data.toList.length := by simpa using hlt
      have HS : Hid (byteCells (hexOf (bs.data.toList.take (k + 1))) = byteCells (hexOf (bs.data.toList.take k)) ++ [.int .u8 ((hexD (bs[k].toNat / 16)).toNat : Int), .int .u8 ((hexD (bs[k].toNat % 16)).toNat : Int)]) := by
        show _ = _
        rw [hexOf_snoc _ k hlt', byteCells_append]
        rfl
      have hb0 : bs[k].toNat < 256 := bs[k].toNat_lt
      have hk0 : (0 : Int) ≤ (k : Int) := by omega
      have hk1 : (k : Int) < (bs.size : Int) := by omega
      have RA := Lib.hid (fun W => rhex_any ((bs[k].toNat : Int) / 16) W (by omega) (by omega))
      have RB := Lib.hid (fun W => rhex_any ((bs[k].toNat : Int) % 16) W (by omega) (by omega))
      have ea : ((bs[k].toNat : Int) / 16).toNat = bs[k].toNat / 16 := by omega
      have eb : ((bs[k].toNat : Int) % 16).toNat = bs[k].toNat % 16 := by omega
      rw [ea] at RA
      rw [eb] at RB
      clear ea eb
      generalize ((hexD (bs[k].toNat / 16)).toNat : Int) = qa at *
      generalize ((hexD (bs[k].toNat % 16)).toNat : Int) = qb at *
      generalize byteCells (hexOf (bs.data.toList.take k)) = cs at *
      have e1 : IntKind.u8.wrap ((bs[k].toNat : Int) / 16) = (bs[k].toNat : Int) / 16 := by rw [IntKind.wrap_u8]; omega
      have e2 : ((bs[k].toNat : Int)).tmod 16 = (bs[k].toNat : Int) % 16 := Int.tmod_eq_emod_of_nonneg (by omega)
      have hcell := x2
      go_wp2
      go_region_held3 (fun x => x.cell? ⟨w.heap.size, 2, none⟩ = some (.string bs))
        (first | go_keep | (rw [hgrow.cell_far _ (by simp; omega) (by simp [Value.ownBlock]; omega)]; assumption))
        (first
          | (go_at_call 19; first | ((with_reducible refine (RA.out _).mono ?_); rintro r w' ⟨rfl, rfl⟩) | ((with_reducible refine (RB.out _).mono ?_); rintro r w' ⟨rfl, rfl⟩))
          | (refine step_append_lies _ (by rfl) _ _ _ (by rfl) w2.heap.size 5 i0 _ 1 1 Tryd.underlying50 hi hz0 hz1 hz2 rfl (by omega) _ _ _ (by rfl) ((hown.alloc _).drew) ⟨wr.heap.size, 0, none⟩ 2 2 [.int .u8 qa, .int .u8 qb] (by rfl) (by rfl) (World.news_of_block (cs := #[.int .u8 qa, .int .u8 qb]) (t := 5) (fr := (0, 0)) (heap_alloc_new wr _)) (by simp [Value.oneCell']) (by omega) (by simp only [maxLen]; omega) (by omega) (by simp; omega) (wr.heap.size + 1) (by simp) ?_; intro gg cap' w3 hown3 hgrow hat hlt3))
      all_goals
        have HB3 : Hid (Below w2.heap.size w2 w3) := (hbr.trans (((Below.refl _ _).alloc hsr _).drew)).grown hgrow (by simp; omega) (fun j hj => by simp [Value.ownBlock] at hj; omega)
        clear hgrow hcell x2 e1 e2 hown hat
        go_wp2
        go_roundw
        case rel => exact ⟨k + 1, gg, cap', by omega, by go_num, rfl, by rw [HS.out]; exact hown3, HB3.out⟩
        case measure => simp [intOf]; omega
    · have hke : k = bs.size := by omega
      have hke' : k = bs.data.toList.length := by simpa using hke
      rw [hke', List.take_length, ← hke'] at hown
      clear hke'
      by_cases h0 : bs.size = 0
      · obtain rfl : k = 0 := by omega
        have HX0 : Hid (hx = [45]) := by
          show _ = _
          rw [← HX.out]
          unfold hexed
          rw [if_pos (List.eq_nil_of_length_eq_zero (by rw [HBL.out]; omega))]
        have hs0 : (bs.size : Int) ≤ 0 := by omega
        clear hke h0
        rw [HX0.out] at f4
        have hcv : ∀ W : World, (convert 50 9 (.slice (some ⟨W.heap.size, 0, none⟩) 1 1)).run Tryd.prog (W.alloc (.cells #[.int .u8 45] 5 (1, 2))) = .ok (.string ⟨#[45]⟩) (W.alloc (.cells #[.int .u8 45] 5 (1, 2))) :=
          fun W => conv_byte _ W.heap.size 45 (by omega) (by rw [cell_of_row _ W.heap.size 0 _ _ _ (heap_alloc_new W _)]; rfl)
        have kc := fun (w : World) (C : Array Value) (n c : Nat) => Lib.run_convert_bytes_const (P := Tryd.prog) w 50 5 C n c Tryd.underlying50 Tryd.underlying5
        go_wp2
        go_ret
        exact ⟨rfl, belowThen hbw2 ((hbr.alloc hsr _))⟩
      · have HX0 : Hid (hx = hexOf bs.data.toList) := by
          show _ = _
          rw [← HX.out]
          unfold hexed
          rw [if_neg (fun h => h0 (by rw [← HBL.out, h]; rfl))]
        have hs0 : ((2 * k : Nat) : Int) ≠ 0 := by omega
        have hcv : (convert 50 9 (.slice (some ⟨g, 0, none⟩) (2 * k) cap)).run Tryd.prog wr = .ok (.string ⟨hx.toArray⟩) wr := by
          have hlen : (hexOf bs.data.toList).length = 2 * k := by rw [hexOf_length, HBL.out]; omega
          have := run_convert_bytes_back (P := Tryd.prog) wr 50 9 5 ⟨g, 0, none⟩ cap (hexOf bs.data.toList) Tryd.underlying50 Tryd.underlying5 Tryd.underlying9 (fun j hj => by
            refine hown.cells (g := g) rfl j _ ?_
            simp [byteCells, hj])
          rw [hlen] at this
          rw [HX0.out]
          exact this
        have hs1 : (((2 * k : Nat) : Int) == 0) = false := by simpa using hs0
        have hs2 : ((2 * (k : Int)) == 0) = false := by simp; omega
        clear hke h0 hs0
        go_wp2
        go_ret
        exact ⟨rfl, belowThen hbw2 hbr⟩
end Go.Proofs.YtlgepoiaolhajaaDoor
