/-
  A grid of one pixel everywhere is read: a place, a row.
  The bytes of a grid of one pixel everywhere.
  The mark of a grid of one pixel everywhere.
  A flat grid's twin; the one rectangle of a region.
  A row of a flat grid is laid on a grid.
  A flat grid is laid whole on a grid of zeros.
  Lay of a flat grid, over the whole, on a grid of zeros.
-/
import Derived.Test.YtpklliedmplpdaaGreatDoorWb
import Derived.Deep.RegionHeld3
import Derived.Lib.ItoaNum
import Derived.Lib.ItoaLen
import Derived.WalkMore
import Derived.LoopN
namespace Go.Proofs.YtpklliedmplpdaaGreatDoor
open Go.RowKit

theorem place_in {a b x y : Int} {n : Nat} (hn : a * b = n) (ha : a ≤ 128) (hb : b ≤ 128) (h1 : 0 ≤ x) (h2 : x < a) (h3 : 0 ≤ y) (h4 : y < b) : ∃ k q : Nat, k < n ∧ n ≤ 16384 ∧ y * a = q ∧ (q : Int) + x = k ∧ q + a ≤ n ∧ q ≤ 16384 := by
  have e1 : 0 ≤ y * a := Int.mul_nonneg h3 (by omega)
  have e2 : y * a ≤ (b - 1) * a := Int.mul_le_mul_of_nonneg_right (by omega) (by omega)
  have e3 : (b - 1) * a = n - a := by rw [Int.sub_mul, Int.one_mul, Int.mul_comm b a, hn]
  have e4 : a * b ≤ 128 * 128 := Int.mul_le_mul ha hb (by omega) (by omega)
  exact ⟨(y * a + x).toNat, (y * a).toNat, by omega, by omega, by omega, by omega, by omega, by omega⟩
set_option maxHeartbeats 1000000 in
set_option maxRecDepth 100000 in
theorem at_flat (a b x y p : Int) (g n : Nat) (w : World) (hf : Flat w g n p) (hn : a * b = n) (ha : a ≤ 128) (hb : b ≤ 128) (h1 : 0 ≤ x) (h2 : x < a) (h3 : 0 ≤ y) (h4 : y < b) :
    Calls Tryz.prog 10 #[gridV a b g n, .int .i64 x, .int .i64 y] w (Ret (.int .u8 p) w) := by
  obtain ⟨k, q, hk, hn2, hq, hqx, _, hq2⟩ := place_in hn ha hb h1 h2 h3 h4
  have hw1 : IntKind.i64.wrap (y * a) = (q : Int) := by rw [hq]; exact IntWalk.i64_in _ (by omega)
  have hw2 : IntKind.i64.wrap ((q : Int) + x) = (k : Int) := by rw [hqx]; exact IntWalk.i64_in _ (by omega)
  have HF := Lib.hid hf
  clear hq hqx hn hf
  unfold gridV pixV
  go_enter Tryz.func10, Tryz.ntmps10
  go_wp2_with (
    go_at_call 31
    refine (has_yes a b x y _ _ h1 h2 h3 h4).mono ?_
    rintro e w1 ⟨rfl, hb1⟩
    obtain ⟨hw1', hs1, x1⟩ := after1 hb1
    obtain ⟨c0, c1, c2, c3⟩ := (box_of x1).deep
    have hc := (HF.out.below hw1' HF.out.lt).cell k hk
    have HW := Lib.hid hw1'
    clear x1 hb1 hw1')
  go_ret
  exact ⟨rfl, HW.out⟩
def byteOf (p : Int) : UInt8 := UInt8.ofNat p.toNat
theorem byteOf_nat {p : Int} (h1 : 0 ≤ p) (h2 : p ≤ 255) : ((byteOf p).toNat : Int) = p := by
  unfold byteOf
  rw [UInt8.toNat_ofNat']
  omega
theorem Tryz.infoByte : (Tryz.prog.info? 5).map (fun i => (i.zero, i.size, i.bytes)) = some (some (.int .u8 0), 1, 1) := by kernel_rfl
/-- A row of like bytes, as a text. -/
theorem conv_flat {w : World} {B g k c : Nat} {p : Int} (h1 : 0 ≤ p) (h2 : p ≤ 255) (h : w.ownsRow B 5 1 (.slice (some ⟨g, 0, none⟩) k c) k (List.replicate k (.int .u8 p))) :
    (convert 116 9 (.slice (some ⟨g, 0, none⟩) k c)).run Tryz.prog w = .ok (.string ⟨(List.replicate k (byteOf p)).toArray⟩) w := by
  have := run_convert_bytes_back (P := Tryz.prog) w 116 9 5 ⟨g, 0, none⟩ c (List.replicate k (byteOf p)) Tryz.underlying116 Tryz.underlying5 Tryz.underlying9 (fun j hj => by
    rw [List.getElem_replicate, byteOf_nat h1 h2]
    have hj' : j < k := by simpa using hj
    exact h.cells rfl j _ (by rw [List.getElem?_replicate, if_pos hj']))
  rw [List.length_replicate] at this
  exact this
set_option maxHeartbeats 1000000 in
set_option maxRecDepth 100000 in
theorem row_flat (a : Nat) (b y p : Int) (g n : Nat) (w : World) (hf : Flat w g n p) (hn : (a : Int) * b = n) (ha1 : 1 ≤ a) (ha : a ≤ 128) (hb : b ≤ 128) (h3 : 0 ≤ y) (h4 : y < b) (hp1 : 0 ≤ p) (hp2 : p ≤ 255) :
    Calls Tryz.prog 58 #[gridV a b g n, .int .i64 y] w (Ret (.string ⟨(List.replicate a (byteOf p)).toArray⟩) w) := by
  obtain ⟨i0, hi, hz0, hz1, hz2⟩ := info_parts Tryz.infoByte
  obtain ⟨k0, q, hk0, hn2, hq, _, hqa, hq2⟩ := place_in (x := 0) hn (by omega) hb (Int.le_refl _) (by omega) h3 h4
  have hw1 : IntKind.i64.wrap (y * (a : Int)) = (q : Int) := by rw [hq]; exact IntWalk.i64_in _ (by omega)
  have hw2 : IntKind.i64.wrap ((y + 1) * (a : Int)) = (q : Int) + a := by rw [Int.add_mul, Int.one_mul, hq]; exact IntWalk.i64_in _ (by omega)
  have HF := Lib.hid hf
  clear hq hn hf
  unfold gridV pixV
  go_enter Tryz.func58, Tryz.ntmps58
  go_wp2_with (at_make; refine wpList_make_own _ rfl _ _ 116 rfl (w.heap.size + 1) 5 i0 _ 1 Tryz.underlying116 hi hz0 hz1 .i64 .i64 _ a rfl rfl ?c1 ?c3 ?c4 ?c5 ?_)
  case c1 => rfl
  case c3 => omega
  case c4 => simp only [maxLen]; omega
  intro w2 hown2 hg2
  have ea : (w.alloc (.cells #[.int .i64 a, .int .i64 b, .slice (some ⟨g, 0, none⟩) n n] 86)).heap.size = w.heap.size + 1 := by simp
  have hb2 := grown_below hg2 (Nat.le_refl _) (by simp)
  rw [ea] at hb2
  have hs2 := hb2.size
  rw [ea] at hs2
  have HW2 : Hid (Below w.heap.size w w2) := (Below.new1 w _).trans (hb2.mono (by omega))
  obtain ⟨c0, c1, c2, c3⟩ := ((Box.new w 86 #[.int .i64 a, .int .i64 b, .slice (some ⟨g, 0, none⟩) n n]).below hb2 (by omega)).deep
  have HO := Lib.hid hown2
  clear hown2 hg2 hb2 ea
  have hF2 := fun j hj => (HF.out.below HW2.out HF.out.lt).cell j hj
  have HFC := Lib.hid hF2
  clear hF2
  go_wp2
  rw [Nat.add_sub_cancel_left]
  go_loopw [5, 32] (fun v i wr => ∃ k : Nat, k ≤ a ∧ i = .int .i64 k ∧ v = .slice (some ⟨w.heap.size + 1, 0, none⟩) k a ∧ wr.ownsRow (w.heap.size + 1) 5 1 (.slice (some ⟨w.heap.size + 1, 0, none⟩) k a) k (List.replicate k (.int .u8 p)) ∧ Below (w.heap.size + 1) w2 wr) (fun _ i _ => a - (intOf i).toNat)
  case atStart => exact ⟨0, by omega, rfl, rfl, by simpa using HO.out, Below.refl _ _⟩
  case round =>
    obtain ⟨k, hk, rfl, rfl, hown, hbr⟩ := hrel
    have hsr := hbr.size
    have HOWN := Lib.hid hown
    have HBR := Lib.hid hbr
    rcases Nat.lt_or_ge k a with hlt | hge
    · have hc : wr.cell? ⟨g, q + k, none⟩ = some (.int .u8 p) := by
        rw [World.cell?_of_block (w := w2) (hbr.block g (Nat.lt_of_lt_of_le HF.out.lt (by omega)))]
        exact HFC.out _ (by omega)
      clear hown hbr
      go_wp2_with (at_builtin; refine wpList_append_fits _ rfl _ _ 116 rfl (w.heap.size + 1) 5 i0 1 Tryz.underlying116 hi hz1 (w.heap.size + 1) k a _ rfl (HOWN.out.alloc _) ⟨wr.heap.size, 0, none⟩ 1 1 [.int .u8 p] rfl rfl (cell_one_new _ _ _) (by intro u hu; simp at hu; subst hu; rfl) (by omega) ?_)
      intro w3 hown3 hg3
      have HO3 := Lib.hid hown3
      have HB3 : Hid (Below (w.heap.size + 1) w2 w3) := ((HBR.out.alloc (by omega) _).grown hg3 (by simp; omega) (fun j hj => by injection hj with hj; omega))
      clear hown3 hg3
      go_wp2
      go_roundw
      case rel => exact ⟨k + 1, by omega, by go_num, rfl, by rw [List.replicate_succ']; exact HO3.out, HB3.out⟩
      case measure => simp [intOf]; omega
    · obtain rfl : k = a := by omega
      have hcv := conv_flat hp1 hp2 hown
      clear hown hbr
      go_wp2
      go_ret
      exact ⟨rfl, HW2.out.trans (HBR.out.mono (by omega))⟩
end Go.Proofs.YtpklliedmplpdaaGreatDoor
namespace Go.Proofs.YtpklliedmplpdaaGreatDoor
open Go.RowKit

/-- copy(row, text), the row known whole. -/
theorem run_copy_str {P : Program} (w : World) (dT sT ty elem : TypeId) (g o dLen dCap : Nat) (s : ByteArray) (cur : Array Value) (t : TypeId) (hu : P.underlying dT = some (.slice elem)) (hs : (P.info? elem).map (·.size) = some 1)
    (hg : w.heap[g]? = some (.cells cur t (0, 0))) (hn : s.size ≤ dLen) (hfit : o + s.size ≤ cur.size) :
    (Builtin.copy_ #[dT, sT] ty #[.slice (some ⟨g, o, none⟩) dLen dCap, .string s]).run P w =
      .ok (goInt s.size) (w.setRow g (cur.toList.take o ++ s.data.toList.map (fun b => Value.int .u8 b.toNat) ++ cur.toList.drop (o + s.size)).toArray) := by
  have hlen : (s.data.toList.map (fun b => Value.int .u8 b.toNat)).length = s.size := by simp
  have hst := run_storeCells_at P g o t (s.data.toList.map (fun b => Value.int .u8 b.toNat)) 0 cur w hg (by rw [hlen]; omega) (by intro v hv; obtain ⟨b, _, rfl⟩ := List.mem_map.1 hv; rfl)
  rw [hlen] at hst
  have hmin : Nat.min s.size dLen = s.size := Nat.min_eq_left hn
  have hex : ((s.extract 0 s.size).data.map fun b => Value.int .u8 b.toNat).toList = s.data.toList.map (fun b => Value.int .u8 b.toNat) := by
    rw [show s.extract 0 s.size = s from by simp]
    simp
  cases hq : P.info? elem with
  | none => simp [hq] at hs
  | some i =>
    have hi : i.size = 1 := by simpa [hq] using hs
    simp [Builtin.copy_, run_underlying hu, Builtin.lenOf, Builtin.firstCells, sizeOf, typeInfo, hq, hmin]
    rw [List.take_of_length_le (by rw [hlen]; omega), hst]
    simp
theorem step_copy_str {P : Program} (w : World) {ops : Array Oper} {o : Oper} {a : Act} {K : Act → World → Prop} {Q : Exit → Act → World → Prop} {E : Prop} (hgd : o.guard = none) (d s : Operand) (dT sT : TypeId)
    (ho : o.op = .call { callee := .builtin .copy, args := #[d, s], argTypes := #[dT, sT] }) (elem g off dLen dCap : Nat) (str : ByteArray) (cur : Array Value) (t : TypeId) (hu : P.underlying dT = some (.slice elem)) (hsz : (P.info? elem).map (·.size) = some 1)
    (hd : a.eval d = .slice (some ⟨g, off, none⟩) dLen dCap) (hs : a.eval s = .string str) (hg : w.heap[g]? = some (.cells cur t (0, 0))) (hn : str.size ≤ dLen) (hfit : off + str.size ≤ cur.size)
    (new : Array Value) (hnew : (cur.toList.take off ++ str.data.toList.map (fun b => Value.int .u8 b.toNat) ++ cur.toList.drop (off + str.size)).toArray = new)
    (h : ∀ w', Box w' g t new → w.grownBy w' (some g) → K (a.put o.dst (goInt str.size)) w') :
    if Region.wanted o (yielded ops a.tmps) = true then Oper.wp P o a w K Q else E := by
  have hw : Region.wanted o (yielded ops a.tmps) = true := by simp [Region.wanted, hgd]
  rw [if_pos hw]
  have hrun := run_copy_str (P := P) w dT sT o.type elem g off dLen dCap str cur t hu hsz hg hn hfit
  unfold Oper.wp execOp
  simp only [ho, resolve, invoke, builtin, Sem.run_bind, Sem.run_pure, Result.andThen_ok, List.map_toArray, List.map_cons, List.map_nil, hd, hs, hrun]
  rw [hnew]
  exact h _ (setRow_heap w g cur _ t _ hg) ⟨rfl, rfl, rfl, by simp [World.setRow], fun k _ hk => setRow_other w g k _ (fun e => hk (by simp [e]))⟩
theorem own_block {w : World} {B g n : Nat} {e : TypeId} {xs : List Value} (h : w.ownsRow B e 1 (.slice (some ⟨g, 0, none⟩) n n) n xs) : w.heap[g]? = some (.cells xs.toArray e (0, 0)) := by
  rcases h.2 with ⟨h', _⟩ | ⟨g', cap', cur, h', _, hg, hle, _, hsz, ht⟩
  · simp at h'
  · simp only [Value.slice.injEq, Option.some.injEq, Addr.mk.injEq, and_true, true_and] at h'
    obtain ⟨rfl, rfl⟩ := h'
    rw [hg]
    have : cur = xs.toArray := by
      apply Array.ext'
      rw [← ht, List.take_of_length_le (by simp at hsz ⊢; omega)]
    rw [this]
def mixA (n q : Nat) (x y : Value) : Array Value := (List.replicate q x ++ List.replicate (n - q) y).toArray
theorem mixA_size {n q : Nat} {x y : Value} (h : q ≤ n) : (mixA n q x y).size = n := by simp [mixA]; omega
theorem mixA_next {n q a : Nat} {p : Int} {y : Value} (hp1 : 0 ≤ p) (hp2 : p ≤ 255) (h : q + a ≤ n) :
    ((mixA n q (.int .u8 p) y).toList.take q ++ (List.replicate a (byteOf p)).toArray.toList.map (fun b => Value.int .u8 b.toNat) ++ (mixA n q (.int .u8 p) y).toList.drop (q + (⟨(List.replicate a (byteOf p)).toArray⟩ : ByteArray).size)).toArray = mixA n (q + a) (.int .u8 p) y := by
  simp only [mixA, List.map_replicate, byteOf_nat hp1 hp2, ByteArray.size, List.size_toArray, List.length_replicate]
  congr 1
  rw [List.take_left' (by simp), ← List.drop_drop, List.drop_left' (by simp), List.drop_replicate, List.replicate_append_replicate]
  congr 2
  omega
set_option maxHeartbeats 2000000 in
set_option maxRecDepth 100000 in
theorem pack_flat (a b : Nat) (p : Int) (g n : Nat) (w : World) (hf : Flat w g n p) (hn : a * b = n) (ha1 : 1 ≤ a) (ha : a ≤ 128) (hb : b ≤ 128) (hp1 : 0 ≤ p) (hp2 : p ≤ 255) :
    Calls Tryz.prog 140 #[gridV a b g n] w (Ret (.string ⟨(List.replicate n (byteOf p)).toArray⟩) w) := by
  obtain ⟨i0, hi, hz0, hz1, hz2⟩ := info_parts Tryz.infoByte
  have hn1 : n ≤ 16384 := by rw [← hn]; exact Nat.mul_le_mul ha hb
  have hni : (a : Int) * (b : Int) = (n : Int) := by rw [← hn]; simp
  have hw0 : IntKind.i64.wrap ((a : Int) * (b : Int)) = (n : Int) := by rw [hni]; exact IntWalk.i64_in _ (by omega)
  have HROW : Hid (∀ (k : Nat) (x : World), k < b → Flat x g n p → Calls Tryz.prog 58 #[gridV a b g n, .int .i64 k] x (Ret (.string ⟨(List.replicate a (byteOf p)).toArray⟩) x)) :=
    fun k x hk hfx => row_flat a b k p g n x hfx hni ha1 ha (by omega) (by omega) (by omega) hp1 hp2
  have hgl := hf.lt
  have HF := Lib.hid hf
  clear hf hni
  unfold gridV pixV at *
  go_enter Tryz.func140, Tryz.ntmps140
  go_wp2_with (first
    | (go_at_call 9
       refine (size_any _ _ _ _).mono ?_
       rintro e w1 ⟨rfl, hb1⟩
       obtain ⟨hw1', hs1, x1⟩ := after1 hb1
       have HX := Lib.hid (box_of x1)
       have HW := Lib.hid hw1'
       clear x1 hb1 hw1')
    | (at_make; refine wpList_make_full _ rfl _ _ 116 rfl w1.heap.size 5 i0 _ 1 Tryz.underlying116 hi hz0 hz1 .i64 .i64 _ _ n rfl rfl ?c1 ?c2 ?c3 ?c4 ?c5 ?_))
  case c1 => rfl
  case c2 => rfl
  case c3 => rw [hz2]; omega
  case c4 => simp only [maxLen]; omega
  case c5 => exact Nat.le_refl _
  intro w2 hown2 hg2
  rw [toList_madeCells_one] at hown2
  have hb2 := grown_below hg2 (Nat.le_refl _) (by simp)
  have hs2 := hb2.size
  have hl2 := hown2.lt w1.heap.size rfl
  have HX2 := Lib.hid (HX.out.below hb2 (by omega))
  have HW2 := Lib.hid (HW.out.trans (hb2.mono (by omega)))
  have HO2 := Lib.hid (own_block hown2)
  have HF2 := Lib.hid (HF.out.below HW2.out HF.out.lt)
  clear hown2 hg2 hb2 HX HW HF
  go_wp2
  go_loopw [6, 17] (fun _ i wr => ∃ k : Nat, k ≤ b ∧ i = .int .i64 k ∧ Box wr w1.heap.size 5 (mixA n (k * a) (.int .u8 p) (.int .u8 0)) ∧ Below w1.heap.size w2 wr) (fun _ i _ => b - (intOf i).toNat)
  case atStart => exact ⟨0, by omega, rfl, by simpa [mixA, Box] using HO2.out, Below.refl _ _⟩
  case round =>
    obtain ⟨k, hk, rfl, hbx, hbr⟩ := hrel
    have hsr := hbr.size
    have HBX := Lib.hid hbx
    have HBR := Lib.hid hbr
    have HXr := Lib.hid (HX2.out.below hbr (by omega))
    clear hbx hbr
    rcases Nat.lt_or_ge k b with hlt | hge
    · have hka : (k + 1) * a ≤ n := by rw [← hn, Nat.mul_comm a b]; exact Nat.mul_le_mul_right a (by omega)
      have e1 : (k + 1) * a = k * a + a := by rw [Nat.add_mul, Nat.one_mul]
      obtain ⟨q, hq⟩ : ∃ q, q = k * a := ⟨_, rfl⟩
      rw [← hq] at e1 HBX
      have E1 := Lib.hid e1
      have hw1 : IntKind.i64.wrap ((k : Int) * (a : Int)) = (q : Int) := by rw [hq, Int.natCast_mul]; exact IntWalk.i64_in _ (by rw [← Int.natCast_mul, ← hq]; omega)
      rw [e1] at hka
      have x0 := HXr.out.cell 0
      have x1 := HXr.out.cell 1
      have x2 := HXr.out.cell 2
      simp at x0 x1 x2
      have HFr := Lib.hid (HF2.out.below HBR.out (by omega))
      have HR := HROW.out k
      have hq0 : (0 : Int) ≤ (q : Int) := by omega
      have hq1 : (q : Int) ≤ (n : Int) := by omega
      have hq3 : q ≤ n := by omega
      have hq4 : ¬ n = q := by omega
      have HRow : Hid (∀ x : World, Below wr.heap.size wr x → Calls Tryz.prog 58 #[.agg #[.int .i64 a, .int .i64 b, .slice (some ⟨g, 0, none⟩) n n], .int .i64 k] x (Ret (.string ⟨(List.replicate a (byteOf p)).toArray⟩) x)) := fun x hx => HR x hlt (HFr.out.keep hx)
      clear HR hq e1
      go_wp2
      go_region_held3 (fun x => x.cell? ⟨w.heap.size, 0, none⟩ = some (.int .i64 a) ∧ x.cell? ⟨w.heap.size, 1, none⟩ = some (.int .i64 b) ∧ x.cell? ⟨w.heap.size, 2, none⟩ = some (.slice (some ⟨g, 0, none⟩) n n))
        (first | exact ⟨z0, z1, z2⟩ | go_keep)
        (first
          | (go_at_call 58
             refine (HRow.out _ (Below.refl _ _).drew).mono ?_
             rintro e w5 ⟨rfl, hb5⟩
             have hB5 : Below wr.heap.size wr w5 := (Below.refl _ _).drew.trans hb5
             have hs5 := hB5.size
             have c5 := (HXr.out.below hB5 (by omega)).cell
             have HB5 := Lib.hid (HBX.out.below hB5 (by omega)))
          | (refine step_copy_str _ (by rfl) _ _ _ _ (by rfl) 5 w1.heap.size q (n - q) (n - q) _ _ _ Tryz.underlying116 (by kernel_rfl) (by rfl) (by rfl) HB5.out (by simp only [ByteArray.size, Array.size_replicate, List.size_toArray, List.length_replicate]; omega) (by rw [mixA_size (by omega)]; simp only [ByteArray.size, Array.size_replicate, List.size_toArray, List.length_replicate]; omega) (mixA n (q + a) (.int .u8 p) (.int .u8 0)) (by simpa using mixA_next (y := .int .u8 0) hp1 hp2 hka) ?_
             intro w6 hb6 hg6
             have HB6 := Lib.hid hb6
             have z0 : w6.cell? ⟨w.heap.size, 0, none⟩ = some (.int .i64 a) := by rw [hg6.cell_far _ (by simp; omega) (by simp; omega)]; exact c5 0
             have z1 : w6.cell? ⟨w.heap.size, 1, none⟩ = some (.int .i64 b) := by rw [hg6.cell_far _ (by simp; omega) (by simp; omega)]; exact c5 1
             have z2 : w6.cell? ⟨w.heap.size, 2, none⟩ = some (.slice (some ⟨g, 0, none⟩) n n) := by rw [hg6.cell_far _ (by simp; omega) (by simp; omega)]; exact c5 2
             have HG6 := Lib.hid hg6
             clear hb6 hg6))
      have HW6 : Hid (Below w1.heap.size w2 w6) := (HBR.out.trans (hB5.mono (by omega))).grown HG6.out (by omega) (fun j hj => by injection hj with hj; omega)
      clear z0 z1 z2 c5 hB5
      go_wp2
      go_roundw
      case rel => exact ⟨k + 1, by omega, by go_num, by rw [E1.out]; exact HB6.out, HW6.out⟩
      case measure => simp [intOf]; omega
    · obtain rfl : k = b := by omega
      have hkn : k * a = n := by rw [Nat.mul_comm]; exact hn
      rw [hkn] at HBX
      have hcv : (convert 116 9 (.slice (some ⟨w1.heap.size, 0, none⟩) n n)).run Tryz.prog wr = .ok (.string ⟨(List.replicate n (byteOf p)).toArray⟩) wr := by
        have := run_convert_bytes_back (P := Tryz.prog) wr 116 9 5 ⟨w1.heap.size, 0, none⟩ n (List.replicate n (byteOf p)) Tryz.underlying116 Tryz.underlying5 Tryz.underlying9 (fun j hj => by
          have hj' : j < n := by simpa using hj
          have hadd : (⟨w1.heap.size, 0, none⟩ : Addr).add j = ⟨w1.heap.size, j, none⟩ := by unfold Addr.add; split <;> simp_all
          rw [hadd, HBX.out.cell j, List.getElem_replicate, byteOf_nat hp1 hp2]
          simp [mixA, hj'])
        rw [List.length_replicate] at this
        exact this
      have HW6 : Hid (Below w.heap.size w wr) := HW2.out.trans (HBR.out.mono (by omega))
      clear hkn
      go_wp2
      go_ret
      exact ⟨rfl, HW6.out⟩
end Go.Proofs.YtpklliedmplpdaaGreatDoor
namespace Go.Proofs.YtpklliedmplpdaaGreatDoor
open Go.RowKit

def markF (p : Int) : Nat → Int
  | 0 => 0
  | k + 1 => (31 * markF p k + p) % 1000003
theorem markF_range (p : Int) (k : Nat) : 0 ≤ markF p k ∧ markF p k < 1000003 := by
  cases k with
  | zero => simp [markF]
  | succ k => simp only [markF]; omega
theorem flatS (n : Nat) (p : Int) (hp1 : 0 ≤ p) (hp2 : p ≤ 255) : ∃ s : ByteArray, (⟨(List.replicate n (byteOf p)).toArray⟩ : ByteArray) = s ∧ s.size = n ∧ ∀ k (h : k < s.size), ((s[k]'h).toNat : Int) = p := by
  refine ⟨_, rfl, by simp [ByteArray.size], fun k h => ?_⟩
  show (((List.replicate n (byteOf p)).toArray[k]'(by simpa [ByteArray.size] using h)).toNat : Int) = p
  simp [byteOf_nat hp1 hp2]
set_option maxHeartbeats 1000000 in
set_option maxRecDepth 100000 in
theorem mark_flat (a b : Nat) (p : Int) (g n : Nat) (w : World) (hf : Flat w g n p) (hn : a * b = n) (ha1 : 1 ≤ a) (ha : a ≤ 128) (hb : b ≤ 128) (hp1 : 0 ≤ p) (hp2 : p ≤ 255) :
    Calls Tryz.prog 91 #[gridV a b g n] w (Ret (.int .i64 (markF p n)) w) := by
  have hn1 : n ≤ 16384 := by rw [← hn]; exact Nat.mul_le_mul ha hb
  have HP : Hid (∀ x : World, Below w.heap.size w x → Calls Tryz.prog 140 #[gridV a b g n] x (Ret (.string ⟨(List.replicate n (byteOf p)).toArray⟩) x)) := fun x hx => pack_flat a b p g n x (hf.keep hx) hn ha1 ha hb hp1 hp2
  obtain ⟨str, hs, hsz, hget⟩ := flatS n p hp1 hp2
  rw [hs] at HP
  clear hs hf hn
  unfold gridV pixV at *
  go_enter Tryz.func91, Tryz.ntmps91
  go_wp2_with (
    go_at_call 140
    refine (HP.out _ (Below.new1 w _)).mono ?_
    rintro e w1 ⟨rfl, hb1⟩
    have HW : Hid (Below w.heap.size w w1) := (Below.new1 w _).trans (hb1.mono (by simp))
    clear hb1)
  go_loopw [3, 5, 10] (fun m _ i wr => ∃ k : Nat, k ≤ n ∧ i = .int .i64 k ∧ m = .int .i64 (markF p k) ∧ wr = w1) (fun _ _ i _ => n - (intOf i).toNat)
  case atStart => exact ⟨0, by omega, rfl, rfl, rfl⟩
  case round =>
    obtain ⟨k, hk, rfl, rfl, rfl⟩ := hrel
    rcases Nat.lt_or_ge k n with hlt | hge
    · have hlt' : k < str.size := by omega
      have hg := hget k hlt'
      have hr := markF_range p k
      have hE : Hid (markF p (k + 1) = (31 * markF p k + p) % 1000003) := rfl
      generalize markF p k = m at *
      obtain ⟨m', hm'⟩ : ∃ m', markF p (k + 1) = m' := ⟨_, rfl⟩
      have HM1 := Lib.hid hm'
      rw [hm'] at hE
      clear hm'
      go_wp2
      rw [← hE.out]
      exact ⟨⟨k + 1, by omega, by go_num, by rw [HM1.out], trivial⟩, by simp [intOf]; omega⟩
    · obtain rfl : k = n := by omega
      go_wp2
      go_ret
      exact ⟨rfl, HW.out⟩
/-- The bytes of a text of like bytes. -/
theorem bytes_flat (w : World) (str : ByteArray) (n : Nat) (p : Int) (hsz : str.size = n) (hget : ∀ k (h : k < str.size), ((str[k]'h).toNat : Int) = p) :
    ∃ c W, (convert 9 116 (.string str)).run Tryz.prog w = .ok (.slice (some ⟨w.heap.size, 0, none⟩) n c) W ∧ Below w.heap.size w W ∧ ∀ k, k < n → W.cell? ⟨w.heap.size, k, none⟩ = some (.int .u8 p) := by
  have hrun := run_bytes_of_string (P := Tryz.prog) w 9 116 5 str Tryz.underlying9 Tryz.underlying116 Tryz.underlying5
  rw [hsz] at hrun
  refine ⟨_, _, hrun, ?_, fun k hk => ?_⟩
  · exact (Below.refl _ _).drew.alloc (Nat.le_refl _) _
  · have hk' : k < str.data.size := by have : str.data.size = str.size := rfl; omega
    have h1 := heap_alloc_new w.drew (.cells (bytesRow str (grownCap w n 0 5)) 5 ((bytesRow str (grownCap w n 0 5)).size, (bytesRow str (grownCap w n 0 5)).size + 1))
    have h2 := cell_of_row _ w.heap.size k _ _ _ h1
    rw [h2, bytesRow_at str _ k hk']
    have := hget k (by omega)
    exact congrArg (fun z => some (Value.int .u8 z)) this
set_option maxHeartbeats 1000000 in
set_option maxRecDepth 100000 in
theorem lmark_flat (a b : Nat) (p : Int) (g n : Nat) (w : World) (hf : Flat w g n p) (hn : a * b = n) (ha1 : 1 ≤ a) (ha : a ≤ 128) (hb : b ≤ 128) (hp1 : 0 ≤ p) (hp2 : p ≤ 255)
    (hI : ∀ m : Int, 0 ≤ m → m < 1000003 → ∀ x, Below w.heap.size w x → Calls Tryz.prog 42 #[.int .i64 m] x (Ret (.string ⟨(Lib.itoa m).toArray⟩) x)) :
    Calls Tryz.prog 104 #[gridV a b g n] w (Ret (.string ⟨(Lib.itoa (markF p n)).toArray⟩) w) := by
  have hn1 : n ≤ 16384 := by rw [← hn]; exact Nat.mul_le_mul ha hb
  have HP : Hid (∀ x : World, Below w.heap.size w x → Calls Tryz.prog 140 #[gridV a b g n] x (Ret (.string ⟨(List.replicate n (byteOf p)).toArray⟩) x)) := fun x hx => pack_flat a b p g n x (hf.keep hx) hn ha1 ha hb hp1 hp2
  obtain ⟨str, hs, hsz, hget⟩ := flatS n p hp1 hp2
  rw [hs] at HP
  have HI := Lib.hid hI
  clear hs hf hn hI
  unfold gridV pixV at *
  go_enter Tryz.func104, Tryz.ntmps104
  go_wp2_with (
    go_at_call 140
    refine (HP.out _ (Below.new1 w _)).mono ?_
    rintro e w1 ⟨rfl, hb1⟩
    obtain ⟨c, W, hcv, hbW, hcell⟩ := bytes_flat w1 str n p hsz hget
    have HW : Hid (Below w.heap.size w W) := ((Below.new1 w _).trans (hb1.mono (by simp))).trans (hbW.mono (by have := hb1.size; simp at this; omega))
    have HC := Lib.hid hcell
    clear hb1 hbW hcell)
  go_loopw [3, 5, 10] (fun m _ i wr => ∃ k : Nat, k ≤ n ∧ i = .int .i64 k ∧ m = .int .i64 (markF p k) ∧ wr = W) (fun _ _ i _ => n - (intOf i).toNat)
  case atStart => exact ⟨0, by omega, rfl, rfl, rfl⟩
  case round =>
    obtain ⟨k, hk, rfl, rfl, rfl⟩ := hrel
    rcases Nat.lt_or_ge k n with hlt | hge
    · have hc := HC.out k hlt
      have hr := markF_range p k
      have hE : Hid (markF p (k + 1) = (31 * markF p k + p) % 1000003) := rfl
      generalize markF p k = m at *
      obtain ⟨m', hm'⟩ : ∃ m', markF p (k + 1) = m' := ⟨_, rfl⟩
      have HM1 := Lib.hid hm'
      rw [hm'] at hE
      clear hm'
      go_wp2
      rw [← hE.out]
      exact ⟨⟨k + 1, by omega, by go_num, by rw [HM1.out], trivial⟩, by simp [intOf]; omega⟩
    · obtain rfl : k = n := by omega
      have hr := markF_range p k
      go_wp2_with (
        go_at_call 42
        refine (HI.out (markF p k) hr.1 hr.2 _ HW.out).mono ?_
        rintro e w5 ⟨rfl, hb5⟩
        have HB5 := Lib.hid hb5
        clear hb5)
      go_ret
      exact ⟨rfl, HW.out.trans (HB5.out.mono HW.out.size)⟩
end Go.Proofs.YtpklliedmplpdaaGreatDoor
namespace Go.Proofs.YtpklliedmplpdaaGreatDoor
open Go.RowKit

theorem flat_reads {w : World} {g n : Nat} {p : Int} (h : Flat w g n p) : Reads w w.heap.size 1 (some ⟨g, 0, none⟩) n (List.replicate n (.int .u8 p)) := Reads.of_own h
set_option maxHeartbeats 1000000 in
set_option maxRecDepth 100000 in
theorem twin_flat (a b p : Int) (g n : Nat) (w : World) (hf : Flat w g n p) (hn1 : n ≤ 16384) :
    Calls Tryz.prog 120 #[gridV a b g n] w fun e w' => ∃ g', e = .returned (gridV a b g' n) ∧ w.heap.size ≤ g' ∧ Flat w' g' n p ∧ Below w.heap.size w w' := by
  obtain ⟨i0, hi, hz0, hz1, hz2⟩ := info_parts Tryz.infoPix
  have HF := Lib.hid hf
  clear hf
  unfold gridV pixV at *
  go_enter Tryz.func120, Tryz.ntmps120
  go_wp2_with (at_make; refine wpList_make_full _ rfl _ _ 84 rfl (w.heap.size + 2) 22 i0 _ 1 Tryz.underlying84 hi hz0 hz1 .i64 .i64 _ _ n rfl rfl ?c1 ?c2 ?c3 ?c4 ?c5 ?_)
  case c1 => rfl
  case c2 => rfl
  case c3 => rw [hz2]; omega
  case c4 => simp only [maxLen]; omega
  case c5 => simp
  intro w2 hown2 hg2
  rw [toList_madeCells_one] at hown2
  have hb2 := grown_below hg2 (Nat.le_refl _) (by simp)
  obtain ⟨hw2, hs2, x1, x2⟩ := after2 hb2
  obtain ⟨c0, c1, c2, c3⟩ := (box_of x1).deep
  have HX1 := Lib.hid (box_of x1)
  have HX2 := Lib.hid (box_of x2)
  have HR := Lib.hid ((flat_reads HF.out).below hw2)
  have HW := Lib.hid hw2
  have HO := Lib.hid hown2
  clear x1 x2 hb2 hg2 hw2 hown2
  have HCP := Lib.hid (fun (ops : Array Oper) (rest : List Oper) (o : Oper) (a : Act) (Q : Exit → Act → World → Prop) (hgd : o.guard = none) (d s : Operand) (ho : o.op = .call { callee := .builtin .copy, args := #[d, s], argTypes := #[84, 84] }) h1 h2 => wpList_copy_reads (P := Tryz.prog) (ops := ops) (rest := rest) (o := o) (a := a) (Q := Q) hgd d s 84 84 ho (w.heap.size + 2) 22 1 Tryz.underlying84 (by kernel_rfl) (w.heap.size + 1 + 1) n n n n w.heap.size (some ⟨g, 0, none⟩) (List.replicate n (.int .u8 p)) (List.replicate n (.int .u8 0)) h1 h2 HO.out HR.out (Nat.le_refl _) (by intro v hv; rw [List.eq_of_mem_replicate hv]; rfl))
  go_wp2_with (with_reducible refine HCP.out _ _ _ _ _ rfl _ _ rfl rfl rfl ?_)
  intro w3 hown3 hg3
  have hown4 : w3.ownsRow (w.heap.size + 2) 22 1 (.slice (some ⟨w.heap.size + 1 + 1, 0, none⟩) n n) n (List.replicate n (.int .u8 p)) := by simpa using hown3
  have HF3 : Hid (Flat w3 (w.heap.size + 1 + 1) n p) := owns_mono hown4 (Nat.zero_le _)
  have hx1 := HX1.out.grown hg3 (by simp; try omega)
  have hx2 := HX2.out.grown hg3 (by simp; try omega)
  have HW3 : Hid (Below w.heap.size w w3) := HW.out.grown hg3 (by omega) (fun j hj => by injection hj with hj; omega)
  have hs3 := hg3.size
  clear c0 c1 c2 c3 hown3 hown4 hg3
  obtain ⟨c0, c1, c2, c3⟩ := hx1.deep
  obtain ⟨d0, d1, d2, d3⟩ := hx2.deep
  have fd := hx2.frozen
  clear hx1 hx2
  go_wp2
  refine bodyPost_ret (v := .agg #[.int .i64 a, .int .i64 b, .slice (some ⟨w.heap.size + 1 + 1, 0, none⟩) n n]) (by simp [results, Tryz.results120, go_sem, d0]) rfl ⟨w.heap.size + 1 + 1, rfl, by omega, ?_, ?_⟩
  · exact ((HF3.out.far (by simp) _).far (by simp) _).far (by simp) _
  · exact ((HW3.out.setCell (by simp) _).setCell (by simp) _).setCell (by simp) _
set_option maxHeartbeats 1000000 in
set_option maxRecDepth 100000 in
theorem clone_rect (w : World) (g cap : Nat) (u0 u1 u2 u3 : Int) (hg : g < w.heap.size) (hB : ∀ j z, [Value.int .i64 u0, .int .i64 u1, .int .i64 u2, .int .i64 u3][j]? = some z → w.cell? ((⟨g, 0, none⟩ : Addr).add j) = some z) :
    Calls Tryz.prog 139 #[.slice (some ⟨g, 0, none⟩) 1 cap] w fun e w' => ∃ g' c', e = .returned (.slice (some ⟨g', 0, none⟩) 1 c') ∧ w.heap.size ≤ g' ∧ g' < w'.heap.size ∧ Below w.heap.size w w' ∧ w'.cell? ⟨g', 0, none⟩ = some (.int .i64 u0) ∧ w'.cell? ⟨g', 1, none⟩ = some (.int .i64 u1) ∧ w'.cell? ⟨g', 2, none⟩ = some (.int .i64 u2) ∧ w'.cell? ⟨g', 3, none⟩ = some (.int .i64 u3) := by
  have hinf : (Tryz.prog.info? 223).map (fun i => (i.zero, i.size, i.bytes)) = some (some (.agg #[.int .i64 0, .int .i64 0, .int .i64 0, .int .i64 0]), 4, 32) := by kernel_rfl
  obtain ⟨i0, hi, hz0, hz1, hz2⟩ := info_parts hinf
  have hq := fun W a n c => Lib.run_eql_slice_some_nil (P := Tryz.prog) W a n c Tryz.underlying91
  go_enter Tryz.func139, Tryz.ntmps139
  go_wp2_with (
    at_builtin
    refine wpList_append_own _ rfl _ _ 91 rfl w.heap.size 223 i0 _ 4 32 Tryz.underlying91 hi hz0 hz1 hz2 rfl (by decide) _ _ _ rfl (owns_empty w _ _) ⟨g, 0, none⟩ 1 cap [.int .i64 u0, .int .i64 u1, .int .i64 u2, .int .i64 u3] rfl rfl (fun j z hj => by
      rw [World.cell?_of_block (w := w)]
      · exact hB j z hj
      · rw [show ((⟨g, 0, none⟩ : Addr).add j).block = g from by unfold Addr.add; split <;> rfl]
        exact Below.heap_alloc w _ g hg) (by intro u hu; simp at hu; rcases hu with rfl | rfl | rfl | rfl <;> rfl) (by decide) (by decide) (by simp) ?_)
  intro v1 w1 hown1 hgrow1 hnil1
  have hb1 : Below w.heap.size w w1 := ((Below.refl _ _).alloc (Nat.le_refl _) _).grown hgrow1 (by simp) (fun j hj => by simp [Value.ownBlock] at hj; omega)
  have hown2 : w1.ownsRow w.heap.size 223 4 v1 1 [.int .i64 u0, .int .i64 u1, .int .i64 u2, .int .i64 u3] := by simpa using hown1
  obtain ⟨g', c', rfl, h1, h2⟩ : ∃ g' c', v1 = .slice (some ⟨g', 0, none⟩) 1 c' ∧ w.heap.size ≤ g' ∧ g' < w1.heap.size := by
    rcases hown2.2 with ⟨_, h0⟩ | ⟨g', c', cur, rfl, hbg, hg', _⟩
    · cases h0
    · exact ⟨g', c', rfl, hbg, (Array.getElem?_eq_some_iff.1 hg').1⟩
  have HX := Lib.hid (And.intro (hown2.cellAt 0 (by omega)) (And.intro (hown2.cellAt 1 (by omega)) (And.intro (hown2.cellAt 2 (by omega)) (hown2.cellAt 3 (by omega)))))
  clear hown1 hown2 hgrow1 hnil1
  have HB := Lib.hid hb1
  clear hb1
  go_wp2
  go_ret
  exact ⟨g', c', rfl, h1, h2, HB.out, HX.out.1, HX.out.2.1, HX.out.2.2.1, HX.out.2.2.2⟩
theorem rects_one (w : World) (g cap : Nat) (u0 u1 u2 u3 : Int) (hg : g < w.heap.size) (hB : ∀ j z, [Value.int .i64 u0, .int .i64 u1, .int .i64 u2, .int .i64 u3][j]? = some z → w.cell? ((⟨g, 0, none⟩ : Addr).add j) = some z) :
    Calls Tryz.prog 90 #[.agg #[.slice (some ⟨g, 0, none⟩) 1 cap]] w fun e w' => ∃ g' c', e = .returned (.slice (some ⟨g', 0, none⟩) 1 c') ∧ w.heap.size ≤ g' ∧ g' < w'.heap.size ∧ Below w.heap.size w w' ∧ w'.cell? ⟨g', 0, none⟩ = some (.int .i64 u0) ∧ w'.cell? ⟨g', 1, none⟩ = some (.int .i64 u1) ∧ w'.cell? ⟨g', 2, none⟩ = some (.int .i64 u2) ∧ w'.cell? ⟨g', 3, none⟩ = some (.int .i64 u3) := by
  go_enter Tryz.func90, Tryz.ntmps90
  go_wp2_with (
    go_at_call 139
    refine (clone_rect _ g cap u0 u1 u2 u3 (by simp; omega) (fun j z hj => by
      rw [World.cell?_of_block (w := w)]
      · exact hB j z hj
      · rw [show ((⟨g, 0, none⟩ : Addr).add j).block = g from by unfold Addr.add; split <;> rfl]
        exact Below.heap_alloc w _ g hg)).mono ?_
    rintro e w1 ⟨g', c', rfl, h1, h2, hb1, k0, k1, k2, k3⟩
    obtain ⟨hw1, hs1, x1⟩ := after1 hb1
    simp at h1
    have HW := Lib.hid hw1
    clear hb1 x1 hw1)
  go_ret
  exact ⟨g', c', rfl, by omega, h2, HW.out, k0, k1, k2, k3⟩
end Go.Proofs.YtpklliedmplpdaaGreatDoor
namespace Go.Proofs.YtpklliedmplpdaaGreatDoor
open Go.RowKit

theorem mixA_get {n q : Nat} {x y : Value} (h : q < n) : (mixA n q x y)[q]? = some y := by
  simp only [mixA, List.getElem?_toArray]
  rw [List.getElem?_append_right (by simp), List.getElem?_replicate, if_pos (by simp; omega)]
theorem mixA_set {n q : Nat} {x y : Value} (h : q < n) : (mixA n q x y).setIfInBounds q x = mixA n (q + 1) x y := by
  simp only [mixA, List.setIfInBounds_toArray]
  rw [fill_set n q x y h]
theorem Box.setSelf {w : World} {b t : Nat} {cs : Array Value} (h : Box w b t cs) (i : Nat) (v : Value) : Box (w.setCell ⟨b, i, none⟩ v) b t (cs.setIfInBounds i v) := by
  rw [setCell_eq_setRow w b i cs t (0, 0) v h]
  exact setRow_heap w b cs _ t _ h
theorem Box.lt' {w : World} {b : Nat} {t : TypeId} {cs : Array Value} (h : Box w b t cs) : b < w.heap.size := (Array.getElem?_eq_some_iff.1 h).1
theorem grown_then {w w1 w2 : World} {g : Nat} (h : w.grownBy w1 (some g)) (hb : Below w1.heap.size w1 w2) : w.grownBy w2 (some g) :=
  ⟨hb.os.trans h.os, hb.tape.trans h.tape, hb.output.trans h.output, Nat.le_trans h.size hb.size, fun k hk hne => (hb.block k (Nat.lt_of_lt_of_le hk h.size)).trans (h.block k hk hne)⟩
theorem grown_set {w w1 : World} {g : Nat} (h : w.grownBy w1 (some g)) (i : Nat) (v : Value) : w.grownBy (w1.setCell ⟨g, i, none⟩ v) (some g) := by
  have hb : Below g w1 (w1.setCell ⟨g, i, none⟩ v) := (Below.refl g w1).setCell (Nat.le_refl _) v
  exact ⟨hb.os.trans h.os, hb.tape.trans h.tape, hb.output.trans h.output, Nat.le_trans h.size hb.size, fun k hk hne => (Below.heap_setCell w1 _ _ k (fun e => hne (by rw [e]))).trans (h.block k hk hne)⟩
set_option maxHeartbeats 1000000 in
set_option maxRecDepth 100000 in
theorem lay1 (a b y p : Int) (m q gh go n bh bx bz bo : Nat) (w : World) (hh : Box w bh 86 #[.int .i64 a, .int .i64 b, .slice (some ⟨gh, 0, none⟩) n n]) (hx : Box w bx 3 #[.int .i64 0]) (hz : Box w bz 3 #[.int .i64 0])
    (ho : Box w bo 86 #[.int .i64 a, .int .i64 b, .slice (some ⟨go, 0, none⟩) n n]) (hf : Flat w gh n p) (hrow : Box w go 22 (mixA n q (.int .u8 p) (.int .u8 0)))
    (n1 : ¬ bh = go) (n2 : ¬ bx = go) (n3 : ¬ bz = go) (n4 : ¬ bo = go) (n5 : ¬ gh = go) (hn : a * b = n) (ham : a = m) (ha : a ≤ 128) (hb : b ≤ 128) (hy1 : 0 ≤ y) (hy2 : y < b) (hq : y * a = q) :
    Calls Tryz.prog 122 #[.int .i64 y, .int .i64 0, .int .i64 a, .pointer (some ⟨bh, 0, none⟩), .pointer (some ⟨bx, 0, none⟩), .pointer (some ⟨bz, 0, none⟩), .pointer (some ⟨bo, 0, none⟩)] w
      fun e w' => e = .returned (.tuple #[]) ∧ Box w' go 22 (mixA n (q + m) (.int .u8 p) (.int .u8 0)) ∧ w.grownBy w' (some go) := by
  have hqn : q + m ≤ n ∧ n ≤ 16384 := by
    rcases Nat.eq_zero_or_pos m with h0 | h0
    · subst h0
      have : a = 0 := ham
      subst this
      have e1 : q = 0 := by have : (0 : Int) = q := by rw [← hq]; simp
                            omega
      have e2 : n = 0 := by have : (0 : Int) = n := by rw [← hn]; simp
                            omega
      omega
    · obtain ⟨k0, q', hk0, hn2, hq', _, hqa, _⟩ := place_in (x := 0) hn ha hb (Int.le_refl _) (by omega) hy1 hy2
      omega
  have hw1 : IntKind.i64.wrap (y * a) = (q : Int) := by rw [hq]; exact IntWalk.i64_in _ (by omega)
  have HAT : Hid (∀ (k : Nat) (x : World), k < m → Flat x gh n p → Calls Tryz.prog 10 #[gridV a b gh n, .int .i64 k, .int .i64 y] x (Ret (.int .u8 p) x)) :=
    fun k x hk hfx => at_flat a b k y p gh n x hfx hn ha hb (by omega) (by omega) hy1 hy2
  have HH := Lib.hid hh
  have HX := Lib.hid hx
  have HZ := Lib.hid hz
  have HO := Lib.hid ho
  have HF := Lib.hid hf
  have HR := Lib.hid hrow
  have hgl := hf.lt
  have hol := hrow.lt'
  have HM := Lib.hid ham
  clear hh hx hz ho hf hrow hn hq ham
  unfold gridV pixV at *
  go_enter Tryz.func122, Tryz.ntmps122
  go_wp2
  go_loopw [10] (fun c wr => ∃ k : Nat, k ≤ m ∧ c = .int .i64 k ∧ Box wr go 22 (mixA n (q + k) (.int .u8 p) (.int .u8 0)) ∧ w.grownBy wr (some go)) (fun c _ => m - (intOf c).toNat)
  case atStart => exact ⟨0, by omega, rfl, HR.out, World.grownBy.refl _ _⟩
  case round =>
    obtain ⟨k, hk, rfl, hbr, hgr⟩ := hrel
    have HBR := Lib.hid hbr
    have HGR := Lib.hid hgr
    have HH1 := Lib.hid (HH.out.grown hgr (by simpa using n1))
    have HX1 := Lib.hid (HX.out.grown hgr (by simpa using n2))
    have HZ1 := Lib.hid (HZ.out.grown hgr (by simpa using n3))
    have HO1 := Lib.hid (HO.out.grown hgr (by simpa using n4))
    have hsr := hgr.size
    clear hbr hgr
    rcases Nat.lt_or_ge k m with hlt | hge
    · obtain ⟨h0, h1, h2, h3⟩ := HH1.out.deep
      obtain ⟨x0, x1, x2, x3⟩ := HX1.out.deep
      obtain ⟨z0, z1, z2, z3⟩ := HZ1.out.deep
      have hka : (k : Int) < a := by rw [HM.out]; omega
      have HHAS : Hid (∀ x : World, Calls Tryz.prog 31 #[.agg #[.int .i64 a, .int .i64 b, .slice (some ⟨gh, 0, none⟩) n n], .int .i64 k, .int .i64 y] x (Ret (.bool true) x)) := fun x => has_yes a b k y _ x (by omega) hka hy1 hy2
      go_wp2_with (
        go_at_call 31
        refine (HHAS.out _).mono ?_
        rintro e w3 ⟨rfl, hb3⟩)
      have hs3 := hb3.size
      have HH3 := Lib.hid (HH1.out.below hb3 HH1.out.lt')
      have HX3 := Lib.hid (HX1.out.below hb3 HX1.out.lt')
      have HZ3 := Lib.hid (HZ1.out.below hb3 HZ1.out.lt')
      have HO3 := Lib.hid (HO1.out.below hb3 HO1.out.lt')
      have HB3 := Lib.hid (HBR.out.below hb3 (by omega))
      have HF3 : Hid (Flat w3 gh n p) := by
        refine Flat.below ?_ hb3 (by omega)
        refine ⟨HF.out.1, ?_⟩
        rcases HF.out.2 with h' | ⟨g', cap', cur, h', hbg, hg, rest⟩
        · exact .inl h'
        · have e1 : g' = gh := by simp only [Value.slice.injEq, Option.some.injEq, Addr.mk.injEq, and_true, true_and] at h'; omega
          exact .inr ⟨g', cap', cur, h', hbg, (HGR.out.block g' (by omega) (by simp; omega)).trans hg, rest⟩
      have HW3 := Lib.hid hb3
      clear hb3 h0 h1 h2 h3 x0 x1 x2 x3 z0 z1 z2 z3 HH1 HX1 HZ1 HO1
      obtain ⟨r, hr⟩ : ∃ r : Nat, r = q + k := ⟨_, rfl⟩
      have hw2 : IntKind.i64.wrap ((q : Int) + (k : Int)) = (r : Int) := by rw [hr, ← Int.natCast_add]; exact IntWalk.i64_in _ (by omega)
      have hr0 : (0 : Int) ≤ (r : Int) := by omega
      have hr1 : (r : Int) < (n : Int) := by omega
      have hr2 : r < n := by omega
      have HRR := Lib.hid hr
      have HKS : Hid (∀ x : World, Below w3.heap.size w3 x → x.cell? ⟨bo, 2, none⟩ = some (.slice (some ⟨go, 0, none⟩) n n) ∧ x.cell? ⟨bo, 0, none⟩ = some (.int .i64 a) ∧ x.cell? ⟨bh, 0, none⟩ = some (.int .i64 a) ∧ x.cell? ⟨bh, 1, none⟩ = some (.int .i64 b) ∧ x.cell? ⟨bh, 2, none⟩ = some (.slice (some ⟨gh, 0, none⟩) n n) ∧ x.cell? ⟨bx, 0, none⟩ = some (.int .i64 0) ∧ x.cell? ⟨bz, 0, none⟩ = some (.int .i64 0)) := by
        intro x hx
        exact ⟨(HO3.out.below hx HO3.out.lt').cell 2, (HO3.out.below hx HO3.out.lt').cell 0, (HH3.out.below hx HH3.out.lt').cell 0, (HH3.out.below hx HH3.out.lt').cell 1, (HH3.out.below hx HH3.out.lt').cell 2, (HX3.out.below hx HX3.out.lt').cell 0, (HZ3.out.below hx HZ3.out.lt').cell 0⟩
      have HST : Hid (∀ x : World, Below w3.heap.size w3 x → Box x go 22 (mixA n r (.int .u8 p) (.int .u8 0))) := fun x hx => by rw [hr]; exact HB3.out.below hx (by omega)
      have HA : Hid (∀ x : World, Below w3.heap.size w3 x → Calls Tryz.prog 10 #[.agg #[.int .i64 a, .int .i64 b, .slice (some ⟨gh, 0, none⟩) n n], .int .i64 k, .int .i64 y] x (Ret (.int .u8 p) x)) := fun x hx => HAT.out k x hlt (HF3.out.keep hx)
      clear hr
      have hk3 : IntKind.i64.wrap (k : Int) = (k : Int) := IntWalk.i64_in _ (by omega)
      have hy3 : IntKind.i64.wrap y = y := IntWalk.i64_in _ (by omega)
      obtain ⟨j1, j2, j3, j4, j5, j6, j7⟩ := HKS.out _ (Below.refl _ _).drew
      go_wp2
      go_region_held3 (fun x => x.cell? ⟨bo, 2, none⟩ = some (.slice (some ⟨go, 0, none⟩) n n) ∧ x.cell? ⟨bo, 0, none⟩ = some (.int .i64 a) ∧ x.cell? ⟨bh, 0, none⟩ = some (.int .i64 a) ∧ x.cell? ⟨bh, 1, none⟩ = some (.int .i64 b) ∧ x.cell? ⟨bh, 2, none⟩ = some (.slice (some ⟨gh, 0, none⟩) n n) ∧ x.cell? ⟨bx, 0, none⟩ = some (.int .i64 0) ∧ x.cell? ⟨bz, 0, none⟩ = some (.int .i64 0))
        (first | with_reducible exact ⟨(cell_far n4).trans k1, (cell_far n4).trans k2, (cell_far n1).trans k3, (cell_far n1).trans k4, (cell_far n1).trans k5, (cell_far n2).trans k6, (cell_far n3).trans k7⟩ | with_reducible exact ⟨k1, k2, k3, k4, k5, k6, k7⟩ | with_reducible exact ⟨j1, j2, j3, j4, j5, j6, j7⟩ | go_keep)
        (first
          | (go_at_call 10
             refine (HA.out _ (Below.refl _ _).drew).mono ?_
             rintro e w5 ⟨rfl, hb5⟩
             have hB5 : Below w3.heap.size w3 w5 := (Below.refl _ _).drew.trans hb5
             have hs5 := hB5.size
             obtain ⟨k1, k2, k3, k4, k5, k6, k7⟩ := HKS.out _ hB5
             have c5 : w5.cell? ⟨go, r, none⟩ = some (.int .u8 0) := by rw [(HST.out _ hB5).cell r]; exact mixA_get hr2
             have f5 : w5.frozen? ⟨go, r, none⟩ = false := (HST.out _ hB5).frozen r))
      have HN : Hid (Box (w5.setCell ⟨go, r, none⟩ (.int .u8 p)) go 22 (mixA n (q + (k + 1)) (.int .u8 p) (.int .u8 0))) := by
        have h1 := (HST.out _ hB5).setSelf r (.int .u8 p)
        rw [mixA_set hr2, HRR.out] at h1
        rw [HRR.out]
        exact h1
      have HG5 : Hid (w.grownBy (w5.setCell ⟨go, r, none⟩ (.int .u8 p)) (some go)) := grown_set (grown_then (grown_then HGR.out HW3.out) hB5) r _
      clear j1 j2 j3 j4 j5 j6 j7 k1 k2 k3 k4 k5 k6 k7 c5 f5 hB5 hw1 hw2 hy3
      go_wp2
      go_roundw
      case rel => exact ⟨k + 1, by omega, by go_num, HN.out, HG5.out⟩
      case measure => simp [intOf]; omega
    · have hkm : m = k := by omega
      have hka : ¬ (k : Int) < a := by rw [HM.out]; omega
      go_wp2
      go_end0
      exact ⟨rfl, HBR.out, HGR.out⟩
end Go.Proofs.YtpklliedmplpdaaGreatDoor
namespace Go.Proofs.YtpklliedmplpdaaGreatDoor
open Go.RowKit

/-- What Lay's closure is bound to. -/
structure LayBox (w : World) (a b : Int) (p : Int) (gh go n bh bx bz bo : Nat) : Prop where
  h : Box w bh 86 #[.int .i64 a, .int .i64 b, .slice (some ⟨gh, 0, none⟩) n n]
  x : Box w bx 3 #[.int .i64 0]
  z : Box w bz 3 #[.int .i64 0]
  o : Box w bo 86 #[.int .i64 a, .int .i64 b, .slice (some ⟨go, 0, none⟩) n n]
  f : Flat w gh n p
theorem LayBox.grown {w w' : World} {a b p : Int} {gh go n bh bx bz bo : Nat} (h : LayBox w a b p gh go n bh bx bz bo) (n1 : ¬ bh = go) (n2 : ¬ bx = go) (n3 : ¬ bz = go) (n4 : ¬ bo = go) (n5 : ¬ gh = go) (hg : w.grownBy w' (some go)) : LayBox w' a b p gh go n bh bx bz bo := by
  refine ⟨h.h.grown hg (by simpa using n1), h.x.grown hg (by simpa using n2), h.z.grown hg (by simpa using n3), h.o.grown hg (by simpa using n4), h.f.1, ?_⟩
  rcases h.f.2 with h' | ⟨g', cap', cur, h', hbg, hgg, rest⟩
  · exact .inl h'
  · have e1 : g' = gh := by simp only [Value.slice.injEq, Option.some.injEq, Addr.mk.injEq, and_true, true_and] at h'; omega
    exact .inr ⟨g', cap', cur, h', hbg, (hg.block g' (Array.getElem?_eq_some_iff.1 hgg).1 (by simp; omega)).trans hgg, rest⟩
theorem LayBox.keep {w w' : World} {a b p : Int} {gh go n bh bx bz bo : Nat} (h : LayBox w a b p gh go n bh bx bz bo) (hb : Below w.heap.size w w') : LayBox w' a b p gh go n bh bx bz bo :=
  ⟨h.h.below hb h.h.lt', h.x.below hb h.x.lt', h.z.below hb h.z.lt', h.o.below hb h.o.lt', h.f.keep hb⟩
set_option maxHeartbeats 1000000 in
set_option maxRecDepth 100000 in
theorem spans_lay (a b p : Int) (m mb gh go n bh bx bz bo r c : Nat) (w : World) (hl : LayBox w a b p gh go n bh bx bz bo) (hrow : Box w go 22 (mixA n 0 (.int .u8 p) (.int .u8 0)))
    (n1 : ¬ bh = go) (n2 : ¬ bx = go) (n3 : ¬ bz = go) (n4 : ¬ bo = go) (n5 : ¬ gh = go) (hn : a * b = n) (ham : a = m) (hbm : b = mb) (ha1 : 1 ≤ a) (ha : a ≤ 128) (hb1 : 1 ≤ b) (hb : b ≤ 128)
    (hr : r < w.heap.size) (hrc : ∀ j z, [Value.int .i64 0, .int .i64 0, .int .i64 a, .int .i64 b][j]? = some z → w.cell? ((⟨r, 0, none⟩ : Addr).add j) = some z) :
    Calls Tryz.prog 121 #[.agg #[.int .i64 a, .int .i64 b, .slice (some ⟨go, 0, none⟩) n n], .agg #[.slice (some ⟨r, 0, none⟩) 1 c], .func (.func 122) #[] #[.pointer (some ⟨bh, 0, none⟩), .pointer (some ⟨bx, 0, none⟩), .pointer (some ⟨bz, 0, none⟩), .pointer (some ⟨bo, 0, none⟩)]] w
      fun e w' => e = .returned (.tuple #[]) ∧ Box w' go 22 (mixA n n (.int .u8 p) (.int .u8 0)) ∧ w.grownBy w' (some go) := by
  have hmn : m * mb = n := by
    have : ((m * mb : Nat) : Int) = n := by rw [Int.natCast_mul, ← ham, ← hbm, hn]
    omega
  have HL1 : Hid (∀ (k q : Nat) (x : World), k < mb → q = k * m → LayBox x a b p gh go n bh bx bz bo → Box x go 22 (mixA n q (.int .u8 p) (.int .u8 0)) → Calls Tryz.prog 122 #[.int .i64 k, .int .i64 0, .int .i64 a, .pointer (some ⟨bh, 0, none⟩), .pointer (some ⟨bx, 0, none⟩), .pointer (some ⟨bz, 0, none⟩), .pointer (some ⟨bo, 0, none⟩)] x
      fun e w' => e = .returned (.tuple #[]) ∧ Box w' go 22 (mixA n (q + m) (.int .u8 p) (.int .u8 0)) ∧ x.grownBy w' (some go)) := by
    intro k q x hk hq hx hrx
    exact lay1 a b k p m q gh go n bh bx bz bo x hx.h hx.x hx.z hx.o hx.f hrx n1 n2 n3 n4 n5 hn ham ha hb (by omega) (by omega) (by rw [hq, ham, Int.natCast_mul])
  have HRS : Hid (∀ x : World, Below w.heap.size w x → _) := fun x hx => rects_one x r c 0 0 a b (by have := hx.size; omega) (fun j z hj => by
    rw [World.cell?_of_block (w := w)]
    · exact hrc j z hj
    · rw [show ((⟨r, 0, none⟩ : Addr).add j).block = r from by unfold Addr.add; split <;> rfl]
      exact hx.block r hr)
  have HL := Lib.hid hl
  have HR := Lib.hid hrow
  have HM := Lib.hid ham
  have HB := Lib.hid hbm
  have HN := Lib.hid hmn
  have hol := hrow.lt'
  clear hl hrow hn ham hbm hrc hmn
  go_enter Tryz.func121, Tryz.ntmps121
  go_wp2
  go_step3
  go_wp2
  go_step3
  go_wp2_with (
    go_at_call 90
    refine (HRS.out _ ((Below.new1 w _).alloc (by simp) _)).mono ?_
    rintro e w1 ⟨g', c', rfl, hg1, hg2, hb1, k0, k1, k2, k3⟩
    obtain ⟨hw1, hs1, x1, x2⟩ := after2 hb1
    simp at hg1
    have HX1 := Lib.hid (box_of x1)
    have HX2 := Lib.hid (box_of x2)
    have HW := Lib.hid hw1
    clear x1 x2 hb1 hw1)
  have hs1' := HW.out.size
  have HL2 := Lib.hid (HL.out.keep HW.out)
  have HR2 := Lib.hid (HR.out.below HW.out hol)
  clear HL HR HRS
  refine wp_loop_rounds 2 ?_
  rw [rounds_succ]
  obtain ⟨e0, e1, e2, e3⟩ := HX1.out.deep
  obtain ⟨f0, f1, f2, f3⟩ := HX2.out.deep
  have ha0 : IntKind.i64.wrap a = a := IntWalk.i64_in _ (by omega)
  have hb0 : IntKind.i64.wrap b = b := IntWalk.i64_in _ (by omega)
  have hmx : max (0 : Int) 0 = 0 := rfl
  have hmn : min a a = a := by simp
  go_wp2
  go_quiet (fail)
  go_wp2
  have HRB : Hid (Box ((w1.alloc (.cells #[.int .i64 0, .int .i64 0, .int .i64 a, .int .i64 b] 223)).drewN nq) w1.heap.size 223 #[.int .i64 0, .int .i64 0, .int .i64 a, .int .i64 b]) := Box.new w1 _ _
  have hW2 : Below w1.heap.size w1 ((w1.alloc (.cells #[.int .i64 0, .int .i64 0, .int .i64 a, .int .i64 b] 223)).drewN nq) := below_drewN' (Below.new1 w1 _) _
  have HL3 := Lib.hid (HL2.out.keep hW2)
  have HR3 := Lib.hid (HR2.out.below hW2 (by omega))
  have HX3 := Lib.hid (HX1.out.below hW2 (by omega))
  have HW3 := Lib.hid (HW.out.trans (hW2.mono (by omega)))
  have hs2 := hW2.size
  clear hW2 e0 e1 e2 e3 f0 f1 f2 f3 k0 k1 k2 k3 HL2 HR2 HX1 HX2 HW ha0 hb0 hmx hmn
  generalize (w1.alloc (.cells #[.int .i64 0, .int .i64 0, .int .i64 a, .int .i64 b] 223)).drewN nq = w2 at *
  have hg3 := HW3.out.size
  go_loopw [10] (fun y wr => ∃ k : Nat, k ≤ mb ∧ y = .int .i64 k ∧ LayBox wr a b p gh go n bh bx bz bo ∧ Box wr go 22 (mixA n (k * m) (.int .u8 p) (.int .u8 0)) ∧ Box wr w1.heap.size 223 #[.int .i64 0, .int .i64 0, .int .i64 a, .int .i64 b] ∧ Box wr w.heap.size 86 #[.int .i64 a, .int .i64 b, .slice (some ⟨go, 0, none⟩) n n] ∧ w2.grownBy wr (some go)) (fun y _ => mb - (intOf y).toNat)
  case atStart => exact ⟨0, by omega, rfl, HL3.out, by simpa using HR3.out, HRB.out, HX3.out, World.grownBy.refl _ _⟩
  case round =>
    obtain ⟨k, hk, rfl, hl, hrw, hrb, hxb, hgr⟩ := hrel
    obtain ⟨r0, r1, r2, r3⟩ := hrb.deep
    obtain ⟨x0, x1, x2, x3⟩ := hxb.deep
    have HL4 := Lib.hid hl
    have HR4 := Lib.hid hrw
    have HRB4 := Lib.hid hrb
    have HXB4 := Lib.hid hxb
    have HG4 := Lib.hid hgr
    have hsr := hgr.size
    clear hl hrw hrb hxb hgr
    have hbb : IntKind.i64.wrap (0 + b) = b := by rw [Int.zero_add]; exact IntWalk.i64_in _ (by omega)
    have hb0 : IntKind.i64.wrap b = b := IntWalk.i64_in _ (by omega)
    rcases Nat.lt_or_ge k mb with hlt | hge
    · have hkb : (k : Int) < b := by rw [HB.out]; omega
      have hkb' : ¬ b ≤ (k : Int) := by omega
      go_wp2_with fail
      refine (HL1.out k (k * m) wr hlt rfl HL4.out HR4.out).mono ?_
      rintro e w5 ⟨rfl, hb5, hg5⟩
      have HR5 := Lib.hid hb5
      have HL5 := Lib.hid (HL4.out.grown n1 n2 n3 n4 n5 hg5)
      have HRB5 := Lib.hid (HRB4.out.grown hg5 (by simp; omega))
      have HXB5 := Lib.hid (HXB4.out.grown hg5 (by simp; omega))
      have HG5 : Hid (w2.grownBy w5 (some go)) := ⟨hg5.os.trans HG4.out.os, hg5.tape.trans HG4.out.tape, hg5.output.trans HG4.out.output, Nat.le_trans HG4.out.size hg5.size, fun j hj hne => (hg5.block j (Nat.lt_of_lt_of_le hj HG4.out.size) hne).trans (HG4.out.block j hj hne)⟩
      clear hb5 hg5 r0 r1 r2 r3 x0 x1 x2 x3 hbb hb0
      go_wp2
      go_roundw
      case rel => exact ⟨k + 1, by omega, by go_num, HL5.out, by rw [Nat.add_mul, Nat.one_mul]; exact HR5.out, HRB5.out, HXB5.out, HG5.out⟩
      case measure => simp [intOf]; omega
    · have hkb : ¬ (k : Int) < b := by rw [HB.out]; omega
      have hkm : k = mb := by omega
      go_wp2
      rw [rounds_succ]
      go_wp2
      rw [Exit.noGoto_normal]
      go_end0
      refine ⟨rfl, ?_, ?_⟩
      · have := HR4.out
        rw [hkm, Nat.mul_comm, HN.out] at this
        exact this
      · exact ⟨HG4.out.os.trans HW3.out.os, HG4.out.tape.trans HW3.out.tape, HG4.out.output.trans HW3.out.output, Nat.le_trans HW3.out.size HG4.out.size, fun j hj hne => (HG4.out.block j (Nat.lt_of_lt_of_le hj HW3.out.size) hne).trans (HW3.out.block j hj)⟩
end Go.Proofs.YtpklliedmplpdaaGreatDoor
namespace Go.Proofs.YtpklliedmplpdaaGreatDoor
open Go.RowKit

set_option maxHeartbeats 1000000 in
set_option maxRecDepth 100000 in
theorem lay_flat (a b p : Int) (m mb g0 gh n r c : Nat) (w : World) (hf0 : Flat w g0 n 0) (hf : Flat w gh n p) (hn : a * b = n) (ham : a = m) (hbm : b = mb) (ha1 : 1 ≤ a) (ha : a ≤ 128) (hb1 : 1 ≤ b) (hb : b ≤ 128)
    (hr : r < w.heap.size) (hrc : ∀ j z, [Value.int .i64 0, .int .i64 0, .int .i64 a, .int .i64 b][j]? = some z → w.cell? ((⟨r, 0, none⟩ : Addr).add j) = some z) :
    Calls Tryz.prog 66 #[gridV a b g0 n, gridV a b gh n, .int .i64 0, .int .i64 0, .agg #[.slice (some ⟨r, 0, none⟩) 1 c]] w fun e w' => ∃ g', e = .returned (gridV a b g' n) ∧ w.heap.size ≤ g' ∧ w'.heap[g']? = some (.cells (Array.replicate n (.int .u8 p)) 22) ∧ Below w.heap.size w w' := by
  have hn1 : n ≤ 16384 := by
    have : a * b ≤ 128 * 128 := Int.mul_le_mul ha hb (by omega) (by omega)
    omega
  have HT : Hid (∀ x : World, Below w.heap.size w x → _) := fun x hx => twin_flat a b 0 g0 n x (hf0.keep hx) hn1
  have HF := Lib.hid hf
  have HN := Lib.hid (And.intro hn (And.intro ham hbm))
  have HRC := Lib.hid hrc
  have hgl := hf.lt
  clear hf hf0 hn ham hbm hrc
  unfold gridV pixV at *
  go_enter Tryz.func66, Tryz.ntmps66
  go_wp2_with (
    go_at_call 119
    refine (gcoord_yes 0 _ (by decide) (by decide)).mono ?_
    rintro e w' ⟨rfl, rfl⟩)
  refine (HT.out _ ((((((Below.new1 w _).alloc (by simp; try omega) _).alloc (by simp; try omega) _).alloc (by simp; try omega) _).alloc (by simp; try omega) _).alloc (by simp; try omega) _)).mono ?_
  rintro e w1 ⟨g', rfl, hg', hf1, hb1'⟩
  obtain ⟨hw1, hs1, x1, x2, x3, x4, x5, x6⟩ := after6 hb1'
  simp at hg'
  have hgl1 := hf1.lt
  have HF1 := Lib.hid hf1
  have HW1 := Lib.hid hw1
  have HX2 := Lib.hid (box_of x2)
  have HX3 := Lib.hid (box_of x3)
  have HX4 := Lib.hid (box_of x4)
  have HX6 := Lib.hid (box_of x6)
  obtain ⟨e0, e1, e2, e3⟩ := (box_of x5).deep
  clear x1 x2 x3 x4 x5 x6 hb1' hf1 hw1
  go_wp2_with fail
  have hW2 := Below.new1 w1 (.cells #[.int .i64 a, .int .i64 b, .slice (some ⟨g', 0, none⟩) n n] 86)
  have hs2 := hW2.size
  have HLB : Hid (LayBox (w1.alloc (.cells #[.int .i64 a, .int .i64 b, .slice (some ⟨g', 0, none⟩) n n] 86)) a b p gh g' n (w.heap.size + 1) (w.heap.size + 1 + 1) (w.heap.size + 1 + 1 + 1) w1.heap.size) :=
    ⟨HX2.out.below hW2 (by omega), HX3.out.below hW2 (by omega), HX4.out.below hW2 (by omega), Box.new w1 _ _, (HF.out.below HW1.out (by omega)).below hW2 (by omega)⟩
  have HRW : Hid (Box (w1.alloc (.cells #[.int .i64 a, .int .i64 b, .slice (some ⟨g', 0, none⟩) n n] 86)) g' 22 (mixA n 0 (.int .u8 p) (.int .u8 0))) := by
    have h1 := own_block (HF1.out.below hW2 hgl1)
    have h2 : (List.replicate n (Value.int .u8 0)).toArray = mixA n 0 (.int .u8 p) (.int .u8 0) := by simp [mixA]
    rw [h2] at h1
    exact h1
  have HB6 := Lib.hid (HX6.out.below hW2 (by omega))
  have HW2 := Lib.hid (HW1.out.trans (hW2.mono (by omega)))
  clear hW2 e0 e1 e2 e3
  generalize w1.alloc (.cells #[.int .i64 a, .int .i64 b, .slice (some ⟨g', 0, none⟩) n n] 86) = w2 at *
  refine (spans_lay a b p m mb gh g' n (w.heap.size + 1) (w.heap.size + 1 + 1) (w.heap.size + 1 + 1 + 1) w1.heap.size r c w2 HLB.out HRW.out (by omega) (by omega) (by omega) (by omega) (by omega) HN.out.1 HN.out.2.1 HN.out.2.2 ha1 ha hb1 hb (by have := HW2.out.size; omega) (fun j z hj => by
    rw [World.cell?_of_block (w := w)]
    · exact HRC.out j z hj
    · rw [show ((⟨r, 0, none⟩ : Addr).add j).block = r from by unfold Addr.add; split <;> rfl]
      exact HW2.out.block r hr)).mono ?_
  rintro e w3 ⟨rfl, hb3, hg3⟩
  have hx6 := HB6.out.grown hg3 (by simp; omega)
  have ho := HLB.out.o.grown hg3 (by simp; omega)
  obtain ⟨c0, c1, c2, c3⟩ := hx6.deep
  have cf := hx6.frozen
  obtain ⟨d0, d1, d2, d3⟩ := ho.deep
  have HB3 := Lib.hid hb3
  have HW3 : Hid (Below w.heap.size w w3) := HW2.out.grown hg3 (by have := HW2.out.size; omega) (fun j hj => by injection hj with hj; omega)
  clear hb3 hg3 hx6 ho
  go_wp2
  refine bodyPost_ret (v := .agg #[.int .i64 a, .int .i64 b, .slice (some ⟨g', 0, none⟩) n n]) (by simp [results, Tryz.results66, go_sem, c0]) rfl ⟨g', rfl, by omega, ?_, ?_⟩
  · have hz : ∀ (W : World) (q : Addr) (u : Value), g' ≠ q.block → Box W g' 22 (mixA n n (.int .u8 p) (.int .u8 0)) → Box (W.setCell q u) g' 22 (mixA n n (.int .u8 p) (.int .u8 0)) := fun W q u hq hB => (Below.heap_setCell W q u g' hq).trans hB
    have h1 := hz _ ⟨w.heap.size + 1 + 1 + 1 + 1 + 1, 2, none⟩ (.slice (some ⟨g', 0, none⟩) n n) (by simp; omega) (hz _ ⟨w.heap.size + 1 + 1 + 1 + 1 + 1, 1, none⟩ (.int .i64 b) (by simp; omega) (hz _ ⟨w.heap.size + 1 + 1 + 1 + 1 + 1, 0, none⟩ (.int .i64 a) (by simp; omega) HB3.out))
    have h2 : mixA n n (Value.int .u8 p) (.int .u8 0) = Array.replicate n (.int .u8 p) := by simp [mixA]
    rw [h2] at h1
    exact h1
  · exact ((HW3.out.setCell (by simp; try omega) _).setCell (by simp; try omega) _).setCell (by simp; try omega) _
end Go.Proofs.YtpklliedmplpdaaGreatDoor
