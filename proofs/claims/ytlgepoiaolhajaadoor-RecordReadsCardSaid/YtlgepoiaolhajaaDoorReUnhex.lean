/-
  The record layer's unhex: the bytes of a word.
-/
import Derived.Test.YtlgepoiaolhajaaDoorReHex
import Derived.Test.YtlgepoiaolhajaaDoorReDig
import Derived.Deep.QuietTactic
import Derived.BigQuiet
import Derived.Deep.DeepCutAuto
import Derived.Laws.BitsAllLaws
import Derived.Laws.BitsLemmas
namespace Go.Proofs.YtlgepoiaolhajaaDoor
open Go.RowKit
open Go.Lib (byteCells byteCells_length byteCells_append)

def digs : List UInt8 := [48, 49, 50, 51, 52, 53, 54, 55, 56, 57, 97, 98, 99, 100, 101, 102]
/-- The value of a digit of base 16; -1: it is none. -/
def hv (c : UInt8) : Int := Lib.indexByte digs c
/-- The bytes of the first k pairs of digits. -/
def pairs (l : List UInt8) (k : Nat) : List UInt8 := (List.range k).map fun i => UInt8.ofNat (16 * (hv (l.getD (2 * i) 0)).toNat + (hv (l.getD (2 * i + 1) 0)).toNat)
def okTo (l : List UInt8) (k : Nat) : Prop := ∀ i, i < k → 0 ≤ hv (l.getD (2 * i) 0) ∧ 0 ≤ hv (l.getD (2 * i + 1) 0)
instance (l : List UInt8) (k : Nat) : Decidable (okTo l k) := Nat.decidableBallLT k (fun i _ => 0 ≤ hv (l.getD (2 * i) 0) ∧ 0 ≤ hv (l.getD (2 * i + 1) 0))
def unhexP (l : List UInt8) : Option (List UInt8) :=
  if l = [45] then some [] else if l = [] ∨ l.length % 2 ≠ 0 then none else if okTo l (l.length / 2) then some (pairs l (l.length / 2)) else none

theorem hv_lt (c : UInt8) : hv c < 16 := by
  have h : ∀ n : Fin 256, hv (UInt8.ofNat n.val) < 16 := by decide +kernel
  have := h ⟨c.toNat, c.toNat_lt⟩
  simpa using this
theorem pairs_snoc (l : List UInt8) (k : Nat) : pairs l (k + 1) = pairs l k ++ [UInt8.ofNat (16 * (hv (l.getD (2 * k) 0)).toNat + (hv (l.getD (2 * k + 1) 0)).toNat)] := by
  unfold pairs
  rw [List.range_succ, List.map_append]
  rfl
theorem pairs_length (l : List UInt8) (k : Nat) : (pairs l k).length = k := by simp [pairs]

theorem idx_any (c : UInt8) (w : World) :
    Calls Tryd.prog 47 #[.string ⟨#[48, 49, 50, 51, 52, 53, 54, 55, 56, 57, 97, 98, 99, 100, 101, 102]⟩, .int .u8 (c.toNat : Int)] w fun e w' => e = .returned (.int .i64 (hv c)) ∧ w' = w :=
  (Tryd.strings_IndexByte ⟨#[48, 49, 50, 51, 52, 53, 54, 55, 56, 57, 97, 98, 99, 100, 101, 102]⟩ (c.toNat : Int) w).mono fun _ _ ⟨he, hw⟩ => ⟨by rw [he]; simp [hv, digs], hw⟩
def UnhexPost (o : Option (List UInt8)) (w : World) (r : Ending) (w' : World) : Prop :=
  r = .returned (.tuple #[.string ⟨(o.getD []).toArray⟩, .bool o.isSome]) ∧ Below w.heap.size w w'

theorem ofInt_i64 (a : Nat) (ha : a < 9223372036854775808) : (BitVec.ofInt 64 (a : Int)).toNat = a := by
  rw [BitVec.ofInt_natCast, BitVec.toNat_ofNat]; exact Nat.mod_eq_of_lt (by omega)
theorem or_nibbles (a b : Nat) (ha : a < 16) (hb : b < 16) : bits .or .i64 ((a : Int) * 16) (b : Int) = (a : Int) * 16 + (b : Int) := by
  have hx : 16 * a ||| b < 2 ^ 63 := Nat.or_lt_two_pow (by omega) (by omega)
  have e : 16 * a ||| b = 16 * a + b := by
    have := Nat.shiftLeft_add_eq_or_of_lt (i := 4) (b := b) (by omega) a
    rw [Nat.shiftLeft_eq] at this
    rw [show 16 * a = a * 2 ^ 4 from by omega]
    exact this.symm
  show IntKind.i64.wrap ((BitVec.ofInt 64 ((a : Int) * 16) ||| BitVec.ofInt 64 (b : Int)).toNat : Int) = _
  rw [BitVec.toNat_or, show ((a : Int) * 16) = ((16 * a : Nat) : Int) from by omega, ofInt_i64 (16 * a) (by omega), ofInt_i64 b (by omega), e, IntKind.wrap_i64]
  omega

set_option maxHeartbeats 1000000 in
set_option maxRecDepth 100000 in
theorem unhex_any (s : ByteArray) (w : World) (hs : s.size ≤ 16777216) :
    Calls Tryd.prog 36 #[.string s] w (UnhexPost (unhexP s.data.toList) w) := by
  obtain ⟨i0, hi, hz0, hz1, hz2⟩ := info_parts byte_info
  have hl : s.data.toList.length = s.size := by simp
  by_cases h45 : s.data.toList = [45]
  · have e : s = ⟨#[45]⟩ := by
      cases s with | mk d => cases d with | mk l => simp at h45; rw [h45]
    subst e
    have HP : Hid (unhexP [45] = some []) := by show _ = _; rfl
    go_enter Tryd.func36, Tryd.ntmps36
    go_wp2
    go_ret2
    exact ⟨by rw [HP.out]; rfl, Below.refl _ _⟩
  · have hne : (s.toList == [45]) = false := by
      rw [Go.ByteArray.toList_eq]; simpa using h45
    by_cases hbad : s.data.toList = [] ∨ s.data.toList.length % 2 ≠ 0
    · have HP : Hid (unhexP s.data.toList = none) := by
        show _ = _
        unfold unhexP
        rw [if_neg h45, if_pos hbad]
      by_cases h0 : s.data.toList = []
      · have h1 : s.toList.isEmpty = true := by rw [toList_isEmpty_data, h0]; rfl
        clear h0 hbad h45 hl
        go_enter Tryd.func36, Tryd.ntmps36
        go_wp2
        all_goals
          go_ret2
          exact ⟨by rw [HP.out]; rfl, Below.refl _ _⟩
      · have h1 : s.toList.isEmpty = false := by
          rw [toList_isEmpty_data]
          cases h : s.data.toList with
          | nil => exact absurd h h0
          | cons a b => rfl
        have h2 : s.size % 2 = 1 := by rcases hbad with h | h; exact absurd h h0; omega
        have h3 : ((s.size : Int) % 2 != 0) = true := by rw [bne_iff_ne]; omega
        clear h0 hbad h45 hl h2
        go_enter Tryd.func36, Tryd.ntmps36
        go_wp2
        all_goals
          go_ret2
          exact ⟨by rw [HP.out]; rfl, Below.refl _ _⟩
    · simp only [not_or, Decidable.not_not] at hbad
      obtain ⟨hnil, hev⟩ := hbad
      have HP : Hid (unhexP s.data.toList = if okTo s.data.toList (s.size / 2) then some (pairs s.data.toList (s.size / 2)) else none) := by
        show _ = _
        unfold unhexP
        rw [if_neg h45, if_neg (by intro h; rcases h with h | h; exact hnil h; exact h hev), hl]
      have h1 : s.toList.isEmpty = false := by
        rw [toList_isEmpty_data]
        cases h : s.data.toList with
        | nil => exact absurd h hnil
        | cons a b => rfl
      have h3 : ((s.size : Int) % 2 != 0) = false := by rw [bne_eq_false_iff_eq]; omega
      obtain ⟨m, hm⟩ : ∃ m, s.size = 2 * m := ⟨s.size / 2, by omega⟩
      have HL := Lib.hid hl
      have HM := Lib.hid hm
      have hm1 : 2 * m ≤ s.size := by omega
      have hm2 : s.size ≤ 2 * m := by omega
      clear hnil hev h45 hl hm
      go_enter Tryd.func36, Tryd.ntmps36
      go_wp2_with (at_make; refine wpList_make_full _ rfl _ _ 50 rfl w.heap.size 5 i0 _ 1 Tryd.underlying50 hi hz0 hz1 .i64 .i64 _ _ m rfl rfl ?c1 ?c2 ?c3 ?c4 ?c5 ?_)
      case c1 => omega
      case c2 => omega
      case c3 => rw [hz2]; omega
      case c4 => simp only [maxLen]; omega
      case c5 => omega
      intro w1 hown1 hg1
      have hb1 : Below w.heap.size w w1 := grown_below hg1 (Nat.le_refl _) (by simp)
      have hg0 : w.heap.size < w1.heap.size := (hown1.lt w.heap.size rfl).2
      have hmk : (madeCells #[Value.int .u8 0] m).toList = List.replicate m (.int .u8 0) := toList_madeCells_one _ _
      have hown2 : w1.ownsRow w.heap.size 5 1 (.slice (some ⟨w.heap.size, 0, none⟩) m m) m (byteCells (pairs s.data.toList 0) ++ List.replicate (m - 0) (.int .u8 0)) := by
        have e0 : byteCells (pairs s.data.toList 0) ++ List.replicate (m - 0) (.int .u8 0) = (madeCells #[Value.int .u8 0] m).toList := by rw [hmk]; rfl
        rw [e0]; exact hown1
      have HO := Lib.hid hown2
      clear hown1 hown2 hmk hg1
      go_wp2
      go_loopw [24] (fun i wr => ∃ k : Nat, k ≤ m ∧ i = .int .i64 k ∧ okTo s.data.toList k ∧ wr.ownsRow w.heap.size 5 1 (.slice (some ⟨w.heap.size, 0, none⟩) m m) m (byteCells (pairs s.data.toList k) ++ List.replicate (m - k) (.int .u8 0)) ∧ Below w.heap.size w wr) (fun i _ => m - (intOf i).toNat)
      case atStart => exact ⟨0, by omega, rfl, (fun i hi => by omega), HO.out, hb1⟩
      case round =>
        obtain ⟨k, hk, rfl, hok, hown, hbr⟩ := hrel
        have HOK := Lib.hid hok
        clear hok
        by_cases hlt : k < m
        · have hx1 : s.data.toList.getD (2 * k) 0 = s[2 * k]'(by omega) := by
            rw [List.getD_eq_getElem?_getD, List.getElem?_eq_getElem (by rw [HL.out]; omega)]; rfl
          have hx2 : s.data.toList.getD (2 * k + 1) 0 = s[2 * k + 1]'(by omega) := by
            rw [List.getD_eq_getElem?_getD, List.getElem?_eq_getElem (by rw [HL.out]; omega)]; rfl
          have HX1 := Lib.hid hx1
          have HX2 := Lib.hid hx2
          clear hx1 hx2
          have q1 : (0 : Int) ≤ 2 * (k : Int) := by omega
          have q2 : 2 * (k : Int) < (s.size : Int) := by omega
          have q3 : 2 * (k : Int) + 1 < (s.size : Int) := by omega
          have q4 : 2 * k < s.size := by omega
          have q5 : 2 * k + 1 < s.size := by omega
          go_wp2
          have e1 : IntKind.i64.wrap (2 * (k : Int)) = 2 * (k : Int) := IntWalk.i64_in _ (by omega)
          have e2 : IntKind.i64.wrap (2 * (k : Int) + 1) = 2 * (k : Int) + 1 := IntWalk.i64_in _ (by omega)
          have e3 : (2 * (k : Int)).toNat = 2 * k := by omega
          have e4 : (2 * (k : Int) + 1).toNat = 2 * k + 1 := by omega
          have e5 : (0 : Int) ≤ 2 * (k : Int) + 1 := by omega
          go_quiet ((go_at_call 47; exact Calls.quiet_of_same (idx_any _ _)))
          generalize (s[2 * k]'q4) = cx at *
          generalize (s[2 * k + 1]'q5) = cy at *
          clear e1 e2 e3 e4 e5
          have b1 := hv_lt cx
          have b2 := hv_lt cy
          generalize hxx : hv cx = x at *
          generalize hyy : hv cy = y at *
          have HXX := Lib.hid hxx
          have HYY := Lib.hid hyy
          clear hxx hyy
          have hbr' := below_drewN' hbr nq
          have hown' : (wr.drewN nq).ownsRow w.heap.size 5 1 (.slice (some ⟨w.heap.size, 0, none⟩) m m) m (byteCells (pairs s.data.toList k) ++ List.replicate (m - k) (.int .u8 0)) := hown
          generalize wr.drewN nq = wq at *
          clear hown hbr
          by_cases hxy : 0 ≤ x ∧ 0 ≤ y
          · obtain ⟨hx0, hy0⟩ := hxy
            obtain ⟨xn, rfl⟩ := Int.eq_ofNat_of_zero_le hx0
            obtain ⟨yn, rfl⟩ := Int.eq_ofNat_of_zero_le hy0
            have hor := or_nibbles xn yn (by omega) (by omega)
            have hw8 : ((xn : Int) * 16 + (yn : Int)) % 256 = (xn : Int) * 16 + (yn : Int) := by omega
            have hcell : wq.cell? ⟨w.heap.size, k, none⟩ = some (.int .u8 0) := by
              rw [hown'.cellAt k (by omega), List.getElem?_append_right (by rw [byteCells_length, pairs_length]; omega), byteCells_length, pairs_length, Nat.sub_self, List.getElem?_replicate, if_pos (by omega)]
            have hfr := hown'.frozenAt k
            have hst := hown'.stored k (.int .u8 ((xn : Int) * 16 + (yn : Int)))
            have hrow : (byteCells (pairs s.data.toList k) ++ List.replicate (m - k) (Value.int .u8 0)).set k (.int .u8 ((xn : Int) * 16 + (yn : Int))) = byteCells (pairs s.data.toList (k + 1)) ++ List.replicate (m - (k + 1)) (.int .u8 0) := by
              have hbyte : UInt8.ofNat (16 * (hv (s.data.toList.getD (2 * k) 0)).toNat + (hv (s.data.toList.getD (2 * k + 1) 0)).toNat) = UInt8.ofNat (16 * xn + yn) := by
                rw [HX1.out, HX2.out, HXX.out, HYY.out]; rfl
              have hval : (((UInt8.ofNat (16 * xn + yn)).toNat : Nat) : Int) = (xn : Int) * 16 + (yn : Int) := by
                have : (UInt8.ofNat (16 * xn + yn)).toNat = 16 * xn + yn := by simp; omega
                rw [this]; omega
              rw [pairs_snoc, hbyte, byteCells_append]
              have hk0 : (byteCells (pairs s.data.toList k)).length = k := by rw [byteCells_length, pairs_length]
              rw [List.set_append_right _ _ (by omega), hk0, Nat.sub_self, show m - k = (m - (k + 1)) + 1 from by omega, List.replicate_succ, List.set_cons_zero]
              simp only [byteCells, List.map_cons, List.map_nil, hval, List.append_assoc, List.singleton_append]
            have HROW : Hid ((wq.setCell ⟨w.heap.size, k, none⟩ (.int .u8 ((xn : Int) * 16 + (yn : Int)))).ownsRow w.heap.size 5 1 (.slice (some ⟨w.heap.size, 0, none⟩) m m) m (byteCells (pairs s.data.toList (k + 1)) ++ List.replicate (m - (k + 1)) (.int .u8 0))) := by
              have := hst.1
              rw [hrow] at this
              exact this
            have HOK1 : Hid (okTo s.data.toList (k + 1)) := by
              intro i hi
              by_cases hik : i < k
              · exact HOK.out i hik
              · obtain rfl : i = k := by omega
                rw [HX1.out, HX2.out, HXX.out, HYY.out]
                exact ⟨hx0, hy0⟩
            have hbn := hbr'.setCell (p := ⟨w.heap.size, k, none⟩) (Nat.le_refl _) (.int .u8 ((xn : Int) * 16 + (yn : Int)))
            clear hst hrow hown'
            go_wp2
            exact ⟨⟨k + 1, by omega, by go_num, HOK1.out, HROW.out, hbn⟩, by simp [intOf]; omega⟩
          · have HNO : Hid (unhexP s.data.toList = none) := by
              show _ = _
              rw [HP.out, if_neg]
              intro h
              refine hxy ?_
              have := h k (by have := HM.out; omega)
              rw [HX1.out, HX2.out, HXX.out, HYY.out] at this
              exact this
            by_cases hx0 : x < 0
            · go_wp2
              go_ret2
              exact ⟨by rw [HNO.out]; rfl, hbr'⟩
            · have hy0 : y < 0 := by omega
              go_wp2
              go_ret2
              exact ⟨by rw [HNO.out]; rfl, hbr'⟩
        · have hkm : k = m := by omega
          subst hkm
          have HYE : Hid (unhexP s.data.toList = some (pairs s.data.toList k)) := by
            have e : s.size / 2 = k := by have := HM.out; omega
            have h := HP.out
            rw [e, if_pos HOK.out] at h
            exact h
          rw [Nat.sub_self, List.replicate_zero, List.append_nil] at hown
          have hcv : (convert 50 9 (.slice (some ⟨w.heap.size, 0, none⟩) k k)).run Tryd.prog wr = .ok (.string ⟨(pairs s.data.toList k).toArray⟩) wr := by
            have := run_convert_bytes_back (P := Tryd.prog) wr 50 9 5 ⟨w.heap.size, 0, none⟩ k (pairs s.data.toList k) Tryd.underlying50 Tryd.underlying5 Tryd.underlying9 (fun j hj => by
              refine hown.cells (g := w.heap.size) rfl j _ ?_
              simp [byteCells, hj])
            rw [pairs_length] at this
            exact this
          generalize hps : ByteArray.mk (pairs s.data.toList k).toArray = ps at *
          have HPS := Lib.hid hps
          clear hps hown
          go_wp2
          go_ret2
          exact ⟨by rw [HYE.out]; rw [← HPS.out]; rfl, hbr⟩
end Go.Proofs.YtlgepoiaolhajaaDoor
