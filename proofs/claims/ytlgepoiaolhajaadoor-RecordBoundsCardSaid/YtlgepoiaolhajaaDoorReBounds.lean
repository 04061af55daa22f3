/-
  RecordBounds: of any client it answers true.
-/
import Derived.Test.YtlgepoiaolhajaaDoorReAdds
import Derived.Test.YtlgepoiaolhajaaDoorReRead
import Derived.Lib.AppendStr
namespace Go.Proofs.YtlgepoiaolhajaaDoor
open Go.RowKit
open Go.Lib (byteCells byteCells_length byteCells_append strCells)

def take3 (c : Int) : En := ⟨3, c, ⟨#[]⟩, 0, 0, 0, 0, 0, 0⟩
theorem take3_right (c : Int) (h0 : 1 ≤ c) (h1 : c ≤ 8) : (take3 c).wrong = 0 := by
  have e1 : ¬ c < 1 := by omega
  have e2 : ¬ 8 < c := by omega
  simp [take3, En.wrong, En.ofClient, En.noInput, Go.ByteArray.toList_eq, ByteArray.size, e1, e2]
theorem take3_length (c : Int) (h0 : 1 ≤ c) (h1 : c ≤ 8) : (take3 c).line.length = 4 := by
  obtain ⟨n, rfl⟩ := Int.eq_ofNat_of_zero_le (show 0 ≤ c by omega)
  have e3 : Lib.itoa 3 = [UInt8.ofNat (48 + 3)] := itoa_digit 3 (by decide)
  unfold take3
  rw [line_3, itoa_digit n (by omega), e3]
  rfl
def many (n : Nat) (c : Int) : List UInt8 := textOf (List.replicate n (take3 c))
theorem many_succ (n : Nat) (c : Int) : many (n + 1) c = many n c ++ (take3 c).line := by
  unfold many textOf
  rw [List.replicate_succ', List.flatMap_append]
  simp
theorem many_length (n : Nat) (c : Int) (h0 : 1 ≤ c) (h1 : c ≤ 8) : (many n c).length = n * 4 := by
  induction n with
  | zero => rfl
  | succ n ih => rw [many_succ, List.length_append, ih, take3_length c h0 h1]; omega
theorem strCells_bytes (l : List UInt8) : strCells ⟨l.toArray⟩ = byteCells l := by
  simp [strCells, byteCells]

set_option maxHeartbeats 4000000 in
set_option maxRecDepth 100000 in
theorem bounds_any (client : Nat) (w : World) (hcl : client ≤ 255) (ht : Env w) :
    Calls Tryd.prog 6 #[.int .u8 (client : Int)] w (TruePost w) := by
  have HT := Lib.hid ht
  obtain ⟨i0, hi, hz0, hz1, hz2⟩ := info_parts byte_info
  have hc0 : 1 ≤ (client : Int) % 8 + 1 := by omega
  have hc1 : (client : Int) % 8 + 1 ≤ 8 := by omega
  clear ht
  go_enter Tryd.func6, Tryd.ntmps6
  go_wp2_with fail
  generalize (client : Int) % 8 + 1 = c at *
  have hwr := take3_right c hc0 hc1
  have hll := take3_length c hc0 hc1
  have HRD : Hid (rdFrom 0 (many 8192 c) = .good (List.replicate 8192 (take3 c))) := rd_text _ 0 (by simp) (by intro e he; rw [List.eq_of_mem_replicate he]; exact ⟨hwr, by simp [take3]⟩)
  have HRF : Hid (rdFrom 0 (many 8192 c ++ (take3 c).line) = .bad 8193 12) := by
    have := rd_full (take3 c) hwr (by simp [take3]) [] 8192 0 (by omega)
    rw [List.append_nil] at this
    exact this
  have HML := Lib.hid (fun n => many_length n c hc0 hc1)
  have HWR := Lib.hid hwr
  have HLL := Lib.hid hll
  have hW1 := (Below.refl w.heap.size w).alloc (Nat.le_refl _) (.cells #[.int .i64 3, .int .i64 c, .string ⟨#[]⟩, .int .i64 0, .int .i64 0, .int .i64 0, .int .i64 0, .int .u32 0, .int .i64 0] 37)
  have X1 := Box.new w 37 #[.int .i64 3, .int .i64 c, .string ⟨#[]⟩, .int .i64 0, .int .i64 0, .int .i64 0, .int .i64 0, .int .u32 0, .int .i64 0]
  have hs1 : w.heap.size < (w.alloc (.cells #[.int .i64 3, .int .i64 c, .string ⟨#[]⟩, .int .i64 0, .int .i64 0, .int .i64 0, .int .i64 0, .int .u32 0, .int .i64 0] 37)).heap.size := by simp
  generalize w.alloc (.cells #[.int .i64 3, .int .i64 c, .string ⟨#[]⟩, .int .i64 0, .int .i64 0, .int .i64 0, .int .i64 0, .int .u32 0, .int .i64 0] 37) = w1 at *
  refine (line_any (take3 c) w1 hwr (by simp [take3])).mono ?_
  rintro r w2 ⟨rfl, hb2⟩
  have X2 := Lib.hid (X1.below hb2 hs1)
  have hbw2 := hW1.trans (hb2.mono (by omega))
  have hs2 : w.heap.size < w2.heap.size := by have := hb2.size; omega
  have HT2 := Lib.hid (HT.out.below hbw2)
  obtain ⟨ln, hln⟩ : ∃ ln : ByteArray, ln = ⟨(take3 c).line.toArray⟩ := ⟨_, rfl⟩
  rw [← hln]
  have hlns : ln.size = 4 := by rw [hln]; show (take3 c).line.toArray.size = 4; simpa using hll
  have HSC : Hid (strCells ln = byteCells (take3 c).line) := by rw [hln]; exact strCells_bytes _
  have HLN := Lib.hid hln
  have HLNS := Lib.hid hlns
  have hln4 : ln.size ≤ 4 := by omega
  clear X1 hs1 hW1 hb2 hwr hll hln hlns HT
  go_wp2_with fail
  go_loopw [5, 22] (fun v i wr => ∃ k : Nat, k ≤ 8192 ∧ i = .int .i64 k ∧ wr.ownsRow w2.heap.size 5 1 v (k * 4) (byteCells (many k c)) ∧ Below w2.heap.size w2 wr) (fun _ i _ => 8192 - (intOf i).toNat)
  case atStart => exact ⟨0, by omega, rfl, World.ownsRow_nil _ _ _ _, Below.refl _ _⟩
  case round =>
    obtain ⟨k, hk, rfl, hown, hbr⟩ := hrel
    have hsr := hbr.size
    by_cases hlt : k < 8192
    · have hlt' : (k : Int) < 8192 := by omega
      go_wp2_with (at_builtin; refine Lib.wpList_append_own_string _ rfl _ _ 50 9 rfl w2.heap.size 5 i0 Tryd.underlying50 Tryd.underlying9 hi hz0 hz1 hz2 _ _ _ rfl hown ln rfl (by unfold maxLen; omega) (by omega) (by omega) ?_)
      intro v3 w3 hown3 hg3 _
      have HO3 : Hid (w3.ownsRow w2.heap.size 5 1 v3 ((k + 1) * 4) (byteCells (many (k + 1) c))) := by
        have e : (k + 1) * 4 = k * 4 + ln.size := by rw [HLNS.out]; omega
        rw [e, many_succ, byteCells_append, ← HSC.out]
        exact hown3
      have HB3 : Hid (Below w2.heap.size w2 w3) := hbr.grown hg3 hsr (fun j hj => (hown.lt j hj).1)
      clear hown3 hg3 hown hbr
      go_wp2
      exact ⟨⟨k + 1, by omega, by go_num, HO3.out, HB3.out⟩, by simp [intOf]; omega⟩
    · have hkk : k = 8192 := by omega
      subst hkk
      clear hlt hk
      obtain ⟨g, cap, rfl, -, -⟩ := hown.form (by omega)
      obtain ⟨st, hst⟩ : ∃ st : ByteArray, st = ⟨(many 8192 c).toArray⟩ := ⟨_, rfl⟩
      have hcv : (convert 50 9 (.slice (some ⟨g, 0, none⟩) 32768 cap)).run Tryd.prog wr = .ok (.string st) wr := by
        have := run_convert_bytes_back (P := Tryd.prog) wr 50 9 5 ⟨g, 0, none⟩ cap (many 8192 c) Tryd.underlying50 Tryd.underlying5 Tryd.underlying9 (fun j hj => by
          refine hown.cells (g := g) rfl j _ ?_
          simp [byteCells, hj])
        rw [HML.out 8192] at this
        rw [hst]
        exact this
      have hsd : st.data.toList = many 8192 c := by rw [hst]
      have hss : st.size ≤ 40000 := by
        have h1 : st.size = (many 8192 c).length := by rw [← hsd]; simp
        have := HML.out 8192
        omega
      have HSD := Lib.hid hsd
      have HST := Lib.hid hst
      have X3 := Lib.hid (X2.out.below hbr hs2)
      have HT3 := Lib.hid (HT2.out.below hbr)
      have hbw3 := belowThen hbw2 hbr
      have hs3 : w.heap.size < wr.heap.size := by omega
      clear hown hbr hsd hst X2 HT2 hbw2 hs2 hsr
      go_wp2_with fail
      refine (read_any st _ (by omega) HT3.out).mono ?_
      rintro r w4 ⟨v4, rfl, ht4, hb4⟩
      rw [HSD.out, HRD.out] at ht4
      rw [HSD.out, HRD.out]
      have ht4' : Tapes w4 v4 (List.replicate 8192 (take3 c)) := ht4
      have hlr : (List.replicate 8192 (take3 c)).length = 8192 := by simp
      generalize List.replicate 8192 (take3 c) = es at *
      have HLR := Lib.hid hlr
      have HV4 := Lib.hid ht4'
      have X4 := Lib.hid (X3.out.below hb4 hs3)
      have HT4 := Lib.hid (HT3.out.below hb4)
      have hbw4 := belowThen hbw3 hb4
      have hs4 : w.heap.size < w4.heap.size := by have := hb4.size; omega
      obtain ⟨A4, c4, rfl, -⟩ := ht4'
      clear ht4 hb4 X3 HT3 hbw3 hs3 hcv
      simp only [Rs.line, Rs.code, hlr]
      clear hlr
      obtain ⟨q0, q1, q2, q3, q4, q5, q6, q7, q8⟩ := box9 X4.out
      go_wp2_with fail
      have hW5 := (Below.refl w4.heap.size w4).alloc (Nat.le_refl _) (.cells #[.slice A4 8192 c4] 26)
      have X5 := Lib.hid (X4.out.below hW5 hs4)
      have Y5 := Box.new w4 26 #[.slice A4 8192 c4]
      have hs5 : w4.heap.size < (w4.alloc (.cells #[.slice A4 8192 c4] 26)).heap.size := by simp
      have HV5 := Lib.hid (HV4.out.below hW5)
      have HT5 := Lib.hid (HT4.out.below hW5)
      have hbw5 := belowThen hbw4 hW5
      generalize w4.alloc (.cells #[.slice A4 8192 c4] 26) = w5 at *
      clear X4 HV4 HT4 hbw4 q0 q1 q2 q3 q4 q5 q6 q7 q8 hW5
      have HV5' : Hid (Tapes w5 (.slice A4 8192 c4) es) := by
        have := HV5.out
        rw [HLR.out] at this
        exact this
      refine (add_any es (take3 c) (.slice A4 8192 c4) w5 HV5'.out (by rw [HLR.out]; omega)).mono ?_
      rintro r w6 ⟨v6, rfl, hb6, ht6, hne6, -⟩
      have hcode : addCode es (take3 c).wrong = 12 := by
        unfold addCode
        rw [HWR.out, if_neg (by simp), if_pos (by rw [HLR.out]; omega)]
      have hv6 := hne6 (by rw [hcode]; omega)
      subst hv6
      rw [hcode]
      have Y6 := Lib.hid (Y5.below hb6 hs5)
      have HV6 := Lib.hid (HV5'.out.below hb6)
      have HT6 := Lib.hid (HT5.out.below hb6)
      have hbw6 := belowThen hbw5 hb6
      have hs6 : w4.heap.size < w6.heap.size := by have := hb6.size; omega
      clear ht6 hne6 hcode hb6 Y5 HV5 HV5' HT5 hbw5 hs5 X5
      have hadd : ∀ W, (Op.stringOp .add st ln).run Tryd.prog W = .ok (.string ⟨(many 8192 c ++ (take3 c).line).toArray⟩) W := by
        intro W
        rw [HST.out, HLN.out]
        refine add_run _ _ W ?_
        rw [HML.out 8192, HLL.out]; omega
      obtain ⟨sl, hsl⟩ : ∃ sl : ByteArray, sl = ⟨(many 8192 c ++ (take3 c).line).toArray⟩ := ⟨_, rfl⟩
      rw [← hsl] at hadd
      have hsld : sl.data.toList = many 8192 c ++ (take3 c).line := by rw [hsl]
      have hsls : sl.size ≤ 40000 := by
        have h1 : sl.size = (many 8192 c ++ (take3 c).line).length := by rw [← hsld]; simp
        rw [List.length_append, HML.out 8192, HLL.out] at h1
        omega
      have HSLD := Lib.hid hsld
      clear hsl hsld
      go_wp2_with fail
      have hW7 := (Below.refl w6.heap.size w6).alloc (Nat.le_refl _) (.cells #[.slice A4 8192 c4] 26)
      have Y7 := Lib.hid (Y6.out.below hW7 hs6)
      have HV7 := Lib.hid (HV6.out.below hW7)
      have HT7 := Lib.hid (HT6.out.below hW7)
      have hbw7 := belowThen hbw6 hW7
      have hs7 : w4.heap.size < (w6.alloc (.cells #[.slice A4 8192 c4] 26)).heap.size := by simp; omega
      generalize w6.alloc (.cells #[.slice A4 8192 c4] 26) = w7 at *
      clear hW7 Y6 HV6 HT6 hbw6 hadd
      refine (read_any sl _ (by omega) HT7.out).mono ?_
      rintro r w8 ⟨v8, rfl, ht8, hb8⟩
      rw [HSLD.out, HRF.out] at ht8
      rw [HSLD.out, HRF.out]
      obtain ⟨A8, c8, rfl, -⟩ := ht8
      simp only [Rs.line, Rs.code, Rs.es, List.length_nil]
      have Y8 := Lib.hid (Y7.out.below hb8 hs7)
      have HV8 := Lib.hid (HV7.out.below hb8)
      have HT8 := Lib.hid (HT7.out.below hb8)
      have hbw8 := belowThen hbw7 hb8
      have hs8 : w4.heap.size < w8.heap.size := by have := hb8.size; omega
      clear hb8 Y7 HV7 HT7 hbw7 hs7
      go_wp2_with fail
      have hW9 := (Below.refl w8.heap.size w8).alloc (Nat.le_refl _) (.cells #[.slice A8 0 c8] 26)
      have Y9 := Lib.hid (Y8.out.below hW9 hs8)
      have HV9 := Lib.hid (HV8.out.below hW9)
      have HT9 := Lib.hid (HT8.out.below hW9)
      have hbw9 := belowThen hbw8 hW9
      have hs9 : w4.heap.size < (w8.alloc (.cells #[.slice A8 0 c8] 26)).heap.size := by simp; omega
      generalize w8.alloc (.cells #[.slice A8 0 c8] 26) = w9 at *
      clear hW9 Y8 HV8 HT8 hbw8
      refine (awake_any _ HT9.out.tab).mono ?_
      rintro r wa ⟨rfl, hba⟩
      have Ya := Y9.out.below hba hs9
      have HVa := Lib.hid (HV9.out.below hba)
      have hbwa := belowThen hbw9 hba
      obtain ⟨x0, x1⟩ := box1 Ya
      clear hba Ya x1 Y9 HV9 HT9 hbw9
      go_wp2_with fail
      refine (all_any es _ _ HVa.out (by rw [HLR.out]; omega)).mono ?_
      rintro r wb ⟨vb, rfl, hbb, htb⟩
      have hbwb := belowThen hbwa hbb
      obtain ⟨Ab, cb, rfl, -⟩ := htb
      rw [HLR.out]
      clear hbb hbwa HVa x0
      go_wp2
      go_ret
      exact ⟨rfl, hbwb⟩
end Go.Proofs.YtlgepoiaolhajaaDoor
