/-
  RecordBack: of any entries, and any cut, it answers true.
-/
import Derived.Test.YtlgepoiaolhajaaDoorReAdds
import Derived.Test.YtlgepoiaolhajaaDoorReRead
namespace Go.Proofs.YtlgepoiaolhajaaDoor
open Go.RowKit

set_option maxHeartbeats 4000000 in
set_option maxRecDepth 100000 in
theorem back_any (es : List En) (A : Option Addr) (n c : Nat) (cut : Nat) (w : World) (hcut : cut ≤ 65535) (hn : n = es.length) (hr : Reads w w.heap.size 9 A n (flat es)) (hm : n ≤ maxLen) (hby : ∀ e ∈ es, e.bytes.size ≤ 140737488351232) (htm : ∀ e ∈ es, 0 ≤ e.time) (ht : Env w) :
    Calls Tryd.prog 4 #[.slice A n c, .int .u16 (cut : Int)] w (TruePost w) := by
  have HF := Lib.hid (few_any es A n c w hn hr hm hby)
  have HN := Lib.hid hn
  have HR := Lib.hid hr
  have HT := Lib.hid ht
  have HTM := Lib.hid htm
  clear hn hr hm hby ht htm
  go_enter Tryd.func4, Tryd.ntmps4
  go_wp2_with fail
  refine HF.out.mono ?_
  rintro r w1 ⟨b, rfl, hfew, hb1⟩
  clear HF
  cases b with
  | false =>
    clear hfew
    go_wp2_with (go_at_call 8; refine (awake_any _ (HT.out.below hb1).tab).mono ?_; rintro r w2 ⟨rfl, hb2⟩)
    go_ret
    exact ⟨rfl, belowThen hb1 hb2⟩
  | true =>
    obtain ⟨h60, -⟩ := hfew rfl
    clear hfew
    have hn60 : n ≤ 60 := by have := HN.out; omega
    have HR1 := Lib.hid ((HR.out.below hb1).more hb1.size)
    have HT1 := Lib.hid (HT.out.below hb1)
    go_wp2_with fail
    refine (made_any es A n c _ HN.out HR1.out (by omega)).mono ?_
    rintro r w2 ⟨tv, m, kp, cd, rfl, hb2, htv, hmv, hkv, hcd⟩
    have HGM : Hid (∀ e ∈ good es, e.wrong = 0 ∧ 0 ≤ e.time) := fun e he => ⟨(good_mem he).2, HTM.out e (good_mem he).1⟩
    have hgl : (good es).length ≤ 60 := Nat.le_trans (good_le es) h60
    have HTV := Lib.hid htv
    have HMV := Lib.hid hmv
    have HT2 := Lib.hid (HT1.out.below hb2)
    have hbw2 := belowThen hb1 hb2
    obtain ⟨A1, c1, rfl, -⟩ := htv
    obtain ⟨A2, c2, rfl, -⟩ := hmv
    obtain ⟨A3, c3, rfl, -⟩ := hkv
    obtain ⟨A4, c4, rfl⟩ : ∃ A4 c4, cd = .slice A4 es.length c4 := by
      rcases hcd.2 with ⟨h, h0⟩ | ⟨g, cap, cur, h, _⟩
      · exact ⟨none, 0, by rw [h, h0]⟩
      · exact ⟨_, _, h⟩
    clear hcd hb1 hb2 HR1 HT1 HR HT HTM
    generalize good es = gs at *
    have HTX := Lib.hid (textOf_length gs HGM.out)
    have HRT := Lib.hid (rd_text gs 0 (by omega) HGM.out)
    have HCT := Lib.hid (fun j => rd_cut gs 0 j (by omega) HGM.out)
    go_wp2_with fail
    have hW3 := (Below.refl w2.heap.size w2).alloc (Nat.le_refl _) (.cells #[.slice A1 gs.length c1] 26)
    refine (text_any gs _ _ (HTV.out.below hW3) (by omega) HGM.out (HT2.out.below hW3).tab).mono ?_
    rintro r w3 ⟨rfl, hb3⟩
    have hb23 := hW3.trans (hb3.mono (by simp))
    have HMV3 := Lib.hid (HMV.out.below hb23)
    have HT3 := Lib.hid (HT2.out.below hb23)
    have hbw3 := belowThen hbw2 hb23
    obtain ⟨st, hst⟩ : ∃ st : ByteArray, st = ⟨(textOf gs).toArray⟩ := ⟨_, rfl⟩
    rw [← hst]
    have hsd : st.data.toList = textOf gs := by rw [hst]
    have hss : st.size = (textOf gs).length := by rw [← hsd]; simp
    have hsz : st.size ≤ 8400000 := by have := HTX.out; omega
    have HSD := Lib.hid hsd
    have HSS := Lib.hid hss
    clear hW3 hb3 hb23 HMV HT2 hbw2 hst hsd hss HTV HTX
    go_wp2_with fail
    refine (read_any st _ (by omega) HT3.out).mono ?_
    rintro r w4 ⟨v4, rfl, ht4, hb4⟩
    rw [HSD.out, HRT.out] at ht4
    rw [HSD.out, HRT.out]
    have ht4' : Tapes w4 v4 gs := ht4
    have HT4 := Lib.hid (HT3.out.below hb4)
    have HMV4 := Lib.hid (HMV3.out.below hb4)
    have hbw4 := belowThen hbw3 hb4
    have HV4 := Lib.hid ht4'
    obtain ⟨A5, c5, rfl, -⟩ := ht4'
    clear ht4 hb4 HMV3 HT3 hbw3
    simp only [Rs.line, Rs.code]
    go_wp2_with fail
    have hW5 := (Below.refl w4.heap.size w4).alloc (Nat.le_refl _) (.cells #[.slice A5 gs.length c5] 26)
    refine (is_same gs _ _ _ (HV4.out.below hW5) (HMV4.out.below hW5) (by omega)).mono ?_
    rintro r w5 ⟨rfl, hb5⟩
    have hb45 := hW5.trans (hb5.mono (by simp))
    have HT5 := Lib.hid (HT4.out.below hb45)
    have hbw5 := belowThen hbw4 hb45
    clear hW5 hb5 hb45 HT4 HMV4 HV4 hbw4
    obtain ⟨K, hK⟩ : ∃ K, K = cut % (st.size + 1) := ⟨_, rfl⟩
    have hKl : K ≤ st.size := by have := Nat.mod_lt cut (show 0 < st.size + 1 by omega); omega
    have hKi : (cut : Int) % ((st.size : Int) + 1) = (K : Int) := by rw [hK, Int.natCast_emod]; simp
    clear hK
    go_wp2_with fail
    simp only [hKi]
    clear hKi
    have hxd : (st.extract 0 K).data.toList = (textOf gs).take K := by
      rw [← HSD.out, ByteArray.data_extract]; simp
    have hxs : (st.extract 0 K).size ≤ 8400000 := by rw [ByteArray.size_extract]; omega
    generalize st.extract 0 K = sk at *
    have HXD := Lib.hid hxd
    clear hxd
    refine (read_any sk _ (by omega) HT5.out).mono ?_
    rintro r w6 ⟨v6, rfl, ht6, hb6⟩
    rw [HXD.out] at ht6
    rw [HXD.out]
    have HT6 := Lib.hid (HT5.out.below hb6)
    have hbw6 := belowThen hbw5 hb6
    clear hb6 HT5 hbw5
    have HC := Lib.hid (HCT.out K (by have := HSS.out; omega))
    by_cases hend : K = 0 ∨ (textOf gs)[K - 1]? = some 10
    · obtain ⟨nn, hnn, hrr⟩ := HC.out.1 hend
      rw [hrr] at ht6 ⊢
      have ht6' : Tapes w6 v6 (gs.take nn) := ht6
      have HV6 := Lib.hid ht6'
      have hgn : (gs.take nn).length ≤ gs.length := List.length_take_le' _ _
      obtain ⟨A7, c7, rfl, -⟩ := ht6'
      generalize gs.take nn = hs at *
      clear ht6 hrr
      simp only [Rs.line, Rs.code]
      by_cases h0 : K = 0
      · subst h0
        clear hend
        go_wp2_with fail
        have hW7 := (Below.refl w6.heap.size w6).alloc (Nat.le_refl _) (.cells #[.slice A7 hs.length c7] 26)
        have X7 := Box.new w6 26 #[.slice A7 hs.length c7]
        have hs7 : w6.heap.size < (w6.alloc (.cells #[.slice A7 hs.length c7] 26)).heap.size := by simp
        have HT7 := Lib.hid (HT6.out.below hW7)
        have HV7 := Lib.hid (HV6.out.below hW7)
        have hbw7 := belowThen hbw6 hW7
        generalize w6.alloc (.cells #[.slice A7 hs.length c7] 26) = w7 at *
        refine (awake_any _ HT7.out.tab).mono ?_
        rintro r w8 ⟨rfl, hb8⟩
        obtain ⟨x8, x8'⟩ := box1 (X7.below hb8 hs7)
        have HV8 := Lib.hid (HV7.out.below hb8)
        have hbw8 := belowThen hbw7 hb8
        clear hW7 X7 hs7 HT7 HV7 hbw7 hb8 x8' HT6 HV6 hbw6
        go_wp2_with fail
        refine (all_any hs _ _ HV8.out (by omega)).mono ?_
        rintro r w9 ⟨v9, rfl, hb9, ht9⟩
        have hbw9 := belowThen hbw8 hb9
        obtain ⟨A9, c9, rfl, -⟩ := ht9
        clear hb9 hbw8 HV8
        go_wp2
        go_ret
        exact ⟨rfl, hbw9⟩
      · obtain ⟨j, rfl⟩ : ∃ j, K = j + 1 := ⟨K - 1, by omega⟩
        have hj : j < st.size := by omega
        have hbyte : st[j]'hj = 10 := by
          rcases hend with h | h
          · omega
          · rw [Nat.add_sub_cancel, ← HSD.out] at h
            have hjl : j < st.data.toList.length := by simpa using hj
            rw [List.getElem?_eq_getElem hjl] at h
            injection h
        have hb1 : ((st[j]'hj).toNat : Int) = 10 := by rw [hbyte]; rfl
        have hb2 : (((st[j]'hj).toNat : Int) == 10) = true := by simpa using hb1
        have hK0 : (((j : Int) + 1) == 0) = false := by rw [beq_eq_false_iff_ne]; omega
        clear hend h0 hbyte hb1
        go_wp2_with fail
        have hW7 := (Below.refl w6.heap.size w6).alloc (Nat.le_refl _) (.cells #[.slice A7 hs.length c7] 26)
        have X7 := Box.new w6 26 #[.slice A7 hs.length c7]
        have hs7 : w6.heap.size < (w6.alloc (.cells #[.slice A7 hs.length c7] 26)).heap.size := by simp
        have HT7 := Lib.hid (HT6.out.below hW7)
        have HV7 := Lib.hid (HV6.out.below hW7)
        have hbw7 := belowThen hbw6 hW7
        generalize w6.alloc (.cells #[.slice A7 hs.length c7] 26) = w7 at *
        refine (awake_any _ HT7.out.tab).mono ?_
        rintro r w8 ⟨rfl, hb8⟩
        obtain ⟨x8, x8'⟩ := box1 (X7.below hb8 hs7)
        have HV8 := Lib.hid (HV7.out.below hb8)
        have hbw8 := belowThen hbw7 hb8
        clear hW7 X7 hs7 HT7 HV7 hbw7 hb8 x8' HT6 HV6 hbw6
        go_wp2_with fail
        refine (all_any hs _ _ HV8.out (by omega)).mono ?_
        rintro r w9 ⟨v9, rfl, hb9, ht9⟩
        have hbw9 := belowThen hbw8 hb9
        obtain ⟨A9, c9, rfl, -⟩ := ht9
        clear hb9 hbw8 HV8
        go_wp2
        go_ret
        exact ⟨rfl, hbw9⟩
    · obtain ⟨nn, hrr⟩ := HC.out.2 hend
      rw [hrr] at ht6 ⊢
      have ht6' : Tapes w6 v6 [] := ht6
      have HV6 := Lib.hid ht6'
      obtain ⟨A7, c7, rfl, -⟩ := ht6'
      clear ht6 hrr
      simp only [Rs.line, Rs.code, List.length_nil]
      simp only [not_or] at hend
      obtain ⟨h0, h10⟩ := hend
      obtain ⟨j, rfl⟩ : ∃ j, K = j + 1 := ⟨K - 1, by omega⟩
      have hj : j < st.size := by omega
      have hbyte : st[j]'hj ≠ 10 := by
        intro h
        refine h10 ?_
        rw [Nat.add_sub_cancel, ← HSD.out]
        have hjl : j < st.data.toList.length := by simpa using hj
        rw [List.getElem?_eq_getElem hjl]
        exact congrArg some h
      have hb1 : (((st[j]'hj).toNat : Int) == 10) = false := by
        rw [beq_eq_false_iff_ne]
        intro h
        exact hbyte (UInt8.toNat_inj.1 (by show _ = 10; omega))
      have hK0 : (((j : Int) + 1) == 0) = false := by rw [beq_eq_false_iff_ne]; omega
      have hnn : (0 : Int) < (nn : Int) + 1 := by omega
      clear h0 h10 hbyte
      go_wp2_with fail
      have hW7 := (Below.refl w6.heap.size w6).alloc (Nat.le_refl _) (.cells #[.slice A7 0 c7] 26)
      have X7 := Box.new w6 26 #[.slice A7 0 c7]
      have hs7 : w6.heap.size < (w6.alloc (.cells #[.slice A7 0 c7] 26)).heap.size := by simp
      have HT7 := Lib.hid (HT6.out.below hW7)
      have HV7 := Lib.hid (HV6.out.below hW7)
      have hbw7 := belowThen hbw6 hW7
      generalize w6.alloc (.cells #[.slice A7 0 c7] 26) = w7 at *
      refine (awake_any _ HT7.out.tab).mono ?_
      rintro r w8 ⟨rfl, hb8⟩
      obtain ⟨x8, x8'⟩ := box1 (X7.below hb8 hs7)
      have HV8 := Lib.hid (HV7.out.below hb8)
      have hbw8 := belowThen hbw7 hb8
      clear hW7 X7 hs7 HT7 HV7 hbw7 hb8 x8' HT6 HV6 hbw6
      go_wp2_with fail
      refine (all_any [] (.slice A7 0 c7) _ HV8.out (by simp)).mono ?_
      rintro r w9 ⟨v9, rfl, hb9, ht9⟩
      have hbw9 := belowThen hbw8 hb9
      obtain ⟨A9, c9, rfl, -⟩ := ht9
      clear hb9 hbw8 HV8
      go_wp2
      go_ret
      exact ⟨rfl, hbw9⟩
end Go.Proofs.YtlgepoiaolhajaaDoor
