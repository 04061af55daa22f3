/-
  RecordReads: of any text it answers true.
-/
import Derived.Test.YtlgepoiaolhajaaDoorReRefR
import Derived.Test.YtlgepoiaolhajaaDoorReAdds
namespace Go.Proofs.YtlgepoiaolhajaaDoor
open Go.RowKit

theorem rd_bad (n : Nat) : ∀ k l m c, l.length ≤ n → rdFrom k l = .bad m c → c = 2 ∨ c = 12 := by
  induction n with
  | zero =>
    intro k l m c hl h
    have : l = [] := List.eq_nil_of_length_eq_zero (by omega)
    subst this
    rw [rdFrom_nil] at h
    cases h
  | succ n ih =>
    intro k l m c hl h
    by_cases h10 : (10 : UInt8) ∈ l
    · obtain ⟨a, b, rfl, hn⟩ := first_of 10 l h10
      rw [rdFrom_cons k a b hn] at h
      cases hr : recEntry a with
      | none => rw [hr] at h; injection h with _ h; exact .inl h.symm
      | some e =>
        rw [hr] at h
        simp only [] at h
        split at h
        · injection h with _ h; exact .inr h.symm
        · cases hf : rdFrom (k + 1) b with
          | good fs => rw [hf] at h; cases h
          | bad m' c' =>
            rw [hf] at h
            simp only [Rs.onto] at h
            injection h with _ h
            subst h
            exact ih (k + 1) b m' _ (by simp at hl; omega) hf
    · by_cases h0 : l = []
      · subst h0
        rw [rdFrom_nil] at h
        cases h
      · rw [rdFrom_none k l h10 h0] at h
        injection h with _ h
        exact .inl h.symm

set_option maxHeartbeats 4000000 in
set_option maxRecDepth 100000 in
theorem reads_any (s : ByteArray) (w : World) (hs : s.size ≤ maxLen) (ht : Env w) :
    Calls Tryd.prog 5 #[.string s] w (TruePost w) := by
  unfold maxLen at hs
  have HT := Lib.hid ht
  clear ht
  by_cases hlong : 4000 < s.size
  · have hl1 : (4000 : Int) < (s.size : Int) := by omega
    clear hlong
    go_enter Tryd.func5, Tryd.ntmps5
    go_wp2_with (go_at_call 8; refine (awake_any _ HT.out.tab).mono ?_; rintro r w2 ⟨rfl, hb2⟩)
    go_ret
    exact ⟨rfl, hb2⟩
  · have hl1 : ¬ (4000 : Int) < (s.size : Int) := by omega
    have hl2 : s.size ≤ 4000 := by omega
    have HBK : Hid (∀ es, rdFrom 0 s.data.toList = .good es → textOf es = s.data.toList ∧ (∀ e ∈ es, e.wrong = 0 ∧ 0 ≤ e.time) ∧ es.length ≤ 8192) := by
      intro es h
      obtain ⟨h1, h2, h3⟩ := rd_back _ 0 s.data.toList es (Nat.le_refl _) h
      exact ⟨h1, h2, by omega⟩
    have HBD : Hid (∀ m c, rdFrom 0 s.data.toList = .bad m c → c ≠ 0) := by
      intro m c h e
      rcases rd_bad _ 0 s.data.toList m c (Nat.le_refl _) h with h | h <;> omega
    have HRA := Lib.hid (fun W (hW : Env W) => read_any s W (by omega) hW)
    have HRB := Lib.hid (fun W => rread_any s W (by omega))
    generalize rdFrom 0 s.data.toList = RS at *
    have hel : RS.es.length ≤ 9000 := by
      cases RS with
      | good es => have := (HBK.out es rfl).2.2; simp only [Rs.es]; omega
      | bad n c => simp [Rs.es]
    clear hlong
    go_enter Tryd.func5, Tryd.ntmps5
    go_wp2_with fail
    refine (HRA.out _ HT.out).mono ?_
    rintro r w1 ⟨v1, rfl, ht1, hb1⟩
    have HV1 := Lib.hid ht1
    have HT1 := Lib.hid (HT.out.below hb1)
    obtain ⟨A1, c1, rfl, -⟩ := ht1
    clear HRA HT
    go_wp2_with fail
    have hW2 := (Below.refl w1.heap.size w1).alloc (Nat.le_refl _) (.cells #[.slice A1 RS.es.length c1] 26)
    have X2 := Box.new w1 26 #[.slice A1 RS.es.length c1]
    have hs2 : w1.heap.size < (w1.alloc (.cells #[.slice A1 RS.es.length c1] 26)).heap.size := by simp
    have HV2 := Lib.hid (HV1.out.below hW2)
    have HT2 := Lib.hid (HT1.out.below hW2)
    have hbw2 := belowThen hb1 hW2
    generalize w1.alloc (.cells #[.slice A1 RS.es.length c1] 26) = w2 at *
    clear hW2 HV1 HT1 hb1
    refine (HRB.out w2).mono ?_
    rintro r w3 ⟨v3, rfl, ht3, hb3⟩
    have HM3 := Lib.hid ht3
    obtain ⟨A3, c3, rfl, -⟩ := ht3
    have X3 := Lib.hid (X2.below hb3 hs2)
    have HV3 := Lib.hid (HV2.out.below hb3)
    have HT3 := Lib.hid (HT2.out.below hb3)
    have hbw3 := belowThen hbw2 hb3
    have hs3 : w1.heap.size < w3.heap.size := by have := hb3.size; omega
    clear X2 HV2 HT2 hbw2 hb3 HRB hs2
    go_wp2_with fail
    refine (awake_any _ HT3.out.tab).mono ?_
    rintro r w4 ⟨rfl, hb4⟩
    have X4 := Lib.hid (X3.out.below hb4 hs3)
    have HV4 := Lib.hid (HV3.out.below hb4)
    have HM4 := Lib.hid (HM3.out.below hb4)
    have HT4 := Lib.hid (HT3.out.below hb4)
    have hbw4 := belowThen hbw3 hb4
    have hs4 : w1.heap.size < w4.heap.size := by have := hb4.size; omega
    clear X3 HV3 HM3 HT3 hbw3 hb4 hs3
    obtain ⟨x4, x4'⟩ := box1 X4.out
    clear x4'
    go_wp2_with fail
    refine (is_same RS.es _ _ _ HV4.out HM4.out hel).mono ?_
    rintro r w5 ⟨rfl, hb5⟩
    have X5 := X4.out.below hb5 hs4
    have HV5 := Lib.hid (HV4.out.below hb5)
    have HT5 := Lib.hid (HT4.out.below hb5)
    have hbw5 := belowThen hbw4 hb5
    clear X4 HV4 HM4 HT4 hbw4 hb5 x4
    obtain ⟨x5, x5'⟩ := box1 X5
    clear x5'
    have hq1 : (RS.line == RS.line) = true := by simp
    have hq2 : (RS.code == RS.code) = true := by simp
    by_cases hc : RS.code = 0
    · cases RS with
      | bad n c =>
        exact absurd hc (HBD.out n c rfl)
      | good es =>
        obtain ⟨hb, hok, hlen⟩ := HBK.out es rfl
        have HB := Lib.hid hb
        have HOK := Lib.hid hok
        simp only [Rs.code, Rs.line, Rs.es] at *
        clear hb hok hq1 hq2 hc
        go_wp2_with fail
        refine (text_any es _ _ HV5.out (by omega) HOK.out HT5.out.tab).mono ?_
        rintro r w6 ⟨rfl, hb6⟩
        have hst : (ByteArray.mk (textOf es).toArray) = s := by
          rw [HB.out]
        rw [hst]
        have hbw6 := belowThen hbw5 hb6
        clear hst
        go_wp2
        go_ret
        exact ⟨rfl, hbw6⟩
    · have hc1 : (RS.code != 0) = true := by simpa using hc
      have hc2 : (RS.code == 0) = false := by simpa using hc
      clear hc
      generalize RS.code = qc at *
      generalize RS.line = ql at *
      go_wp2
      go_ret
      exact ⟨rfl, hbw5⟩
end Go.Proofs.YtlgepoiaolhajaaDoor
