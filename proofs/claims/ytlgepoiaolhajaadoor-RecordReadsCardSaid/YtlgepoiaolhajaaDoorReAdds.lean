/-
  RecordAdds: of any entries it answers true.
-/
import Derived.Test.YtlgepoiaolhajaaDoorReAwake
import Derived.Test.YtlgepoiaolhajaaDoorReMade2
import Derived.Test.YtlgepoiaolhajaaDoorReLine1
import Derived.Test.YtlgepoiaolhajaaDoorReAll
namespace Go.Proofs.YtlgepoiaolhajaaDoor
open Go.RowKit

theorem line_any (e : En) (w : World) (h : e.wrong = 0) (ht : 0 ≤ e.time) : Calls Tryd.prog 10 #[e.val] w (StrP ⟨e.line.toArray⟩ w) := by
  obtain ⟨a1, a2, a3, a4, a5, a6⟩ := wrong_zero h
  obtain ⟨k, cl, bs, a, b, c, d, t, n⟩ := e
  simp only at a1 a2 a3 a4 a5 a6 ht
  obtain rfl | rfl | rfl | rfl | rfl : k = 0 ∨ k = 1 ∨ k = 2 ∨ k = 3 ∨ k = 4 := by omega
  · exact Line_0 cl bs a b c d t n w
  · exact Line_1 cl bs a b c d t n w ⟨a3, a4⟩ a5
  · have := a6 rfl
    exact Line_2 cl bs a b c d t n w (by omega) (by omega) (by omega) (by omega) ht (by omega)
  · exact Line_3 cl bs a b c d t n w ⟨a3, a4⟩
  · exact Line_4 cl bs a b c d t n w ⟨a3, a4⟩

theorem good_mem {es : List En} {e : En} (h : e ∈ good es) : e ∈ es ∧ e.wrong = 0 := by
  unfold good at h
  rw [List.mem_filter] at h
  exact ⟨h.1, by simpa using h.2⟩

theorem code_at {w : World} {B : Nat} {A : Option Addr} {es : List En} (h : Reads w B 1 A es.length (codes es)) {k : Nat} (hk : k < es.length) :
    ∃ b o, A = some ⟨b, o, none⟩ ∧ b < B ∧ w.cell? ⟨b, o + k, none⟩ = some (.int .i64 es[k].wrong) := by
  obtain ⟨⟨b, o, sp⟩, rfl, hb, hc⟩ := h.2 (by omega)
  have hx : ∀ j (hj : j < es.length), (codes es)[j]? = some (.int .i64 es[j].wrong) := fun j hj => by simp [codes, hj]
  have h0 := hc 0 _ (hx 0 (by omega))
  have hsp : sp = none := by
    cases sp with
    | none => rfl
    | some s => simp [Addr.add, World.cell?] at h0; split at h0 <;> simp at h0
  subst hsp
  refine ⟨b, o, rfl, hb, ?_⟩
  have := hc k _ (hx k hk)
  rw [← this]
  unfold Addr.add
  split
  · next h => subst h; rfl
  · rfl

set_option maxHeartbeats 4000000 in
set_option maxRecDepth 100000 in
theorem adds_any (es : List En) (A : Option Addr) (n c : Nat) (w : World) (hn : n = es.length) (hr : Reads w w.heap.size 9 A n (flat es)) (hm : n ≤ maxLen) (hby : ∀ e ∈ es, e.bytes.size ≤ 140737488351232) (htm : ∀ e ∈ es, 0 ≤ e.time) (ht : Tab w) :
    Calls Tryd.prog 3 #[.slice A n c] w (TruePost w) := by
  have HF := Lib.hid (few_any es A n c w hn hr hm hby)
  have HN := Lib.hid hn
  have HR := Lib.hid hr
  have HT := Lib.hid ht
  have HTM := Lib.hid htm
  clear hn hr hm hby ht htm
  go_enter Tryd.func3, Tryd.ntmps3
  go_wp2_with fail
  refine HF.out.mono ?_
  rintro r w1 ⟨b, rfl, hfew, hb1⟩
  clear HF
  cases b with
  | false =>
    clear hfew
    go_wp2_with (go_at_call 8; refine (awake_any _ (HT.out.below hb1)).mono ?_; rintro r w2 ⟨rfl, hb2⟩)
    go_ret
    exact ⟨rfl, belowThen hb1 hb2⟩
  | true =>
    obtain ⟨h60, hbulk⟩ := hfew rfl
    clear hfew
    have hn60 : n ≤ 60 := by have := HN.out; omega
    have hrd := (HR.out.below hb1).more hb1.size
    have HR1 := Lib.hid hrd
    have HT1 := Lib.hid (HT.out.below hb1)
    clear hrd
    go_wp2_with fail
    refine (made_any es A n c _ HN.out HR1.out (by omega)).mono ?_
    rintro r w2 ⟨tv, m, kp, cd, rfl, hb2, htv, hmv, hkv, hcd⟩
    have hgm : ∀ e ∈ good es, e.wrong = 0 ∧ 0 ≤ e.time := fun e he => ⟨(good_mem he).2, HTM.out e (good_mem he).1⟩
    have hgl : (good es).length ≤ 60 := Nat.le_trans (good_le es) h60
    have htv' := htv
    have hmv' := hmv
    obtain ⟨A1, c1, rfl, hr1⟩ := htv
    obtain ⟨A2, c2, rfl, hr2⟩ := hmv
    obtain ⟨A3, c3, rfl, -⟩ := hkv
    obtain ⟨A4, c4, rfl⟩ : ∃ A4 c4, cd = .slice A4 es.length c4 := by
      rcases hcd.2 with ⟨h, h0⟩ | ⟨g, cap, cur, h, _⟩
      · exact ⟨none, 0, by rw [h, h0]⟩
      · exact ⟨_, _, h⟩
    have hrc := Reads.of_own hcd
    have HTV := Lib.hid htv'
    have HMV := Lib.hid hmv'
    have HRM := Lib.hid hr2
    have HRC := Lib.hid hrc
    have HGM := Lib.hid hgm
    clear htv' hmv' hr1 hr2 hrc hcd hgm
    have HT2 := Lib.hid (HT1.out.below hb2)
    have hrd2 := (HR1.out.below hb2).more hb2.size
    have HR2 := Lib.hid hrd2
    clear hrd2
    have hbw2 := belowThen hb1 hb2
    clear hb1 hb2 HR1 HT1
    generalize good es = gs at *
    go_wp2_with fail
    have hW3 := (Below.refl w2.heap.size w2).alloc (Nat.le_refl _) (.cells #[.slice A1 gs.length c1] 26)
    have X3 := Box.new w2 26 #[.slice A1 gs.length c1]
    have hs3 : w2.heap.size < (w2.alloc (.cells #[.slice A1 gs.length c1] 26)).heap.size := by simp
    generalize w2.alloc (.cells #[.slice A1 gs.length c1] 26) = w3 at *
    go_loopw [7, 25] (fun s i wr => ∃ k : Nat, k ≤ gs.length ∧ i = .int .i64 k ∧ s = .string ⟨(textOf (gs.take k)).toArray⟩ ∧ Below w3.heap.size w3 wr) (fun _ i _ => gs.length - (intOf i).toNat)
    case atStart => exact ⟨0, by omega, rfl, rfl, Below.refl _ _⟩
    case round =>
      obtain ⟨k, hk, rfl, rfl, hbr⟩ := hrel
      have hsr := hbr.size
      by_cases hlt : k < gs.length
      · obtain ⟨bb, o, rfl, hbb, ha⟩ := ((HRM.out.below hW3).below (hbr.mono (by omega))).entry rfl hlt
        obtain ⟨hwr, htm⟩ := HGM.out gs[k] (List.getElem_mem hlt)
        have HLN := Lib.hid (fun W => line_any gs[k] W hwr htm)
        have hll := line_length hwr htm
        have htl := textOf_length (gs.take k) (fun e he => HGM.out e (List.mem_of_mem_take he))
        have htk : (gs.take k).length ≤ 60 := by rw [List.length_take]; omega
        have f1 : ∀ W, (Op.stringOp .add (ByteArray.mk (textOf (gs.take k)).toArray) (ByteArray.mk gs[k].line.toArray)).run Tryd.prog W = .ok (.string (ByteArray.mk (textOf (gs.take (k + 1))).toArray)) W := fun W => by
          rw [textOf_snoc gs k hlt]
          exact add_run _ _ W (by omega)
        clear hll htl htk hwr htm
        generalize hs1 : ByteArray.mk (textOf (gs.take (k + 1))).toArray = s1 at *
        have HS1 := Lib.hid hs1
        clear hs1
        generalize ByteArray.mk (textOf (gs.take k)).toArray = s0 at *
        generalize gs[k] = e at *
        generalize ByteArray.mk e.line.toArray = sl at *
        obtain ⟨kk, cl, bs, a0, b0, c0, d0, t0, n0⟩ := e
        obtain ⟨q1, q2, q3, q4, q5, q6, q7, q8, q9⟩ := ha
        simp only at q1 q2 q3 q4 q5 q6 q7 q8 q9
        have hbb' : bb < wr.heap.size := by omega
        go_wp2_with fail
        refine (HLN.out _).mono ?_
        rintro r w4 ⟨rfl, hb4⟩
        have HB4 : Hid (Below w3.heap.size w3 w4) := (hbr.alloc hsr _).trans (hb4.mono (by simp; omega))
        clear q1 q2 q3 q4 q5 q6 q7 q8 q9
        go_wp2
        exact ⟨⟨k + 1, by omega, by go_num, by rw [HS1.out], HB4.out⟩, by simp [intOf]; omega⟩
      · have hkk : k = gs.length := by omega
        rw [hkk, List.take_length]
        clear hkk
        have hbr1 := hbr
        obtain ⟨wl, rfl⟩ : ∃ wl : World, wl = wr := ⟨_, rfl⟩
        generalize hst : ByteArray.mk (textOf gs).toArray = st at *
        have HST := Lib.hid hst
        clear hst
        go_wp2
        go_loopw [36] (fun i wx => ∃ j : Nat, j ≤ n ∧ i = .int .i64 j ∧ Below w3.heap.size w3 wx) (fun i _ => n - (intOf i).toNat)
        case atStart => exact ⟨0, by omega, rfl, hbr1⟩
        case round =>
          obtain ⟨j, hj, rfl, hbx⟩ := hrel
          have hsx := hbx.size
          by_cases hlt2 : j < n
          · obtain ⟨bb, o, rfl, hbb, ha⟩ := ((HR2.out.below hW3).below (hbx.mono (by omega))).entry HN.out hlt2
            have hje : j < es.length := by have := HN.out; omega
            obtain ⟨bc, oc, rfl, hbc, hcc⟩ := code_at ((HRC.out.below hW3).below (hbx.mono (by omega))) hje
            have HWR := Lib.hid (fun W => wrong_any es[j] W)
            generalize es[j] = e at *
            obtain ⟨kk, cl, bs, a0, b0, c0, d0, t0, n0⟩ := e
            generalize En.wrong _ = q at *
            obtain ⟨q1, q2, q3, q4, q5, q6, q7, q8, q9⟩ := ha
            simp only at q1 q2 q3 q4 q5 q6 q7 q8 q9
            have hbb' : bb < wr.heap.size := by omega
            have hj0 : (0 : Int) ≤ (j : Int) := by omega
            have hj1 : (j : Int) < (es.length : Int) := by omega
            go_wp2
            have hg : wr.heap.size < (wr.alloc (.cells #[.int .i64 kk, .int .i64 cl, .string bs, .int .i64 a0, .int .i64 b0, .int .i64 c0, .int .i64 d0, .int .u32 t0, .int .i64 n0] 37)).heap.size := by simp
            have XE := Box.new wr 37 #[.int .i64 kk, .int .i64 cl, .string bs, .int .i64 a0, .int .i64 b0, .int .i64 c0, .int .i64 d0, .int .u32 t0, .int .i64 n0]
            have hcc' : (wr.alloc (.cells #[.int .i64 kk, .int .i64 cl, .string bs, .int .i64 a0, .int .i64 b0, .int .i64 c0, .int .i64 d0, .int .u32 t0, .int .i64 n0] 37)).cell? ⟨bc, oc + j, none⟩ = some (.int .i64 q) := (World.cell?_alloc_lt wr _ _ (by simp; omega)).trans hcc
            have hbc' : bc < (wr.alloc (.cells #[.int .i64 kk, .int .i64 cl, .string bs, .int .i64 a0, .int .i64 b0, .int .i64 c0, .int .i64 d0, .int .u32 t0, .int .i64 n0] 37)).heap.size := by simp; omega
            have hbW : Below w3.heap.size w3 (wr.alloc (.cells #[.int .i64 kk, .int .i64 cl, .string bs, .int .i64 a0, .int .i64 b0, .int .i64 c0, .int .i64 d0, .int .u32 t0, .int .i64 n0] 37)) := hbx.alloc hsx _
            generalize (wr.alloc (.cells #[.int .i64 kk, .int .i64 cl, .string bs, .int .i64 a0, .int .i64 b0, .int .i64 c0, .int .i64 d0, .int .u32 t0, .int .i64 n0] 37)) = W2 at *
            generalize wr.heap.size = g at *
            have KS : Hid (∀ x, Below W2.heap.size W2 x → Below W2.heap.size W2 x ∧ x.cell? ⟨bc, oc + j, none⟩ = some (.int .i64 q) ∧ x.cell? ⟨g, 0, none⟩ = some (.int .i64 kk) ∧ x.cell? ⟨g, 1, none⟩ = some (.int .i64 cl) ∧ x.cell? ⟨g, 2, none⟩ = some (.string bs) ∧ x.cell? ⟨g, 3, none⟩ = some (.int .i64 a0) ∧ x.cell? ⟨g, 4, none⟩ = some (.int .i64 b0) ∧ x.cell? ⟨g, 5, none⟩ = some (.int .i64 c0) ∧ x.cell? ⟨g, 6, none⟩ = some (.int .i64 d0) ∧ x.cell? ⟨g, 7, none⟩ = some (.int .u32 t0) ∧ x.cell? ⟨g, 8, none⟩ = some (.int .i64 n0)) := by
              intro x hx
              have hX := XE.below hx hg
              exact ⟨hx, cellv hx hcc' hbc', hX.cell 0, hX.cell 1, hX.cell 2, hX.cell 3, hX.cell 4, hX.cell 5, hX.cell 6, hX.cell 7, hX.cell 8⟩
            clear XE hcc hcc' q1 q2 q3 q4 q5 q6 q7 q8 q9
            go_region_held3 (fun x => Below W2.heap.size W2 x ∧ x.cell? ⟨bc, oc + j, none⟩ = some (.int .i64 q) ∧ x.cell? ⟨g, 0, none⟩ = some (.int .i64 kk) ∧ x.cell? ⟨g, 1, none⟩ = some (.int .i64 cl) ∧ x.cell? ⟨g, 2, none⟩ = some (.string bs) ∧ x.cell? ⟨g, 3, none⟩ = some (.int .i64 a0) ∧ x.cell? ⟨g, 4, none⟩ = some (.int .i64 b0) ∧ x.cell? ⟨g, 5, none⟩ = some (.int .i64 c0) ∧ x.cell? ⟨g, 6, none⟩ = some (.int .i64 d0) ∧ x.cell? ⟨g, 7, none⟩ = some (.int .u32 t0) ∧ x.cell? ⟨g, 8, none⟩ = some (.int .i64 n0))
              (first | exact KS.out _ (by assumption) | exact KS.out _ (Below.refl _ _).drew | exact KS.out _ (Below.refl _ _))
              (first | (go_at_call 11; refine (HWR.out _).mono ?_; rintro r w' ⟨rfl, hb'⟩; have hB : Below W2.heap.size W2 w' := by first | exact belowStep (by assumption) hb' | exact belowStep (Below.refl _ _).drew hb'))
            all_goals
              have HB5 : Hid (Below w3.heap.size w3 w') := hbW.trans (hB.mono hbW.size)
              clear hB hb'
              go_wp2
              exact ⟨⟨j + 1, by omega, by go_num, HB5.out⟩, by simp [intOf]; omega⟩
          · go_wp2_with fail
            have hT4 := (HT2.out.below hW3).below hbx
            refine (awake_any _ hT4).mono ?_
            rintro r w5 ⟨rfl, hb5⟩
            have hb35 : Below w3.heap.size w3 w5 := hbx.trans (hb5.mono hbx.size)
            have hs5 := hb35.size
            have X5 := X3.below hb35 hs3
            obtain ⟨x5, x5'⟩ := box1 X5
            clear x5'
            go_wp2_with fail
            refine (is_same gs _ _ _ ((HTV.out.below hW3).below hb35) ((HMV.out.below hW3).below hb35) (by omega)).mono ?_
            rintro r w6 ⟨rfl, hb6⟩
            have hb36 : Below w3.heap.size w3 w6 := hb35.trans (hb6.mono hb35.size)
            have X6 := X3.below hb36 hs3
            clear x5
            obtain ⟨x6, x6'⟩ := box1 X6
            clear x6'
            go_wp2_with fail
            refine (text_any gs _ _ ((HTV.out.below hW3).below hb36) (by omega) HGM.out ((HT2.out.below hW3).below hb36)).mono ?_
            rintro r w7 ⟨rfl, hb7⟩
            have hb37 : Below w3.heap.size w3 w7 := hb36.trans (hb7.mono hb36.size)
            rw [HST.out]
            go_wp2_with fail
            refine (text_any [] _ _ (Tapes.nil _) (by simp) (by simp) ((HT2.out.below hW3).below hb37)).mono ?_
            rintro r w8 ⟨rfl, hb8⟩
            have hb38 : Below w3.heap.size w3 w8 := hb37.trans (hb8.mono hb37.size)
            have e0 : (ByteArray.mk (textOf []).toArray) = ⟨#[]⟩ := rfl
            rw [e0]
            clear e0
            go_wp2
            go_ret
            exact ⟨rfl, belowThen (belowThen hbw2 hW3) hb38⟩
end Go.Proofs.YtlgepoiaolhajaaDoor
