/-
  The reference's entry, walked: what it answers of a line.
-/
import Derived.Test.YtlgepoiaolhajaaDoorReRefN
import Derived.Test.YtlgepoiaolhajaaDoorReAdds
import Derived.StillTailTactics
import Derived.Lib.BufferRead
namespace Go.Proofs.YtlgepoiaolhajaaDoor
open Go.RowKit
open Go.Lib (byteCells byteCells_length byteCells_append)

theorem rentry_size9 (a0 a1 a2 a3 a4 a5 a6 a7 a8 : Value) : (Tryd.prog.info? 35).map (·.size) = some (#[a0, a1, a2, a3, a4, a5, a6, a7, a8] : Array Value).size := (by kernel_rfl : (Tryd.prog.info? 35).map (·.size) = some 9)
theorem ne49 (u : List UInt8) : ((ByteArray.mk u.toArray).toList != [49]) = !decide (u = [49]) := by rw [bne, eq49]
theorem ne45 (u : List UInt8) : ((ByteArray.mk u.toArray).toList != [45]) = !decide (u = [45]) := by
  rw [Go.ByteArray.toList_eq]
  by_cases h : u = [45]
  · subst h; rfl
  · simp [h]
theorem nsR_snoc (ws : List (List UInt8)) (k : Nat) (h : k < ws.length) : ints (nsR (ws.take (k + 1))) = ints (nsR (ws.take k)) ++ [.int .i64 ((numR ws[k]).getD 0)] := by
  unfold ints nsR
  rw [List.take_succ_eq_append_getElem h, List.map_append, List.map_append]
  simp
theorem nsR_length (ws : List (List UInt8)) : (nsR ws).length = ws.length := by simp [nsR]
theorem line_feed (s : ByteArray) (hs : s.size ≤ 100000) (W : World) : (Op.stringOp .add s (ByteArray.mk #[10])).run Tryd.prog W = .ok (.string ⟨(s.data.toList ++ [10]).toArray⟩) W := by
  have hl : s.data.toList.length = s.size := by simp
  have := add_run s.data.toList [10] W (by simp; omega)
  exact this
theorem conv_nil (W : World) : (convert 50 9 (.slice none 0 0)).run Tryd.prog W = .ok (.string ⟨#[]⟩) W := Lib.run_convert_nil_bytes W 50 9 5 0 Tryd.underlying50 Tryd.underlying5 Tryd.underlying9
theorem value_q (c : UInt8) (w : World) : Calls Tryd.prog 39 #[.int .u8 (c.toNat : Int)] w fun e w' => e = .returned (.int .i64 (hv c)) ∧ w = w' := (value_any c w).mono fun _ _ h => ⟨h.1, h.2.symm⟩
theorem getD_get {α : Type} (l : List α) (d : α) (k : Nat) (h : k < l.length) : l.getD k d = l[k] := by rw [List.getD_eq_getElem?_getD, List.getElem?_eq_getElem h]; rfl

set_option maxHeartbeats 16000000 in
set_option maxRecDepth 100000 in
theorem rentry_any (s : ByteArray) (w : World) (hs : s.size ≤ 100000) :
    Calls Tryd.prog 29 #[.string s] w (EntryPost (refEntry s.data.toList) w) := by
  have hpos := wordsOf_pos s.data.toList
  have hcnt : (wordsOf s.data.toList).length ≤ s.size + 1 := by
    rw [words_count, Lib.count_one]
    have := List.count_le_length (a := (32 : UInt8)) (l := s.data.toList)
    have hl : s.data.toList.length = s.size := by simp
    omega
  have WD := Lib.hid (fun W => words_any s W (by omega))
  have HL := Lib.hid (words_le s.data.toList)
  have HRE : Hid (refEntry s.data.toList = if ∀ i, i < (wordsOf s.data.toList).length → okAt (wordsOf s.data.toList) i = true then match refCand (wordsOf s.data.toList) with | none => none | some e => ifLine s.data.toList e else none) := rfl
  generalize hws : wordsOf s.data.toList = ws at *
  generalize refEntry s.data.toList = RE at *
  clear hws
  have HUL : Hid (∀ k (h : k < ws.length), (ByteArray.mk (ws[k]).toArray).size ≤ 100000) := by
    intro k h
    have h1 := HL.out ws[k] (List.getElem_mem _)
    have hl : s.data.toList.length = s.size := by simp
    show (ws[k]).toArray.size ≤ _
    rw [List.size_toArray]
    omega
  go_enter Tryd.func29, Tryd.ntmps29
  go_wp2_with fail
  go_at_call 37
  refine (WD.out _).mono ?_
  rintro r w1 ⟨v1, rfl, hG, hb1⟩
  have HR1 := Lib.hid ((Box.new w 35 #[.int .i64 0, .int .i64 0, .string ⟨#[]⟩, .int .i64 0, .int .i64 0, .int .i64 0, .int .i64 0, .int .u32 0, .int .i64 0]).below hb1 (by simp))
  have HBW := Lib.hid (((Below.refl w.heap.size w).alloc (Nat.le_refl _) (.cells #[.int .i64 0, .int .i64 0, .string ⟨#[]⟩, .int .i64 0, .int .i64 0, .int .i64 0, .int .i64 0, .int .u32 0, .int .i64 0] 35)).trans (hb1.mono (by simp)))
  have hs1 : w.heap.size < w1.heap.size := by have := hb1.size; simp at this; omega
  obtain ⟨g, cap, rfl, -, hg1⟩ := hG.form hpos
  have HUC : Hid (∀ (W : World), Below w1.heap.size w1 W → ∀ k (h : k < ws.length), W.cell? ⟨g, k, none⟩ = some (.string ⟨(ws[k]).toArray⟩)) := by
    intro W hW k h
    have h1 := hG.cells (g := g) rfl k (.string ⟨(ws[k]).toArray⟩) (by simp [strs, h])
    have h2 : (Addr.add ⟨g, 0, none⟩ k) = ⟨g, k, none⟩ := by unfold Addr.add; split <;> simp_all
    rw [h2] at h1
    exact (hW.cell (p := ⟨g, k, none⟩) hg1).trans h1
  clear hb1 hG WD HL
  obtain ⟨i0, hi, hz0, hz1, hz2⟩ := info_parts int_info
  go_wp2_with fail
  go_loopw [5, 6, 7, 8] (fun v i _ _ wr => ∃ k : Nat, k ≤ ws.length ∧ i = .int .i64 k ∧ wr.ownsRow w1.heap.size 3 1 v k (ints (nsR (ws.take k))) ∧ (∀ j, j < k → okAt ws j = true) ∧ Below w1.heap.size w1 wr) (fun _ i _ _ _ => ws.length - (intOf i).toNat)
  case atStart => exact ⟨0, by omega, rfl, World.ownsRow_nil _ _ _ _, (fun j hj => by omega), Below.refl _ _⟩
  case round =>
    obtain ⟨k, hk, rfl, hown, hall, hbr⟩ := hrel
    have HALL := Lib.hid hall
    clear hall
    have hsr := hbr.size
    by_cases hlt : k < ws.length
    · have hc := HUC.out wr hbr k hlt
      have hc0 := HUC.out wr hbr 0 hpos
      have hus := HUL.out k hlt
      have HNS1 := Lib.hid (nsR_snoc ws k hlt)
      have HOK : Hid (okAt ws k = ((numR ws[k]).isSome || (k == 2 && decide (ws[0] = [49])))) := by
        show _ = _
        unfold okAt
        rw [getD_get _ _ _ hlt, getD_get _ _ _ hpos]
        have e : (ws[0] == [49]) = decide (ws[0] = [49]) := by by_cases h : ws[0] = [49] <;> simp [h]
        rw [e]
      have HNM := Lib.hid (rnumber_any ⟨(ws[k]).toArray⟩ wr (by omega))
      have hne0 := ne49 ws[0]
      generalize ByteArray.mk (ws[0]).toArray = u0 at *
      obtain ⟨ca, hca⟩ : ∃ ca, ca = decide (ws[0] = [49]) := ⟨_, rfl⟩
      rw [← hca] at hne0 HOK
      obtain ⟨ub, hub⟩ : ∃ ub : ByteArray, ub = ⟨(ws[k]).toArray⟩ := ⟨_, rfl⟩
      rw [← hub] at hc hus HNM
      have hud : ub.data.toList = ws[k] := by rw [hub]
      rw [hud] at HNM
      generalize hnr : numR ws[k] = nr at *
      clear hud hub hca hnr
      have hlk : (k : Int) < (ws.length : Int) := by omega
      have hl0 : (0 : Int) < (ws.length : Int) := by omega
      go_wp2_with fail
      go_at_call 38
      refine HNM.out.mono ?_
      rintro r w4 ⟨rfl, rfl⟩
      clear HNM
      obtain ⟨nv, hnv⟩ : ∃ nv, nv = nr.getD 0 := ⟨_, rfl⟩
      rw [← hnv] at HNS1 ⊢
      obtain ⟨ok, hok⟩ : ∃ ok, ok = nr.isSome := ⟨_, rfl⟩
      rw [← hok] at HOK ⊢
      clear hnv hok
      by_cases hgo : okAt ws k = true
      · have HALL1 : Hid (∀ j, j < k + 1 → okAt ws j = true) := by
          intro j hj
          by_cases hjk : j < k
          · exact HALL.out j hjk
          · obtain rfl : j = k := by omega
            exact hgo
        have hgo2 : ok = true ∨ (ok = false ∧ k = 2 ∧ ca = true) := by
          have := HOK.out
          rw [hgo] at this
          cases ok
          · simp at this
            exact .inr ⟨rfl, this.1, this.2⟩
          · exact .inl rfl
        clear hgo HOK
        rcases hgo2 with rfl | ⟨rfl, rfl, rfl⟩
        · clear hne0 hc0
          go_wp2_with (at_builtin; refine wpList_append_own _ rfl _ _ 74 rfl w1.heap.size 3 i0 (.int .i64 0) 1 8 Tryd.underlying74 hi hz0 hz1 hz2 rfl (by decide) _ _ _ rfl (hown.alloc _) ⟨wr.heap.size, 0, none⟩ 1 1 [.int .i64 nv] rfl rfl (cell_one_new _ _ _) (by intro u hu; simp at hu; subst hu; rfl) (by unfold maxLen; omega) (by omega) (by simp; omega) ?_)
          intro v1 w8 hown8 hgrow8 _
          have HB8 : Hid (Below w1.heap.size w1 w8) := (hbr.alloc hsr _).grown hgrow8 (by simp; omega) (fun j hj => (hown.lt j hj).1)
          clear hgrow8 hown hbr
          go_wp2_with fail
          go_roundw
          case rel => exact ⟨_, by omega, by go_num, by rw [HNS1.out]; exact hown8, HALL1.out, HB8.out⟩
          case measure => simp [intOf]; omega
        · have hne1 : (u0.toList != [49]) = false := hne0
          have hne2 : u0.toList = [49] := by simpa using hne1
          clear hne0 hne1
          have hne3 : (u0.toList == [49]) = true := by rw [hne2]; rfl
          have hne1 : (u0.toList != [49]) = false := by rw [hne2]; rfl
          have HU0 := Lib.hid hne2
          clear hne2
          go_wp2_with (at_builtin; refine wpList_append_own _ rfl _ _ 74 rfl w1.heap.size 3 i0 (.int .i64 0) 1 8 Tryd.underlying74 hi hz0 hz1 hz2 rfl (by decide) _ _ _ rfl (hown.alloc _) ⟨wr.heap.size, 0, none⟩ 1 1 [.int .i64 nv] rfl rfl (cell_one_new _ _ _) (by intro u hu; simp at hu; subst hu; rfl) (by unfold maxLen; omega) (by omega) (by simp; omega) ?_)
          intro v1 w8 hown8 hgrow8 _
          have HB8 : Hid (Below w1.heap.size w1 w8) := (hbr.alloc hsr _).grown hgrow8 (by simp; omega) (fun j hj => (hown.lt j hj).1)
          clear hgrow8 hown hbr
          go_wp2_with fail
          go_roundw
          case rel => exact ⟨_, by omega, by go_num, by rw [HNS1.out]; exact hown8, HALL1.out, HB8.out⟩
          case measure => simp [intOf]; omega
      · have HNO : Hid (RE = none) := by
          show _ = _
          rw [HRE.out, if_neg (fun h => hgo (h k hlt))]
        have hno2 : ok = false ∧ (k ≠ 2 ∨ ca = false) := by
          have := HOK.out
          cases ok
          · refine ⟨rfl, ?_⟩
            by_cases h2 : k = 2
            · right
              cases ca
              · rfl
              · exfalso; apply hgo; rw [this]; simp [h2]
            · exact .inl h2
          · exfalso; apply hgo; rw [this]; rfl
        obtain ⟨rfl, hno3⟩ := hno2
        have hR5 := HR1.out.below hbr (by omega)
        have hbw5 := HBW.out.trans (hbr.mono (by omega))
        clear hgo HOK hown
        by_cases hk2 : k = 2
        · obtain rfl : ca = false := by rcases hno3 with h | h; exact absurd hk2 h; exact h
          subst hk2
          have hne1 : (u0.toList != [49]) = true := hne0
          have hne2 : ¬ u0.toList = [49] := by simpa using hne1
          have hne3 : (u0.toList == [49]) = false := by rw [beq_eq_false_iff_ne]; exact hne2
          clear hno3 hne0
          go_wp2_with (with_reducible refine wpList_store_box rfl _ _ _ rfl w.heap.size 35 #[.int .i64 0, .int .i64 0, .string ⟨#[]⟩, .int .i64 0, .int .i64 0, .int .i64 0, .int .i64 0, .int .u32 0, .int .i64 0] #[.int .i64 0, .int .i64 0, .string ⟨#[]⟩, .int .i64 0, .int .i64 0, .int .i64 0, .int .i64 0, .int .u32 0, .int .i64 0] rfl rfl hR5 rfl (rentry_size9 _ _ _ _ _ _ _ _ _) zero_one ?_; intro w9 hR9 hg9)
          obtain ⟨y0, y1, y2, y3, y4, y5, y6, y7, y8⟩ := box9 hR9
          refine bodyPost_ret (v := .tuple #[.agg #[.int .i64 0, .int .i64 0, .string ⟨#[]⟩, .int .i64 0, .int .i64 0, .int .i64 0, .int .i64 0, .int .u32 0, .int .i64 0], .bool false]) (by simp [results, Tryd.results29, go_sem, y0, y1, y2, y3, y4, y5, y6, y7, y8]) rfl ⟨by rw [HNO.out]; rfl, hbw5.grown hg9 (by have := hbw5.size; omega) (by intro j hj; injection hj with hj; omega)⟩
        · have hk2' : ((k : Int) != 2) = true := by rw [bne_iff_ne]; omega
          clear hno3 hne0
          go_wp2_with (with_reducible refine wpList_store_box rfl _ _ _ rfl w.heap.size 35 #[.int .i64 0, .int .i64 0, .string ⟨#[]⟩, .int .i64 0, .int .i64 0, .int .i64 0, .int .i64 0, .int .u32 0, .int .i64 0] #[.int .i64 0, .int .i64 0, .string ⟨#[]⟩, .int .i64 0, .int .i64 0, .int .i64 0, .int .i64 0, .int .u32 0, .int .i64 0] rfl rfl hR5 rfl (rentry_size9 _ _ _ _ _ _ _ _ _) zero_one ?_; intro w9 hR9 hg9)
          obtain ⟨y0, y1, y2, y3, y4, y5, y6, y7, y8⟩ := box9 hR9
          refine bodyPost_ret (v := .tuple #[.agg #[.int .i64 0, .int .i64 0, .string ⟨#[]⟩, .int .i64 0, .int .i64 0, .int .i64 0, .int .i64 0, .int .u32 0, .int .i64 0], .bool false]) (by simp [results, Tryd.results29, go_sem, y0, y1, y2, y3, y4, y5, y6, y7, y8]) rfl ⟨by rw [HNO.out]; rfl, hbw5.grown hg9 (by have := hbw5.size; omega) (by intro j hj; injection hj with hj; omega)⟩
    · have hkk : k = ws.length := by omega
      subst hkk
      rw [List.take_length] at hown
      have HRE2 : Hid (RE = match refCand ws with | none => none | some e => ifLine s.data.toList e) := by
        show _ = _
        rw [HRE.out, if_pos HALL.out]
      obtain ⟨ns, hns⟩ : ∃ ns, ns = nsR ws := ⟨_, rfl⟩
      have hnl : ns.length = ws.length := by rw [hns, nsR_length]
      rw [← hns] at hown
      obtain ⟨gN, capN, rfl, hgN, hgN1⟩ := hown.form hpos
      have HNS : Hid (∀ (W : World), W.ownsRow w1.heap.size 3 1 (.slice (some ⟨gN, 0, none⟩) ws.length capN) ws.length (ints ns) → ∀ j (h : j < ns.length), W.cell? ⟨gN, j, none⟩ = some (.int .i64 (ns[j]'h))) := by
        intro W hW j h
        have h1 := hW.cells (g := gN) rfl j (.int .i64 (ns[j]'h)) (by simp [ints, h])
        have h2 : (Addr.add ⟨gN, 0, none⟩ j) = ⟨gN, j, none⟩ := by unfold Addr.add; split <;> simp_all
        rw [h2] at h1
        exact h1
      have HNSE := Lib.hid hns
      have HNL := Lib.hid hnl
      have hn0 : 0 < ns.length := by omega
      have n0 := HNS.out wr hown 0 hn0
      have hl0 : (0 : Int) < (ws.length : Int) := by omega
      have hRa := HR1.out.below hbr (by omega)
      have hbwa := HBW.out.trans (hbr.mono (by omega))
      clear hns hnl HALL HRE hlt hi hz0 hz1 hz2 hk
      have HG0 : Hid ((nsR ws).getD 0 0 = ns[0]'hn0) := by
        show _ = _
        rw [← HNSE.out]
        exact getD_get _ _ _ hn0
      have HGD : Hid (∀ j (h : j < ns.length), (nsR ws).getD j 0 = ns[j]'h) := by
        intro j h
        have e : (nsR ws).getD j 0 = ns.getD j 0 := by rw [HNSE.out]
        rw [e]
        exact getD_get _ _ _ h
      generalize hkk : ns[0]'hn0 = kk at *
      have HKK := Lib.hid hkk
      clear hkk
      go_upto_region 11 with (fail)
      have hEa := Box.new wr 35 #[.int .i64 kk, .int .i64 0, .string ⟨#[]⟩, .int .i64 0, .int .i64 0, .int .i64 0, .int .i64 0, .int .u32 0, .int .i64 0]
      have hRb := hRa.alloc (.cells #[.int .i64 kk, .int .i64 0, .string ⟨#[]⟩, .int .i64 0, .int .i64 0, .int .i64 0, .int .i64 0, .int .u32 0, .int .i64 0] 35)
      have hOb := hown.alloc (.cells #[.int .i64 kk, .int .i64 0, .string ⟨#[]⟩, .int .i64 0, .int .i64 0, .int .i64 0, .int .i64 0, .int .u32 0, .int .i64 0] 35)
      have hbb := hbwa.alloc (by omega) (.cells #[.int .i64 kk, .int .i64 0, .string ⟨#[]⟩, .int .i64 0, .int .i64 0, .int .i64 0, .int .i64 0, .int .u32 0, .int .i64 0] 35)
      have hbc := hbr.alloc hsr (.cells #[.int .i64 kk, .int .i64 0, .string ⟨#[]⟩, .int .i64 0, .int .i64 0, .int .i64 0, .int .i64 0, .int .u32 0, .int .i64 0] 35)
      have hsb : wr.heap.size < (wr.alloc (.cells #[.int .i64 kk, .int .i64 0, .string ⟨#[]⟩, .int .i64 0, .int .i64 0, .int .i64 0, .int .i64 0, .int .u32 0, .int .i64 0] 35)).heap.size := by simp
      generalize wr.alloc (.cells #[.int .i64 kk, .int .i64 0, .string ⟨#[]⟩, .int .i64 0, .int .i64 0, .int .i64 0, .int .i64 0, .int .u32 0, .int .i64 0] 35) = w5 at *
      generalize hebb : wr.heap.size = eb at *
      have heb : w.heap.size < eb := by omega
      clear hebb hown hbr hRa hbwa n0
      have hE5 := hEa
      have hR5 := hRb
      have hO5 := hOb
      have hbw5 := hbb
      have hbc5 := hbc
      have hs5 := hsb
      clear hEa hRb hOb hbb hbc hsb
      have n0 := HNS.out w5 hO5 0 hn0
      rw [HKK.out] at n0
      by_cases hk2 : kk = 2
      · subst hk2
        by_cases hlen : ws.length = 6
        · have h1 : 1 < ns.length := by have := HNL.out; omega
          have h2 : 2 < ns.length := by have := HNL.out; omega
          have h3 : 3 < ns.length := by have := HNL.out; omega
          have h4 : 4 < ns.length := by have := HNL.out; omega
          have h5 : 5 < ns.length := by have := HNL.out; omega
          have n1 := HNS.out _ hO5 1 h1
          have n2 := HNS.out _ hO5 2 h2
          have n3 := HNS.out _ hO5 3 h3
          have n4 := HNS.out _ hO5 4 h4
          have n5 := HNS.out _ hO5 5 h5
          have HC : Hid (refCand ws = if ns[5]'h5 < 0 ∨ (4294967295 : Int) < ns[5]'h5 then none else some ⟨2, 0, ⟨#[]⟩, ns[1]'h1, ns[2]'h2, ns[3]'h3, ns[4]'h4, ns[5]'h5, 0⟩) := by
            show _ = _
            unfold refCand
            simp only [HG0.out, HGD.out 1 h1, HGD.out 2 h2, HGD.out 3 h3, HGD.out 4 h4, HGD.out 5 h5, hlen, if_true]
          have hln6 : ((ws.length : Int) != 6) = false := by rw [bne_eq_false_iff_eq]; omega
          have q1 : (1 : Int) < (ws.length : Int) := by omega
          have q2 : (2 : Int) < (ws.length : Int) := by omega
          have q3 : (3 : Int) < (ws.length : Int) := by omega
          have q4 : (4 : Int) < (ws.length : Int) := by omega
          have q5 : (5 : Int) < (ws.length : Int) := by omega
          clear hlen
          generalize ns[1]'h1 = z1 at *
          generalize ns[2]'h2 = z2 at *
          generalize ns[3]'h3 = z3 at *
          generalize ns[4]'h4 = z4 at *
          generalize ns[5]'h5 = z5 at *
          by_cases ht : z5 < 0 ∨ (4294967295 : Int) < z5
          · have HNO : Hid (RE = none) := by
              show _ = _
              rw [HRE2.out, HC.out, if_pos ht]
            by_cases ht0 : z5 < 0
            · clear ht
              go_wp2_with (with_reducible refine wpList_store_box rfl _ _ _ rfl w.heap.size 35 #[.int .i64 0, .int .i64 0, .string ⟨#[]⟩, .int .i64 0, .int .i64 0, .int .i64 0, .int .i64 0, .int .u32 0, .int .i64 0] #[.int .i64 0, .int .i64 0, .string ⟨#[]⟩, .int .i64 0, .int .i64 0, .int .i64 0, .int .i64 0, .int .u32 0, .int .i64 0] rfl rfl hR5 rfl (rentry_size9 _ _ _ _ _ _ _ _ _) zero_one ?_; intro w9 hR9 hg9)
              obtain ⟨y0, y1, y2, y3, y4, y5, y6, y7, y8⟩ := box9 hR9
              refine bodyPost_ret (v := .tuple #[.agg #[.int .i64 0, .int .i64 0, .string ⟨#[]⟩, .int .i64 0, .int .i64 0, .int .i64 0, .int .i64 0, .int .u32 0, .int .i64 0], .bool false]) (by simp [results, Tryd.results29, go_sem, y0, y1, y2, y3, y4, y5, y6, y7, y8]) rfl ⟨by rw [HNO.out]; rfl, hbw5.grown hg9 (by have := hbw5.size; omega) (by intro j hj; injection hj with hj; omega)⟩
            · have ht1 : (4294967295 : Int) < z5 := by omega
              clear ht
              go_wp2_with (with_reducible refine wpList_store_box rfl _ _ _ rfl w.heap.size 35 #[.int .i64 0, .int .i64 0, .string ⟨#[]⟩, .int .i64 0, .int .i64 0, .int .i64 0, .int .i64 0, .int .u32 0, .int .i64 0] #[.int .i64 0, .int .i64 0, .string ⟨#[]⟩, .int .i64 0, .int .i64 0, .int .i64 0, .int .i64 0, .int .u32 0, .int .i64 0] rfl rfl hR5 rfl (rentry_size9 _ _ _ _ _ _ _ _ _) zero_one ?_; intro w9 hR9 hg9)
              obtain ⟨y0, y1, y2, y3, y4, y5, y6, y7, y8⟩ := box9 hR9
              refine bodyPost_ret (v := .tuple #[.agg #[.int .i64 0, .int .i64 0, .string ⟨#[]⟩, .int .i64 0, .int .i64 0, .int .i64 0, .int .i64 0, .int .u32 0, .int .i64 0], .bool false]) (by simp [results, Tryd.results29, go_sem, y0, y1, y2, y3, y4, y5, y6, y7, y8]) rfl ⟨by rw [HNO.out]; rfl, hbw5.grown hg9 (by have := hbw5.size; omega) (by intro j hj; injection hj with hj; omega)⟩
          · have HRF : Hid (RE = ifLine s.data.toList (⟨2, 0, ⟨#[]⟩, z1, z2, z3, z4, z5, 0⟩ : En)) := by
              show _ = _
              rw [HRE2.out, HC.out, if_neg ht]
            have ht0 : 0 ≤ z5 := by omega
            have ht1 : z5 ≤ 4294967295 := by omega
            clear ht
            go_upto_region 16 with (fail)
            refine wp_region_still_tail 18 (by kernel_rfl) (by kernel_rfl) ?_
            have hEq : Box w5.drew eb 35 #[.int .i64 2, .int .i64 0, .string ⟨#[]⟩, .int .i64 0, .int .i64 0, .int .i64 0, .int .i64 0, .int .u32 0, .int .i64 0] := hE5
            have hRq : Box w5.drew w.heap.size 35 #[.int .i64 0, .int .i64 0, .string ⟨#[]⟩, .int .i64 0, .int .i64 0, .int .i64 0, .int .i64 0, .int .u32 0, .int .i64 0] := hR5
            have hOq : w5.drew.ownsRow w1.heap.size 3 1 (.slice (some ⟨gN, 0, none⟩) ws.length capN) ws.length (ints ns) := hO5
            have hbq : Below w.heap.size w w5.drew := hbw5.drew
            have hsq : eb < w5.drew.heap.size := hs5
            have m1 : w5.drew.cell? ⟨gN, 1, none⟩ = some (.int .i64 z1) := n1
            have m2 : w5.drew.cell? ⟨gN, 2, none⟩ = some (.int .i64 z2) := n2
            have m3 : w5.drew.cell? ⟨gN, 3, none⟩ = some (.int .i64 z3) := n3
            have m4 : w5.drew.cell? ⟨gN, 4, none⟩ = some (.int .i64 z4) := n4
            have m5 : w5.drew.cell? ⟨gN, 5, none⟩ = some (.int .i64 z5) := n5
            clear n0 n1 n2 n3 n4 n5
            change wpStill _ _ w5.drew (fun a' => wpList _ _ _ _ a' w5.drew) _ _
            generalize w5.drew = w7 at *
            clear hE5 hR5 hbw5 hs5 hO5
            simp only [List.take_succ_cons, List.take_zero, List.drop_succ_cons, List.drop_zero]
            iterate 18 still_step
            clear q1 q2 q3 q4 q5
            refine wpStill_nil ?_
            refine wpList_store_box_at rfl _ _ _ rfl eb 35 3 _ #[.int .i64 z1, .int .i64 z2, .int .i64 z3, .int .i64 z4, .int .u32 z5, .int .i64 0] #[.int .i64 2, .int .i64 0, .string ⟨#[]⟩, .int .i64 z1, .int .i64 z2, .int .i64 z3, .int .i64 z4, .int .u32 z5, .int .i64 0] rfl ?_ hEq (by simp) inp_size6 inp_one6 rfl ?_
            · first | rfl | (simp [Act.eval]; done) | (go_simp; rw [IntKind.wrap_u32]; omega)
            intro w8 hE5 hg8
            have hR5 := hRq.grown hg8 (by intro h; injection h with h; omega)
            have hbw5 := hbq.grown hg8 (by have := hbq.size; omega) (by intro j hj; injection hj with hj; omega)
            have hs5 : eb < w8.heap.size := by have := hg8.size; omega
            have hO5 := hOq.kept hg8 (.inr (fun e => own_box_ne hOq hEq (by decide) e.symm))
            have n0 := HNS.out w8 hO5 0 hn0
            rw [HKK.out] at n0
            clear hEq hRq hbq hsq hOq m1 m2 m3 m4 m5 hg8
            obtain ⟨e0, e1, e2, e3, e4, e5, e6, e7, e8⟩ := box9 hE5
            go_wp2_with fail
            go_at_call 11
            refine (wrong_any (⟨2, 0, ⟨#[]⟩, z1, z2, z3, z4, z5, 0⟩ : En) _).mono ?_
            rintro r w8 ⟨rfl, hb8⟩
            have hR8 := hR5.below hb8 (by omega)
            have hE8 := hE5.below hb8 (by omega)
            have hbw8 := hbw5.trans (hb8.mono (by omega))
            have hs8 : eb < w8.heap.size := by have := hb8.size; omega
            clear e0 e1 e2 e3 e4 e5 e6 e7 e8 hb8 hE5 hR5 hbw5 hs5
            obtain ⟨q, hq⟩ : ∃ q, q = En.wrong (⟨2, 0, ⟨#[]⟩, z1, z2, z3, z4, z5, 0⟩ : En) := ⟨_, rfl⟩
            rw [← hq]
            by_cases hq0 : q = 0
            · have HW0 : Hid (En.wrong (⟨2, 0, ⟨#[]⟩, z1, z2, z3, z4, z5, 0⟩ : En) = 0) := hq.symm.trans hq0
              subst hq0
              clear hq
              obtain ⟨e0, e1, e2, e3, e4, e5, e6, e7, e8⟩ := box9 hE8
              go_wp2_with fail
              go_at_call 10
              refine (line_any (⟨2, 0, ⟨#[]⟩, z1, z2, z3, z4, z5, 0⟩ : En) _ HW0.out (by exact ht0)).mono ?_
              rintro r w9 ⟨rfl, hb9⟩
              have hR5 := hR8.below hb9 (by omega)
              have hE5 := hE8.below hb9 (by omega)
              have hbw5 := hbw8.trans (hb9.mono (by omega))
              have hs5 : eb < w9.heap.size := by have := hb9.size; omega
              clear e0 e1 e2 e3 e4 e5 e6 e7 e8 hb9 hE8 hR8 hbw8 hs8
              have HLE : Hid (∀ W, (Op.stringOp .add s (ByteArray.mk #[10])).run Tryd.prog W = .ok (.string ⟨(s.data.toList ++ [10]).toArray⟩) W) := line_feed s hs
              obtain ⟨sl, hsl⟩ : ∃ sl : ByteArray, sl = ⟨(En.line (⟨2, 0, ⟨#[]⟩, z1, z2, z3, z4, z5, 0⟩ : En)).toArray⟩ := ⟨_, rfl⟩
              rw [← hsl]
              obtain ⟨sb, hsb⟩ : ∃ sb : ByteArray, sb = ⟨(s.data.toList ++ [10]).toArray⟩ := ⟨_, rfl⟩
              have hadd := HLE.out
              rw [← hsb] at hadd
              by_cases hll : En.line (⟨2, 0, ⟨#[]⟩, z1, z2, z3, z4, z5, 0⟩ : En) = s.data.toList ++ [10]
              · have HRY : Hid (RE = some (⟨2, 0, ⟨#[]⟩, z1, z2, z3, z4, z5, 0⟩ : En)) := by
                  show _ = _
                  rw [HRF.out, ifLine, if_pos ⟨HW0.out, hll⟩]
                have hss : sl = sb := by rw [hsl, hsb, hll]
                subst hss
                clear hll hsl hsb HLE
                have hbe : (sl.toList != sl.toList) = false := by simp
                obtain ⟨e0, e1, e2, e3, e4, e5, e6, e7, e8⟩ := box9 hE5
                have HCO : Hid ((#[.int .i64 2, .int .i64 0, .string ⟨#[]⟩, .int .i64 z1, .int .i64 z2, .int .i64 z3, .int .i64 z4, .int .u32 z5, .int .i64 0] : Array Value).all (·.oneCell') = true) := all_oneCell_toArray (cells_one (⟨2, 0, ⟨#[]⟩, z1, z2, z3, z4, z5, 0⟩ : En))
                go_wp2_with (with_reducible refine wpList_store_box rfl _ _ _ rfl w.heap.size 35 #[.int .i64 0, .int .i64 0, .string ⟨#[]⟩, .int .i64 0, .int .i64 0, .int .i64 0, .int .i64 0, .int .u32 0, .int .i64 0] #[.int .i64 2, .int .i64 0, .string ⟨#[]⟩, .int .i64 z1, .int .i64 z2, .int .i64 z3, .int .i64 z4, .int .u32 z5, .int .i64 0] rfl rfl hR5 rfl (rentry_size9 _ _ _ _ _ _ _ _ _) HCO.out ?_; intro wa hR9 hg9)
                obtain ⟨y0, y1, y2, y3, y4, y5, y6, y7, y8⟩ := box9 hR9
                refine bodyPost_ret (v := .tuple #[.agg #[.int .i64 2, .int .i64 0, .string ⟨#[]⟩, .int .i64 z1, .int .i64 z2, .int .i64 z3, .int .i64 z4, .int .u32 z5, .int .i64 0], .bool true]) (by simp [results, Tryd.results29, go_sem, y0, y1, y2, y3, y4, y5, y6, y7, y8]) rfl ⟨by rw [HRY.out]; rfl, hbw5.grown hg9 (by have := hbw5.size; omega) (by intro j hj; injection hj with hj; omega)⟩
              · have HNO : Hid (RE = none) := by
                  show _ = _
                  rw [HRF.out, ifLine, if_neg (fun h => hll h.2)]
                have hbe : (sl.toList != sb.toList) = true := by
                  rw [hsl, hsb]
                  simp [Go.ByteArray.toList_eq, hll]
                have hbe2 : ¬ sl.toList = sb.toList := by simpa using hbe
                have hbe3 : (sl.toList == sb.toList) = false := by rw [beq_eq_false_iff_ne]; exact hbe2
                clear hll hsl hsb HLE
                go_wp2_with (with_reducible refine wpList_store_box rfl _ _ _ rfl w.heap.size 35 #[.int .i64 0, .int .i64 0, .string ⟨#[]⟩, .int .i64 0, .int .i64 0, .int .i64 0, .int .i64 0, .int .u32 0, .int .i64 0] #[.int .i64 0, .int .i64 0, .string ⟨#[]⟩, .int .i64 0, .int .i64 0, .int .i64 0, .int .i64 0, .int .u32 0, .int .i64 0] rfl rfl hR5 rfl (rentry_size9 _ _ _ _ _ _ _ _ _) zero_one ?_; intro wa hR9 hg9)
                obtain ⟨y0, y1, y2, y3, y4, y5, y6, y7, y8⟩ := box9 hR9
                refine bodyPost_ret (v := .tuple #[.agg #[.int .i64 0, .int .i64 0, .string ⟨#[]⟩, .int .i64 0, .int .i64 0, .int .i64 0, .int .i64 0, .int .u32 0, .int .i64 0], .bool false]) (by simp [results, Tryd.results29, go_sem, y0, y1, y2, y3, y4, y5, y6, y7, y8]) rfl ⟨by rw [HNO.out]; rfl, hbw5.grown hg9 (by have := hbw5.size; omega) (by intro j hj; injection hj with hj; omega)⟩
            · have HNO : Hid (RE = none) := by
                show _ = _
                rw [HRF.out, ifLine, if_neg (fun h => hq0 (hq.trans h.1))]
              have hqn : (q != 0) = true := by simpa using hq0
              have hR5 := hR8
              have hbw5 := hbw8
              clear hq hR8 hbw8
              go_wp2_with (with_reducible refine wpList_store_box rfl _ _ _ rfl w.heap.size 35 #[.int .i64 0, .int .i64 0, .string ⟨#[]⟩, .int .i64 0, .int .i64 0, .int .i64 0, .int .i64 0, .int .u32 0, .int .i64 0] #[.int .i64 0, .int .i64 0, .string ⟨#[]⟩, .int .i64 0, .int .i64 0, .int .i64 0, .int .i64 0, .int .u32 0, .int .i64 0] rfl rfl hR5 rfl (rentry_size9 _ _ _ _ _ _ _ _ _) zero_one ?_; intro w9 hR9 hg9)
              obtain ⟨y0, y1, y2, y3, y4, y5, y6, y7, y8⟩ := box9 hR9
              refine bodyPost_ret (v := .tuple #[.agg #[.int .i64 0, .int .i64 0, .string ⟨#[]⟩, .int .i64 0, .int .i64 0, .int .i64 0, .int .i64 0, .int .u32 0, .int .i64 0], .bool false]) (by simp [results, Tryd.results29, go_sem, y0, y1, y2, y3, y4, y5, y6, y7, y8]) rfl ⟨by rw [HNO.out]; rfl, hbw5.grown hg9 (by have := hbw5.size; omega) (by intro j hj; injection hj with hj; omega)⟩
        · have HNO : Hid (RE = none) := by
            show _ = _
            rw [HRE2.out]
            unfold refCand
            simp only [HG0.out]
            rw [if_pos trivial, if_neg hlen]
          have hln6 : ((ws.length : Int) != 6) = true := by rw [bne_iff_ne]; omega
          clear hlen
          go_wp2_with (with_reducible refine wpList_store_box rfl _ _ _ rfl w.heap.size 35 #[.int .i64 0, .int .i64 0, .string ⟨#[]⟩, .int .i64 0, .int .i64 0, .int .i64 0, .int .i64 0, .int .u32 0, .int .i64 0] #[.int .i64 0, .int .i64 0, .string ⟨#[]⟩, .int .i64 0, .int .i64 0, .int .i64 0, .int .i64 0, .int .u32 0, .int .i64 0] rfl rfl hR5 rfl (rentry_size9 _ _ _ _ _ _ _ _ _) zero_one ?_; intro w9 hR9 hg9)
          obtain ⟨y0, y1, y2, y3, y4, y5, y6, y7, y8⟩ := box9 hR9
          refine bodyPost_ret (v := .tuple #[.agg #[.int .i64 0, .int .i64 0, .string ⟨#[]⟩, .int .i64 0, .int .i64 0, .int .i64 0, .int .i64 0, .int .u32 0, .int .i64 0], .bool false]) (by simp [results, Tryd.results29, go_sem, y0, y1, y2, y3, y4, y5, y6, y7, y8]) rfl ⟨by rw [HNO.out]; rfl, hbw5.grown hg9 (by have := hbw5.size; omega) (by intro j hj; injection hj with hj; omega)⟩
      · by_cases hk1 : kk = 1
        · subst hk1
          clear hk2
          by_cases hlen : ws.length = 3
          · have h1 : 1 < ns.length := by have := HNL.out; omega
            have hw2 : 2 < ws.length := by omega
            have HC : Hid (refCand ws = if ws[2]'hw2 = [45] then some ⟨1, ns[1]'h1, ⟨#[]⟩, 0, 0, 0, 0, 0, 0⟩ else if okTo (ws[2]'hw2) ((ws[2]'hw2).length / 2) then some ⟨1, ns[1]'h1, ⟨(pairs (ws[2]'hw2) ((ws[2]'hw2).length / 2)).toArray⟩, 0, 0, 0, 0, 0, 0⟩ else none) := by
              show _ = _
              unfold refCand
              simp only [HG0.out, HGD.out 1 h1, getD_get ws ([] : List UInt8) 2 hw2]
              rw [if_neg (by decide), if_pos trivial, if_pos hlen]
            have hle3 : ((ws.length : Int) == 3) = true := by rw [beq_iff_eq]; omega
            have hle2 : ((ws.length : Int) == 2) = false := by rw [beq_eq_false_iff_ne]; omega
            have q1 : (1 : Int) < (ws.length : Int) := by omega
            have q2 : (2 : Int) < (ws.length : Int) := by omega
            clear hlen
            have hne := ne45 (ws[2]'hw2)
            have HC2 : Hid (∀ W, Below w1.heap.size w1 W → W.cell? ⟨g, 2, none⟩ = some (.string ⟨(ws[2]'hw2).toArray⟩)) := fun W hW => HUC.out W hW 2 hw2
            obtain ⟨tb, htb⟩ : ∃ tb : ByteArray, tb = ⟨(ws[2]'hw2).toArray⟩ := ⟨_, rfl⟩
            rw [← htb] at hne HC2
            have HTD : Hid (tb.data.toList = ws[2]'hw2) := by show _ = _; rw [htb]
            have htsz : tb.size ≤ 100000 := by rw [htb]; exact HUL.out 2 hw2
            clear htb
            generalize ws[2]'hw2 = tx at *
            have c2 := HC2.out w5 hbc5
            by_cases h45 : tx = [45]
            · have HRF : Hid (RE = ifLine s.data.toList ⟨1, ns[1]'h1, ⟨#[]⟩, 0, 0, 0, 0, 0, 0⟩) := by
                show _ = _
                rw [HRE2.out, HC.out, if_pos h45]
              have hne1 : (tb.toList != [45]) = false := by rw [hne]; simp [h45]
              have hne2 : (tb.toList == [45]) = true := by
                have : tb.toList = [45] := by simpa using hne1
                rw [this]; rfl
              clear hne h45
              obtain ⟨e0, e1, e2, e3, e4, e5, e6, e7, e8⟩ := box9 hE5
              have f1 := hE5.frozen 1
              have hEn := hE5.set_ 1 ((.int .i64 (ns[1]'h1)))
              simp only [List.setIfInBounds_toArray, List.set_cons_zero, List.set_cons_succ] at hEn
              have hRn := hR5.far (p := ⟨eb, 1, none⟩) (by show w.heap.size ≠ eb; omega) ((.int .i64 (ns[1]'h1)))
              have hbn := hbw5.setCell (p := ⟨eb, 1, none⟩) (by show w.heap.size ≤ eb; omega) ((.int .i64 (ns[1]'h1)))
              have hsn : eb < (w5.setCell ⟨eb, 1, none⟩ ((.int .i64 (ns[1]'h1)))).heap.size := by simp; omega
              have n1 := HNS.out _ hO5 1 h1
              go_upto_region 28 with (fail)
              generalize w5.setCell ⟨eb, 1, none⟩ ((.int .i64 (ns[1]'h1))) = w7 at *
              clear f1 n1 n0 hE5 hR5 hbw5 hs5 hO5 e0 e1 e2 e3 e4 e5 e6 e7 e8
              have hE5 := hEn
              have hR5 := hRn
              have hbw5 := hbn
              have hs5 := hsn
              clear hEn hRn hbn hsn
              generalize ns[1]'h1 = z1 at *
              obtain ⟨e0, e1, e2, e3, e4, e5, e6, e7, e8⟩ := box9 hE5
              go_wp2_with fail
              go_at_call 11
              refine (wrong_any (⟨1, z1, ⟨#[]⟩, 0, 0, 0, 0, 0, 0⟩ : En) _).mono ?_
              rintro r w8 ⟨rfl, hb8⟩
              have hR8 := hR5.below hb8 (by omega)
              have hE8 := hE5.below hb8 (by omega)
              have hbw8 := hbw5.trans (hb8.mono (by omega))
              have hs8 : eb < w8.heap.size := by have := hb8.size; omega
              clear e0 e1 e2 e3 e4 e5 e6 e7 e8 hb8 hE5 hR5 hbw5 hs5
              obtain ⟨q, hq⟩ : ∃ q, q = En.wrong (⟨1, z1, ⟨#[]⟩, 0, 0, 0, 0, 0, 0⟩ : En) := ⟨_, rfl⟩
              rw [← hq]
              by_cases hq0 : q = 0
              · have HW0 : Hid (En.wrong (⟨1, z1, ⟨#[]⟩, 0, 0, 0, 0, 0, 0⟩ : En) = 0) := hq.symm.trans hq0
                subst hq0
                clear hq
                obtain ⟨e0, e1, e2, e3, e4, e5, e6, e7, e8⟩ := box9 hE8
                go_wp2_with fail
                go_at_call 10
                refine (line_any (⟨1, z1, ⟨#[]⟩, 0, 0, 0, 0, 0, 0⟩ : En) _ HW0.out (by simp)).mono ?_
                rintro r w9 ⟨rfl, hb9⟩
                have hR5 := hR8.below hb9 (by omega)
                have hE5 := hE8.below hb9 (by omega)
                have hbw5 := hbw8.trans (hb9.mono (by omega))
                have hs5 : eb < w9.heap.size := by have := hb9.size; omega
                clear e0 e1 e2 e3 e4 e5 e6 e7 e8 hb9 hE8 hR8 hbw8 hs8
                have HLE : Hid (∀ W, (Op.stringOp .add s (ByteArray.mk #[10])).run Tryd.prog W = .ok (.string ⟨(s.data.toList ++ [10]).toArray⟩) W) := line_feed s hs
                obtain ⟨sl, hsl⟩ : ∃ sl : ByteArray, sl = ⟨(En.line (⟨1, z1, ⟨#[]⟩, 0, 0, 0, 0, 0, 0⟩ : En)).toArray⟩ := ⟨_, rfl⟩
                rw [← hsl]
                obtain ⟨sb, hsb⟩ : ∃ sb : ByteArray, sb = ⟨(s.data.toList ++ [10]).toArray⟩ := ⟨_, rfl⟩
                have hadd := HLE.out
                rw [← hsb] at hadd
                by_cases hll : En.line (⟨1, z1, ⟨#[]⟩, 0, 0, 0, 0, 0, 0⟩ : En) = s.data.toList ++ [10]
                · have HRY : Hid (RE = some (⟨1, z1, ⟨#[]⟩, 0, 0, 0, 0, 0, 0⟩ : En)) := by
                    show _ = _
                    rw [HRF.out, ifLine, if_pos ⟨HW0.out, hll⟩]
                  have hss : sl = sb := by rw [hsl, hsb, hll]
                  subst hss
                  clear hll hsl hsb HLE
                  have hbe : (sl.toList != sl.toList) = false := by simp
                  obtain ⟨e0, e1, e2, e3, e4, e5, e6, e7, e8⟩ := box9 hE5
                  have HCO : Hid ((#[.int .i64 1, .int .i64 z1, .string ⟨#[]⟩, .int .i64 0, .int .i64 0, .int .i64 0, .int .i64 0, .int .u32 0, .int .i64 0] : Array Value).all (·.oneCell') = true) := all_oneCell_toArray (cells_one (⟨1, z1, ⟨#[]⟩, 0, 0, 0, 0, 0, 0⟩ : En))
                  go_wp2_with (with_reducible refine wpList_store_box rfl _ _ _ rfl w.heap.size 35 #[.int .i64 0, .int .i64 0, .string ⟨#[]⟩, .int .i64 0, .int .i64 0, .int .i64 0, .int .i64 0, .int .u32 0, .int .i64 0] #[.int .i64 1, .int .i64 z1, .string ⟨#[]⟩, .int .i64 0, .int .i64 0, .int .i64 0, .int .i64 0, .int .u32 0, .int .i64 0] rfl rfl hR5 rfl (rentry_size9 _ _ _ _ _ _ _ _ _) HCO.out ?_; intro wa hR9 hg9)
                  obtain ⟨y0, y1, y2, y3, y4, y5, y6, y7, y8⟩ := box9 hR9
                  refine bodyPost_ret (v := .tuple #[.agg #[.int .i64 1, .int .i64 z1, .string ⟨#[]⟩, .int .i64 0, .int .i64 0, .int .i64 0, .int .i64 0, .int .u32 0, .int .i64 0], .bool true]) (by simp [results, Tryd.results29, go_sem, y0, y1, y2, y3, y4, y5, y6, y7, y8]) rfl ⟨by rw [HRY.out]; rfl, hbw5.grown hg9 (by have := hbw5.size; omega) (by intro j hj; injection hj with hj; omega)⟩
                · have HNO : Hid (RE = none) := by
                    show _ = _
                    rw [HRF.out, ifLine, if_neg (fun h => hll h.2)]
                  have hbe : (sl.toList != sb.toList) = true := by
                    rw [hsl, hsb]
                    simp [Go.ByteArray.toList_eq, hll]
                  have hbe2 : ¬ sl.toList = sb.toList := by simpa using hbe
                  have hbe3 : (sl.toList == sb.toList) = false := by rw [beq_eq_false_iff_ne]; exact hbe2
                  clear hll hsl hsb HLE
                  go_wp2_with (with_reducible refine wpList_store_box rfl _ _ _ rfl w.heap.size 35 #[.int .i64 0, .int .i64 0, .string ⟨#[]⟩, .int .i64 0, .int .i64 0, .int .i64 0, .int .i64 0, .int .u32 0, .int .i64 0] #[.int .i64 0, .int .i64 0, .string ⟨#[]⟩, .int .i64 0, .int .i64 0, .int .i64 0, .int .i64 0, .int .u32 0, .int .i64 0] rfl rfl hR5 rfl (rentry_size9 _ _ _ _ _ _ _ _ _) zero_one ?_; intro wa hR9 hg9)
                  obtain ⟨y0, y1, y2, y3, y4, y5, y6, y7, y8⟩ := box9 hR9
                  refine bodyPost_ret (v := .tuple #[.agg #[.int .i64 0, .int .i64 0, .string ⟨#[]⟩, .int .i64 0, .int .i64 0, .int .i64 0, .int .i64 0, .int .u32 0, .int .i64 0], .bool false]) (by simp [results, Tryd.results29, go_sem, y0, y1, y2, y3, y4, y5, y6, y7, y8]) rfl ⟨by rw [HNO.out]; rfl, hbw5.grown hg9 (by have := hbw5.size; omega) (by intro j hj; injection hj with hj; omega)⟩
              · have HNO : Hid (RE = none) := by
                  show _ = _
                  rw [HRF.out, ifLine, if_neg (fun h => hq0 (hq.trans h.1))]
                have hqn : (q != 0) = true := by simpa using hq0
                have hR5 := hR8
                have hbw5 := hbw8
                clear hq hR8 hbw8
                go_wp2_with (with_reducible refine wpList_store_box rfl _ _ _ rfl w.heap.size 35 #[.int .i64 0, .int .i64 0, .string ⟨#[]⟩, .int .i64 0, .int .i64 0, .int .i64 0, .int .i64 0, .int .u32 0, .int .i64 0] #[.int .i64 0, .int .i64 0, .string ⟨#[]⟩, .int .i64 0, .int .i64 0, .int .i64 0, .int .i64 0, .int .u32 0, .int .i64 0] rfl rfl hR5 rfl (rentry_size9 _ _ _ _ _ _ _ _ _) zero_one ?_; intro w9 hR9 hg9)
                obtain ⟨y0, y1, y2, y3, y4, y5, y6, y7, y8⟩ := box9 hR9
                refine bodyPost_ret (v := .tuple #[.agg #[.int .i64 0, .int .i64 0, .string ⟨#[]⟩, .int .i64 0, .int .i64 0, .int .i64 0, .int .i64 0, .int .u32 0, .int .i64 0], .bool false]) (by simp [results, Tryd.results29, go_sem, y0, y1, y2, y3, y4, y5, y6, y7, y8]) rfl ⟨by rw [HNO.out]; rfl, hbw5.grown hg9 (by have := hbw5.size; omega) (by intro j hj; injection hj with hj; omega)⟩
            · have hne1 : (tb.toList != [45]) = true := by rw [hne]; simp [h45]
              have hne2 : ¬ tb.toList = [45] := by simpa using hne1
              have hne3 : (tb.toList == [45]) = false := by rw [beq_eq_false_iff_ne]; exact hne2
              have HC3 : Hid (RE = if okTo tx (tx.length / 2) then ifLine s.data.toList ⟨1, ns[1]'h1, ⟨(pairs tx (tx.length / 2)).toArray⟩, 0, 0, 0, 0, 0, 0⟩ else none) := by
                show _ = _
                rw [HRE2.out, HC.out, if_neg h45]
                by_cases ho : okTo tx (tx.length / 2)
                · rw [if_pos ho, if_pos ho]
                · rw [if_neg ho, if_neg ho]
              clear hne h45 HC
              obtain ⟨j0, hj0, hj1, hj2, hj3⟩ := info_parts byte_info
              go_wp2_with fail
              go_loopw [10, 11] (fun v i wr => ∃ m j : Nat, m = 2 * j ∧ m ≤ tb.size ∧ i = .int .i64 m ∧ wr.ownsRow w5.heap.size 5 1 v j (byteCells (pairs tx j)) ∧ (j = 0 → v = .slice none 0 0) ∧ okTo tx j ∧ Below w5.heap.size w5 wr) (fun _ i _ => tb.size - (intOf i).toNat)
              case atStart => exact ⟨0, 0, rfl, by omega, rfl, World.ownsRow_nil _ _ _ _, fun _ => rfl, (fun i hi => by omega), Below.refl _ _⟩
              case round =>
                obtain ⟨m, j, hm, hmle, rfl, hown, hnil, hok, hbr⟩ := hrel
                have HOK := Lib.hid hok
                have HM := Lib.hid hm
                have HNIL := Lib.hid hnil
                have hjle : j ≤ m := by omega
                clear hok hm hnil
                have hsr := hbr.size
                have c2 := HC2.out wr (hbc5.trans (hbr.mono (by have := hbc5.size; omega)))
                by_cases hlt : m + 1 < tb.size
                · have q3 : (m : Int) + 1 < (tb.size : Int) := by omega
                  have q4 : (m : Int) < (tb.size : Int) := by omega
                  have hm0 : m < tb.size := by omega
                  have HX1 : Hid (tx.getD (2 * j) 0 = tb[m]'hm0) := by
                    show _ = _
                    rw [← HM.out, ← HTD.out, getD_get _ _ _ (by simpa using hm0)]
                    rfl
                  have HX2 : Hid (tx.getD (2 * j + 1) 0 = tb[m + 1]'hlt) := by
                    show _ = _
                    rw [← HM.out, ← HTD.out, getD_get _ _ _ (by simpa using hlt)]
                    rfl
                  have b1 := hv_lt (tb[m]'hm0)
                  have b2 := hv_lt (tb[m + 1]'hlt)
                  by_cases hxy : 0 ≤ hv (tb[m]'hm0) ∧ 0 ≤ hv (tb[m + 1]'hlt)
                  · obtain ⟨hx0, hy0⟩ := hxy
                    have HOK1 : Hid (okTo tx (j + 1)) := by
                      intro i hi
                      by_cases hij : i < j
                      · exact HOK.out i hij
                      · obtain rfl : i = j := by omega
                        rw [HX1.out, HX2.out]
                        exact ⟨hx0, hy0⟩
                    have HPR : Hid (byteCells (pairs tx (j + 1)) = byteCells (pairs tx j) ++ [.int .u8 (16 * hv (tb[m]'hm0) + hv (tb[m + 1]'hlt))]) := by
                      show _ = _
                      rw [pairs_snoc, HX1.out, HX2.out, byteCells_append]
                      obtain ⟨xn, hxn⟩ := Int.eq_ofNat_of_zero_le hx0
                      obtain ⟨yn, hyn⟩ := Int.eq_ofNat_of_zero_le hy0
                      have hval : (((UInt8.ofNat (16 * xn + yn)).toNat : Nat) : Int) = 16 * (xn : Int) + (yn : Int) := by
                        have : (UInt8.ofNat (16 * xn + yn)).toNat = 16 * xn + yn := by simp; omega
                        rw [this]; omega
                      rw [hxn, hyn]
                      simp only [byteCells, List.map_cons, List.map_nil, Int.toNat_natCast, hval]
                    go_upto_region 24 with (go_at_call 39; refine (value_q _ _).mono ?_; rintro r wz ⟨rfl, rfl⟩)
                    have e1 : IntKind.i64.wrap ((m : Int) + 1) = (m : Int) + 1 := IntWalk.i64_in _ (by omega)
                    have e4 : ((m : Int) + 1).toNat = m + 1 := by omega
                    have e5 : (0 : Int) ≤ (m : Int) + 1 := by omega
                    have e6 : IntKind.i64.wrap (16 * hv (tb[m]'hm0)) = 16 * hv (tb[m]'hm0) := IntWalk.i64_in _ (by omega)
                    have e7 : IntKind.i64.wrap (16 * hv (tb[m]'hm0) + hv (tb[m + 1]'hlt)) = 16 * hv (tb[m]'hm0) + hv (tb[m + 1]'hlt) := IntWalk.i64_in _ (by omega)
                    have e8 : IntKind.u8.wrap (16 * hv (tb[m]'hm0) + hv (tb[m + 1]'hlt)) = 16 * hv (tb[m]'hm0) + hv (tb[m + 1]'hlt) := by rw [IntKind.wrap_u8]; omega
                    have hgw : g < w5.heap.size := by have := hbc5.size; omega
                    go_region_held3 (fun x => x.cell? ⟨g, 2, none⟩ = some (.string tb))
                      (first | go_keep | (rw [hgrow.cell_far _ (by simp; omega) (by intro h; have := (hown.lt g h.symm).1; omega)]; assumption))
                      (first
                        | (go_at_call 39; ((with_reducible refine (value_q _ _).mono ?_); rintro r w' ⟨rfl, rfl⟩))
                        | (refine step_append_lies _ (by rfl) _ _ _ (by rfl) w5.heap.size 5 j0 _ 1 1 Tryd.underlying50 hj0 hj1 hj2 hj3 rfl (by omega) _ _ _ (by rfl) ((hown.alloc _).drew) ⟨wr.heap.size, 0, none⟩ 1 1 [.int .u8 (16 * hv (tb[m]'hm0) + hv (tb[m + 1]'hlt))] (by rfl) (by rfl) (World.news_of_block (cs := #[.int .u8 (16 * hv (tb[m]'hm0) + hv (tb[m + 1]'hlt))]) (t := 5) (fr := (0, 0)) (heap_alloc_new wr _)) (by simp [Value.oneCell']) (by omega) (by simp only [maxLen]; omega) (by omega) (by simp; omega) (wr.heap.size + 1) (by simp) ?_; intro gg cap' w8 hown8 hgrow hat hlt3))
                    all_goals
                      have HO8 : Hid (w8.ownsRow w5.heap.size 5 1 (.slice (some ⟨gg, 0, none⟩) (j + 1) cap') (j + 1) (byteCells (pairs tx (j + 1)))) := by rw [HPR.out]; exact hown8
                      have HB8 : Hid (Below w5.heap.size w5 w8) := (hbr.trans (((Below.refl _ _).alloc hsr _).drew)).grown hgrow (by simp; omega) (fun i hi => (hown.lt i hi).1)
                      have HM1 : Hid (m + 2 = 2 * (j + 1)) := by show _ = _; have := HM.out; omega
                      clear hown8 hgrow hown hbr c2 hat
                      go_wp2_with fail
                      go_roundw
                      case rel => exact ⟨m + 2, j + 1, HM1.out, by omega, by go_num, HO8.out, (fun h => by omega), HOK1.out, HB8.out⟩
                      case measure => simp [intOf]; omega
                  · have HNO : Hid (RE = none) := by
                      show _ = _
                      rw [HC3.out, if_neg]
                      intro h
                      refine hxy ?_
                      have hl : tx.length = tb.size := by rw [← HTD.out]; simp
                      have h2 := h j (by have := HM.out; omega)
                      rw [HX1.out, HX2.out] at h2
                      exact h2
                    have hRm := hR5.below hbr (by omega)
                    have hbwm := hbw5.trans (hbr.mono (by omega))
                    clear hR5 hbw5 hE5 hO5 hs5 n0 hown
                    have hR5 := hRm
                    have hbw5 := hbwm
                    clear hRm hbwm
                    by_cases hx0 : hv (tb[m]'hm0) < 0
                    · clear hxy
                      go_wp2_with (first | (go_at_call 39; refine (value_q _ _).mono ?_; rintro r wz ⟨rfl, rfl⟩) | (with_reducible refine wpList_store_box rfl _ _ _ rfl w.heap.size 35 #[.int .i64 0, .int .i64 0, .string ⟨#[]⟩, .int .i64 0, .int .i64 0, .int .i64 0, .int .i64 0, .int .u32 0, .int .i64 0] #[.int .i64 0, .int .i64 0, .string ⟨#[]⟩, .int .i64 0, .int .i64 0, .int .i64 0, .int .i64 0, .int .u32 0, .int .i64 0] rfl rfl hR5 rfl (rentry_size9 _ _ _ _ _ _ _ _ _) zero_one ?_; intro w9 hR9 hg9))
                      obtain ⟨y0, y1, y2, y3, y4, y5, y6, y7, y8⟩ := box9 hR9
                      refine bodyPost_ret (v := .tuple #[.agg #[.int .i64 0, .int .i64 0, .string ⟨#[]⟩, .int .i64 0, .int .i64 0, .int .i64 0, .int .i64 0, .int .u32 0, .int .i64 0], .bool false]) (by simp [results, Tryd.results29, go_sem, y0, y1, y2, y3, y4, y5, y6, y7, y8]) rfl ⟨by rw [HNO.out]; rfl, hbw5.grown hg9 (by have := hbw5.size; omega) (by intro j hj; injection hj with hj; omega)⟩
                    · have hx1 : 0 ≤ hv (tb[m]'hm0) := by omega
                      have hy0 : hv (tb[m + 1]'hlt) < 0 := by omega
                      clear hxy hx0
                      go_wp2_with (first | (go_at_call 39; refine (value_q _ _).mono ?_; rintro r wz ⟨rfl, rfl⟩) | (with_reducible refine wpList_store_box rfl _ _ _ rfl w.heap.size 35 #[.int .i64 0, .int .i64 0, .string ⟨#[]⟩, .int .i64 0, .int .i64 0, .int .i64 0, .int .i64 0, .int .u32 0, .int .i64 0] #[.int .i64 0, .int .i64 0, .string ⟨#[]⟩, .int .i64 0, .int .i64 0, .int .i64 0, .int .i64 0, .int .u32 0, .int .i64 0] rfl rfl hR5 rfl (rentry_size9 _ _ _ _ _ _ _ _ _) zero_one ?_; intro w9 hR9 hg9))
                      obtain ⟨y0, y1, y2, y3, y4, y5, y6, y7, y8⟩ := box9 hR9
                      refine bodyPost_ret (v := .tuple #[.agg #[.int .i64 0, .int .i64 0, .string ⟨#[]⟩, .int .i64 0, .int .i64 0, .int .i64 0, .int .i64 0, .int .u32 0, .int .i64 0], .bool false]) (by simp [results, Tryd.results29, go_sem, y0, y1, y2, y3, y4, y5, y6, y7, y8]) rfl ⟨by rw [HNO.out]; rfl, hbw5.grown hg9 (by have := hbw5.size; omega) (by intro j hj; injection hj with hj; omega)⟩
                · have q3 : ¬ ((m : Int) + 1 < (tb.size : Int)) := by omega
                  have hjl : j = tx.length / 2 := by
                    have hl : tx.length = tb.size := by rw [← HTD.out]; simp
                    have := HM.out
                    omega
                  have HRF0 : Hid (RE = ifLine s.data.toList ⟨1, ns[1]'h1, ⟨(pairs tx j).toArray⟩, 0, 0, 0, 0, 0, 0⟩) := by
                    show _ = _
                    rw [HC3.out, ← hjl, if_pos HOK.out]
                  obtain ⟨bb, hbb⟩ : ∃ bb : ByteArray, bb = ⟨(pairs tx j).toArray⟩ := ⟨_, rfl⟩
                  rw [← hbb] at HRF0
                  have HRF : Hid (RE = ifLine s.data.toList ⟨1, ns[1]'h1, bb, 0, 0, 0, 0, 0, 0⟩) := HRF0
                  clear HRF0 hjl HC3
                  have hEm := hE5.below hbr hs5
                  have hRm := hR5.below hbr (by omega)
                  have hOm := own_below hO5 hbr
                  have hbwm := hbw5.trans (hbr.mono (by omega))
                  have hbcm := hbc5.trans (hbr.mono (by have := hbc5.size; omega))
                  have hsm : eb < wr.heap.size := by have := hbr.size; omega
                  clear hE5 hR5 hO5 hbw5 hbc5 hs5 n0
                  have hE5 := hEm
                  have hR5 := hRm
                  have hO5 := hOm
                  have hbw5 := hbwm
                  have hs5 := hsm
                  clear hEm hRm hOm hbwm hbcm hsm
                  by_cases hj : j = 0
                  · have hv0 := HNIL.out hj
                    subst hv0
                    have hbe : bb = ⟨#[]⟩ := by rw [hbb, hj]; rfl
                    subst hbe
                    clear hbb
                    have hcv : (convert 50 9 (.slice none 0 0)).run Tryd.prog wr = .ok (.string ⟨#[]⟩) wr := conv_nil wr
                    obtain ⟨e0, e1, e2, e3, e4, e5, e6, e7, e8⟩ := box9 hE5
                    have f2 := hE5.frozen 2
                    have hEn := hE5.set_ 2 (.string ⟨#[]⟩)
                    simp only [List.setIfInBounds_toArray, List.set_cons_zero, List.set_cons_succ] at hEn
                    have hRn := hR5.far (p := ⟨eb, 2, none⟩) (by show w.heap.size ≠ eb; omega) (.string ⟨#[]⟩)
                    have hbn := hbw5.setCell (p := ⟨eb, 2, none⟩) (by show w.heap.size ≤ eb; omega) (.string ⟨#[]⟩)
                    have hOn := own_far (u := .string ⟨#[]⟩) (p := ⟨eb, 2, none⟩) hO5 (own_box_ne hO5 hE5 (by decide))
                    have hsn : eb < (wr.setCell ⟨eb, 2, none⟩ (.string ⟨#[]⟩)).heap.size := by simp; omega
                    go_upto_region 26 with (fail)
                    generalize wr.setCell ⟨eb, 2, none⟩ (.string ⟨#[]⟩) = wa at *
                    clear f2 hE5 hR5 hbw5 hs5 hO5 e0 e1 e2 e3 e4 e5 e6 e7 e8
                    have hE5 := hEn
                    have hR5 := hRn
                    have hbw5 := hbn
                    have hs5 := hsn
                    have hO5 := hOn
                    clear hEn hRn hbn hsn hOn
                    clear hcv
                    have n0 := HNS.out wa hO5 0 hn0
                    rw [HKK.out] at n0
                    obtain ⟨e0, e1, e2, e3, e4, e5, e6, e7, e8⟩ := box9 hE5
                    have f1 := hE5.frozen 1
                    have hEn := hE5.set_ 1 ((.int .i64 (ns[1]'h1)))
                    simp only [List.setIfInBounds_toArray, List.set_cons_zero, List.set_cons_succ] at hEn
                    have hRn := hR5.far (p := ⟨eb, 1, none⟩) (by show w.heap.size ≠ eb; omega) ((.int .i64 (ns[1]'h1)))
                    have hbn := hbw5.setCell (p := ⟨eb, 1, none⟩) (by show w.heap.size ≤ eb; omega) ((.int .i64 (ns[1]'h1)))
                    have hsn : eb < (wa.setCell ⟨eb, 1, none⟩ ((.int .i64 (ns[1]'h1)))).heap.size := by simp; omega
                    have n1 := HNS.out _ hO5 1 h1
                    go_upto_region 28 with (fail)
                    generalize wa.setCell ⟨eb, 1, none⟩ ((.int .i64 (ns[1]'h1))) = w7 at *
                    clear f1 n1 n0 hE5 hR5 hbw5 hs5 hO5 e0 e1 e2 e3 e4 e5 e6 e7 e8
                    have hE5 := hEn
                    have hR5 := hRn
                    have hbw5 := hbn
                    have hs5 := hsn
                    clear hEn hRn hbn hsn
                    generalize ns[1]'h1 = z1 at *
                    obtain ⟨e0, e1, e2, e3, e4, e5, e6, e7, e8⟩ := box9 hE5
                    go_wp2_with fail
                    go_at_call 11
                    refine (wrong_any (⟨1, z1, ⟨#[]⟩, 0, 0, 0, 0, 0, 0⟩ : En) _).mono ?_
                    rintro r w8 ⟨rfl, hb8⟩
                    have hR8 := hR5.below hb8 (by omega)
                    have hE8 := hE5.below hb8 (by omega)
                    have hbw8 := hbw5.trans (hb8.mono (by omega))
                    have hs8 : eb < w8.heap.size := by have := hb8.size; omega
                    clear e0 e1 e2 e3 e4 e5 e6 e7 e8 hb8 hE5 hR5 hbw5 hs5
                    obtain ⟨q, hq⟩ : ∃ q, q = En.wrong (⟨1, z1, ⟨#[]⟩, 0, 0, 0, 0, 0, 0⟩ : En) := ⟨_, rfl⟩
                    rw [← hq]
                    by_cases hq0 : q = 0
                    · have HW0 : Hid (En.wrong (⟨1, z1, ⟨#[]⟩, 0, 0, 0, 0, 0, 0⟩ : En) = 0) := hq.symm.trans hq0
                      subst hq0
                      clear hq
                      obtain ⟨e0, e1, e2, e3, e4, e5, e6, e7, e8⟩ := box9 hE8
                      go_wp2_with fail
                      go_at_call 10
                      refine (line_any (⟨1, z1, ⟨#[]⟩, 0, 0, 0, 0, 0, 0⟩ : En) _ HW0.out (by simp)).mono ?_
                      rintro r w9 ⟨rfl, hb9⟩
                      have hR5 := hR8.below hb9 (by omega)
                      have hE5 := hE8.below hb9 (by omega)
                      have hbw5 := hbw8.trans (hb9.mono (by omega))
                      have hs5 : eb < w9.heap.size := by have := hb9.size; omega
                      clear e0 e1 e2 e3 e4 e5 e6 e7 e8 hb9 hE8 hR8 hbw8 hs8
                      have HLE : Hid (∀ W, (Op.stringOp .add s (ByteArray.mk #[10])).run Tryd.prog W = .ok (.string ⟨(s.data.toList ++ [10]).toArray⟩) W) := line_feed s hs
                      obtain ⟨sl, hsl⟩ : ∃ sl : ByteArray, sl = ⟨(En.line (⟨1, z1, ⟨#[]⟩, 0, 0, 0, 0, 0, 0⟩ : En)).toArray⟩ := ⟨_, rfl⟩
                      rw [← hsl]
                      obtain ⟨sb, hsb⟩ : ∃ sb : ByteArray, sb = ⟨(s.data.toList ++ [10]).toArray⟩ := ⟨_, rfl⟩
                      have hadd := HLE.out
                      rw [← hsb] at hadd
                      by_cases hll : En.line (⟨1, z1, ⟨#[]⟩, 0, 0, 0, 0, 0, 0⟩ : En) = s.data.toList ++ [10]
                      · have HRY : Hid (RE = some (⟨1, z1, ⟨#[]⟩, 0, 0, 0, 0, 0, 0⟩ : En)) := by
                          show _ = _
                          rw [HRF.out, ifLine, if_pos ⟨HW0.out, hll⟩]
                        have hss : sl = sb := by rw [hsl, hsb, hll]
                        subst hss
                        clear hll hsl hsb HLE
                        have hbe : (sl.toList != sl.toList) = false := by simp
                        obtain ⟨e0, e1, e2, e3, e4, e5, e6, e7, e8⟩ := box9 hE5
                        have HCO : Hid ((#[.int .i64 1, .int .i64 z1, .string ⟨#[]⟩, .int .i64 0, .int .i64 0, .int .i64 0, .int .i64 0, .int .u32 0, .int .i64 0] : Array Value).all (·.oneCell') = true) := all_oneCell_toArray (cells_one (⟨1, z1, ⟨#[]⟩, 0, 0, 0, 0, 0, 0⟩ : En))
                        go_wp2_with (with_reducible refine wpList_store_box rfl _ _ _ rfl w.heap.size 35 #[.int .i64 0, .int .i64 0, .string ⟨#[]⟩, .int .i64 0, .int .i64 0, .int .i64 0, .int .i64 0, .int .u32 0, .int .i64 0] #[.int .i64 1, .int .i64 z1, .string ⟨#[]⟩, .int .i64 0, .int .i64 0, .int .i64 0, .int .i64 0, .int .u32 0, .int .i64 0] rfl rfl hR5 rfl (rentry_size9 _ _ _ _ _ _ _ _ _) HCO.out ?_; intro wa hR9 hg9)
                        obtain ⟨y0, y1, y2, y3, y4, y5, y6, y7, y8⟩ := box9 hR9
                        refine bodyPost_ret (v := .tuple #[.agg #[.int .i64 1, .int .i64 z1, .string ⟨#[]⟩, .int .i64 0, .int .i64 0, .int .i64 0, .int .i64 0, .int .u32 0, .int .i64 0], .bool true]) (by simp [results, Tryd.results29, go_sem, y0, y1, y2, y3, y4, y5, y6, y7, y8]) rfl ⟨by rw [HRY.out]; rfl, hbw5.grown hg9 (by have := hbw5.size; omega) (by intro j hj; injection hj with hj; omega)⟩
                      · have HNO : Hid (RE = none) := by
                          show _ = _
                          rw [HRF.out, ifLine, if_neg (fun h => hll h.2)]
                        have hbe : (sl.toList != sb.toList) = true := by
                          rw [hsl, hsb]
                          simp [Go.ByteArray.toList_eq, hll]
                        have hbe2 : ¬ sl.toList = sb.toList := by simpa using hbe
                        have hbe3 : (sl.toList == sb.toList) = false := by rw [beq_eq_false_iff_ne]; exact hbe2
                        clear hll hsl hsb HLE
                        go_wp2_with (with_reducible refine wpList_store_box rfl _ _ _ rfl w.heap.size 35 #[.int .i64 0, .int .i64 0, .string ⟨#[]⟩, .int .i64 0, .int .i64 0, .int .i64 0, .int .i64 0, .int .u32 0, .int .i64 0] #[.int .i64 0, .int .i64 0, .string ⟨#[]⟩, .int .i64 0, .int .i64 0, .int .i64 0, .int .i64 0, .int .u32 0, .int .i64 0] rfl rfl hR5 rfl (rentry_size9 _ _ _ _ _ _ _ _ _) zero_one ?_; intro wa hR9 hg9)
                        obtain ⟨y0, y1, y2, y3, y4, y5, y6, y7, y8⟩ := box9 hR9
                        refine bodyPost_ret (v := .tuple #[.agg #[.int .i64 0, .int .i64 0, .string ⟨#[]⟩, .int .i64 0, .int .i64 0, .int .i64 0, .int .i64 0, .int .u32 0, .int .i64 0], .bool false]) (by simp [results, Tryd.results29, go_sem, y0, y1, y2, y3, y4, y5, y6, y7, y8]) rfl ⟨by rw [HNO.out]; rfl, hbw5.grown hg9 (by have := hbw5.size; omega) (by intro j hj; injection hj with hj; omega)⟩
                    · have HNO : Hid (RE = none) := by
                        show _ = _
                        rw [HRF.out, ifLine, if_neg (fun h => hq0 (hq.trans h.1))]
                      have hqn : (q != 0) = true := by simpa using hq0
                      have hR5 := hR8
                      have hbw5 := hbw8
                      clear hq hR8 hbw8
                      go_wp2_with (with_reducible refine wpList_store_box rfl _ _ _ rfl w.heap.size 35 #[.int .i64 0, .int .i64 0, .string ⟨#[]⟩, .int .i64 0, .int .i64 0, .int .i64 0, .int .i64 0, .int .u32 0, .int .i64 0] #[.int .i64 0, .int .i64 0, .string ⟨#[]⟩, .int .i64 0, .int .i64 0, .int .i64 0, .int .i64 0, .int .u32 0, .int .i64 0] rfl rfl hR5 rfl (rentry_size9 _ _ _ _ _ _ _ _ _) zero_one ?_; intro w9 hR9 hg9)
                      obtain ⟨y0, y1, y2, y3, y4, y5, y6, y7, y8⟩ := box9 hR9
                      refine bodyPost_ret (v := .tuple #[.agg #[.int .i64 0, .int .i64 0, .string ⟨#[]⟩, .int .i64 0, .int .i64 0, .int .i64 0, .int .i64 0, .int .u32 0, .int .i64 0], .bool false]) (by simp [results, Tryd.results29, go_sem, y0, y1, y2, y3, y4, y5, y6, y7, y8]) rfl ⟨by rw [HNO.out]; rfl, hbw5.grown hg9 (by have := hbw5.size; omega) (by intro j hj; injection hj with hj; omega)⟩
                  · obtain ⟨gb, cb, rfl, -, -⟩ := hown.form (by omega)
                    have hcv : (convert 50 9 (.slice (some ⟨gb, 0, none⟩) j cb)).run Tryd.prog wr = .ok (.string bb) wr := by
                      have := run_convert_bytes_back (P := Tryd.prog) wr 50 9 5 ⟨gb, 0, none⟩ cb (pairs tx j) Tryd.underlying50 Tryd.underlying5 Tryd.underlying9 (fun i hi => by
                        refine hown.cells (g := gb) rfl i _ ?_
                        simp [byteCells, hi])
                      rw [pairs_length] at this
                      rw [hbb]
                      exact this
                    clear hbb
                    obtain ⟨e0, e1, e2, e3, e4, e5, e6, e7, e8⟩ := box9 hE5
                    have f2 := hE5.frozen 2
                    have hEn := hE5.set_ 2 (.string bb)
                    simp only [List.setIfInBounds_toArray, List.set_cons_zero, List.set_cons_succ] at hEn
                    have hRn := hR5.far (p := ⟨eb, 2, none⟩) (by show w.heap.size ≠ eb; omega) (.string bb)
                    have hbn := hbw5.setCell (p := ⟨eb, 2, none⟩) (by show w.heap.size ≤ eb; omega) (.string bb)
                    have hOn := own_far (u := .string bb) (p := ⟨eb, 2, none⟩) hO5 (own_box_ne hO5 hE5 (by decide))
                    have hsn : eb < (wr.setCell ⟨eb, 2, none⟩ (.string bb)).heap.size := by simp; omega
                    go_upto_region 26 with (fail)
                    generalize wr.setCell ⟨eb, 2, none⟩ (.string bb) = wa at *
                    clear f2 hE5 hR5 hbw5 hs5 hO5 e0 e1 e2 e3 e4 e5 e6 e7 e8
                    have hE5 := hEn
                    have hR5 := hRn
                    have hbw5 := hbn
                    have hs5 := hsn
                    have hO5 := hOn
                    clear hEn hRn hbn hsn hOn
                    clear hcv
                    have n0 := HNS.out wa hO5 0 hn0
                    rw [HKK.out] at n0
                    obtain ⟨e0, e1, e2, e3, e4, e5, e6, e7, e8⟩ := box9 hE5
                    have f1 := hE5.frozen 1
                    have hEn := hE5.set_ 1 ((.int .i64 (ns[1]'h1)))
                    simp only [List.setIfInBounds_toArray, List.set_cons_zero, List.set_cons_succ] at hEn
                    have hRn := hR5.far (p := ⟨eb, 1, none⟩) (by show w.heap.size ≠ eb; omega) ((.int .i64 (ns[1]'h1)))
                    have hbn := hbw5.setCell (p := ⟨eb, 1, none⟩) (by show w.heap.size ≤ eb; omega) ((.int .i64 (ns[1]'h1)))
                    have hsn : eb < (wa.setCell ⟨eb, 1, none⟩ ((.int .i64 (ns[1]'h1)))).heap.size := by simp; omega
                    have n1 := HNS.out _ hO5 1 h1
                    go_upto_region 28 with (fail)
                    generalize wa.setCell ⟨eb, 1, none⟩ ((.int .i64 (ns[1]'h1))) = w7 at *
                    clear f1 n1 n0 hE5 hR5 hbw5 hs5 hO5 e0 e1 e2 e3 e4 e5 e6 e7 e8
                    have hE5 := hEn
                    have hR5 := hRn
                    have hbw5 := hbn
                    have hs5 := hsn
                    clear hEn hRn hbn hsn
                    generalize ns[1]'h1 = z1 at *
                    obtain ⟨e0, e1, e2, e3, e4, e5, e6, e7, e8⟩ := box9 hE5
                    go_wp2_with fail
                    go_at_call 11
                    refine (wrong_any (⟨1, z1, bb, 0, 0, 0, 0, 0, 0⟩ : En) _).mono ?_
                    rintro r w8 ⟨rfl, hb8⟩
                    have hR8 := hR5.below hb8 (by omega)
                    have hE8 := hE5.below hb8 (by omega)
                    have hbw8 := hbw5.trans (hb8.mono (by omega))
                    have hs8 : eb < w8.heap.size := by have := hb8.size; omega
                    clear e0 e1 e2 e3 e4 e5 e6 e7 e8 hb8 hE5 hR5 hbw5 hs5
                    obtain ⟨q, hq⟩ : ∃ q, q = En.wrong (⟨1, z1, bb, 0, 0, 0, 0, 0, 0⟩ : En) := ⟨_, rfl⟩
                    rw [← hq]
                    by_cases hq0 : q = 0
                    · have HW0 : Hid (En.wrong (⟨1, z1, bb, 0, 0, 0, 0, 0, 0⟩ : En) = 0) := hq.symm.trans hq0
                      subst hq0
                      clear hq
                      obtain ⟨e0, e1, e2, e3, e4, e5, e6, e7, e8⟩ := box9 hE8
                      go_wp2_with fail
                      go_at_call 10
                      refine (line_any (⟨1, z1, bb, 0, 0, 0, 0, 0, 0⟩ : En) _ HW0.out (by simp)).mono ?_
                      rintro r w9 ⟨rfl, hb9⟩
                      have hR5 := hR8.below hb9 (by omega)
                      have hE5 := hE8.below hb9 (by omega)
                      have hbw5 := hbw8.trans (hb9.mono (by omega))
                      have hs5 : eb < w9.heap.size := by have := hb9.size; omega
                      clear e0 e1 e2 e3 e4 e5 e6 e7 e8 hb9 hE8 hR8 hbw8 hs8
                      have HLE : Hid (∀ W, (Op.stringOp .add s (ByteArray.mk #[10])).run Tryd.prog W = .ok (.string ⟨(s.data.toList ++ [10]).toArray⟩) W) := line_feed s hs
                      obtain ⟨sl, hsl⟩ : ∃ sl : ByteArray, sl = ⟨(En.line (⟨1, z1, bb, 0, 0, 0, 0, 0, 0⟩ : En)).toArray⟩ := ⟨_, rfl⟩
                      rw [← hsl]
                      obtain ⟨sb, hsb⟩ : ∃ sb : ByteArray, sb = ⟨(s.data.toList ++ [10]).toArray⟩ := ⟨_, rfl⟩
                      have hadd := HLE.out
                      rw [← hsb] at hadd
                      by_cases hll : En.line (⟨1, z1, bb, 0, 0, 0, 0, 0, 0⟩ : En) = s.data.toList ++ [10]
                      · have HRY : Hid (RE = some (⟨1, z1, bb, 0, 0, 0, 0, 0, 0⟩ : En)) := by
                          show _ = _
                          rw [HRF.out, ifLine, if_pos ⟨HW0.out, hll⟩]
                        have hss : sl = sb := by rw [hsl, hsb, hll]
                        subst hss
                        clear hll hsl hsb HLE
                        have hbe : (sl.toList != sl.toList) = false := by simp
                        obtain ⟨e0, e1, e2, e3, e4, e5, e6, e7, e8⟩ := box9 hE5
                        have HCO : Hid ((#[.int .i64 1, .int .i64 z1, .string bb, .int .i64 0, .int .i64 0, .int .i64 0, .int .i64 0, .int .u32 0, .int .i64 0] : Array Value).all (·.oneCell') = true) := all_oneCell_toArray (cells_one (⟨1, z1, bb, 0, 0, 0, 0, 0, 0⟩ : En))
                        go_wp2_with (with_reducible refine wpList_store_box rfl _ _ _ rfl w.heap.size 35 #[.int .i64 0, .int .i64 0, .string ⟨#[]⟩, .int .i64 0, .int .i64 0, .int .i64 0, .int .i64 0, .int .u32 0, .int .i64 0] #[.int .i64 1, .int .i64 z1, .string bb, .int .i64 0, .int .i64 0, .int .i64 0, .int .i64 0, .int .u32 0, .int .i64 0] rfl rfl hR5 rfl (rentry_size9 _ _ _ _ _ _ _ _ _) HCO.out ?_; intro wa hR9 hg9)
                        obtain ⟨y0, y1, y2, y3, y4, y5, y6, y7, y8⟩ := box9 hR9
                        refine bodyPost_ret (v := .tuple #[.agg #[.int .i64 1, .int .i64 z1, .string bb, .int .i64 0, .int .i64 0, .int .i64 0, .int .i64 0, .int .u32 0, .int .i64 0], .bool true]) (by simp [results, Tryd.results29, go_sem, y0, y1, y2, y3, y4, y5, y6, y7, y8]) rfl ⟨by rw [HRY.out]; rfl, hbw5.grown hg9 (by have := hbw5.size; omega) (by intro j hj; injection hj with hj; omega)⟩
                      · have HNO : Hid (RE = none) := by
                          show _ = _
                          rw [HRF.out, ifLine, if_neg (fun h => hll h.2)]
                        have hbe : (sl.toList != sb.toList) = true := by
                          rw [hsl, hsb]
                          simp [Go.ByteArray.toList_eq, hll]
                        have hbe2 : ¬ sl.toList = sb.toList := by simpa using hbe
                        have hbe3 : (sl.toList == sb.toList) = false := by rw [beq_eq_false_iff_ne]; exact hbe2
                        clear hll hsl hsb HLE
                        go_wp2_with (with_reducible refine wpList_store_box rfl _ _ _ rfl w.heap.size 35 #[.int .i64 0, .int .i64 0, .string ⟨#[]⟩, .int .i64 0, .int .i64 0, .int .i64 0, .int .i64 0, .int .u32 0, .int .i64 0] #[.int .i64 0, .int .i64 0, .string ⟨#[]⟩, .int .i64 0, .int .i64 0, .int .i64 0, .int .i64 0, .int .u32 0, .int .i64 0] rfl rfl hR5 rfl (rentry_size9 _ _ _ _ _ _ _ _ _) zero_one ?_; intro wa hR9 hg9)
                        obtain ⟨y0, y1, y2, y3, y4, y5, y6, y7, y8⟩ := box9 hR9
                        refine bodyPost_ret (v := .tuple #[.agg #[.int .i64 0, .int .i64 0, .string ⟨#[]⟩, .int .i64 0, .int .i64 0, .int .i64 0, .int .i64 0, .int .u32 0, .int .i64 0], .bool false]) (by simp [results, Tryd.results29, go_sem, y0, y1, y2, y3, y4, y5, y6, y7, y8]) rfl ⟨by rw [HNO.out]; rfl, hbw5.grown hg9 (by have := hbw5.size; omega) (by intro j hj; injection hj with hj; omega)⟩
                    · have HNO : Hid (RE = none) := by
                        show _ = _
                        rw [HRF.out, ifLine, if_neg (fun h => hq0 (hq.trans h.1))]
                      have hqn : (q != 0) = true := by simpa using hq0
                      have hR5 := hR8
                      have hbw5 := hbw8
                      clear hq hR8 hbw8
                      go_wp2_with (with_reducible refine wpList_store_box rfl _ _ _ rfl w.heap.size 35 #[.int .i64 0, .int .i64 0, .string ⟨#[]⟩, .int .i64 0, .int .i64 0, .int .i64 0, .int .i64 0, .int .u32 0, .int .i64 0] #[.int .i64 0, .int .i64 0, .string ⟨#[]⟩, .int .i64 0, .int .i64 0, .int .i64 0, .int .i64 0, .int .u32 0, .int .i64 0] rfl rfl hR5 rfl (rentry_size9 _ _ _ _ _ _ _ _ _) zero_one ?_; intro w9 hR9 hg9)
                      obtain ⟨y0, y1, y2, y3, y4, y5, y6, y7, y8⟩ := box9 hR9
                      refine bodyPost_ret (v := .tuple #[.agg #[.int .i64 0, .int .i64 0, .string ⟨#[]⟩, .int .i64 0, .int .i64 0, .int .i64 0, .int .i64 0, .int .u32 0, .int .i64 0], .bool false]) (by simp [results, Tryd.results29, go_sem, y0, y1, y2, y3, y4, y5, y6, y7, y8]) rfl ⟨by rw [HNO.out]; rfl, hbw5.grown hg9 (by have := hbw5.size; omega) (by intro j hj; injection hj with hj; omega)⟩
          · have HRF : Hid (RE = ifLine s.data.toList ⟨1, 0, ⟨#[]⟩, 0, 0, 0, 0, 0, 0⟩) := by
              show _ = _
              rw [HRE2.out]
              unfold refCand
              simp only [HG0.out]
              rw [if_neg (by decide), if_pos trivial, if_neg hlen]
            have hle3 : ((ws.length : Int) == 3) = false := by rw [beq_eq_false_iff_ne]; omega
            clear hlen
            obtain ⟨e0, e1, e2, e3, e4, e5, e6, e7, e8⟩ := box9 hE5
            go_wp2_with fail
            go_at_call 11
            refine (wrong_any (⟨1, 0, ⟨#[]⟩, 0, 0, 0, 0, 0, 0⟩ : En) _).mono ?_
            rintro r w8 ⟨rfl, hb8⟩
            have hR8 := hR5.below hb8 (by omega)
            have hE8 := hE5.below hb8 (by omega)
            have hbw8 := hbw5.trans (hb8.mono (by omega))
            have hs8 : eb < w8.heap.size := by have := hb8.size; omega
            clear e0 e1 e2 e3 e4 e5 e6 e7 e8 hb8 hE5 hR5 hbw5 hs5
            obtain ⟨q, hq⟩ : ∃ q, q = En.wrong (⟨1, 0, ⟨#[]⟩, 0, 0, 0, 0, 0, 0⟩ : En) := ⟨_, rfl⟩
            rw [← hq]
            by_cases hq0 : q = 0
            · have HW0 : Hid (En.wrong (⟨1, 0, ⟨#[]⟩, 0, 0, 0, 0, 0, 0⟩ : En) = 0) := hq.symm.trans hq0
              subst hq0
              clear hq
              obtain ⟨e0, e1, e2, e3, e4, e5, e6, e7, e8⟩ := box9 hE8
              go_wp2_with fail
              go_at_call 10
              refine (line_any (⟨1, 0, ⟨#[]⟩, 0, 0, 0, 0, 0, 0⟩ : En) _ HW0.out (by simp)).mono ?_
              rintro r w9 ⟨rfl, hb9⟩
              have hR5 := hR8.below hb9 (by omega)
              have hE5 := hE8.below hb9 (by omega)
              have hbw5 := hbw8.trans (hb9.mono (by omega))
              have hs5 : eb < w9.heap.size := by have := hb9.size; omega
              clear e0 e1 e2 e3 e4 e5 e6 e7 e8 hb9 hE8 hR8 hbw8 hs8
              have HLE : Hid (∀ W, (Op.stringOp .add s (ByteArray.mk #[10])).run Tryd.prog W = .ok (.string ⟨(s.data.toList ++ [10]).toArray⟩) W) := line_feed s hs
              obtain ⟨sl, hsl⟩ : ∃ sl : ByteArray, sl = ⟨(En.line (⟨1, 0, ⟨#[]⟩, 0, 0, 0, 0, 0, 0⟩ : En)).toArray⟩ := ⟨_, rfl⟩
              rw [← hsl]
              obtain ⟨sb, hsb⟩ : ∃ sb : ByteArray, sb = ⟨(s.data.toList ++ [10]).toArray⟩ := ⟨_, rfl⟩
              have hadd := HLE.out
              rw [← hsb] at hadd
              by_cases hll : En.line (⟨1, 0, ⟨#[]⟩, 0, 0, 0, 0, 0, 0⟩ : En) = s.data.toList ++ [10]
              · have HRY : Hid (RE = some (⟨1, 0, ⟨#[]⟩, 0, 0, 0, 0, 0, 0⟩ : En)) := by
                  show _ = _
                  rw [HRF.out, ifLine, if_pos ⟨HW0.out, hll⟩]
                have hss : sl = sb := by rw [hsl, hsb, hll]
                subst hss
                clear hll hsl hsb HLE
                have hbe : (sl.toList != sl.toList) = false := by simp
                obtain ⟨e0, e1, e2, e3, e4, e5, e6, e7, e8⟩ := box9 hE5
                have HCO : Hid ((#[.int .i64 1, .int .i64 0, .string ⟨#[]⟩, .int .i64 0, .int .i64 0, .int .i64 0, .int .i64 0, .int .u32 0, .int .i64 0] : Array Value).all (·.oneCell') = true) := all_oneCell_toArray (cells_one (⟨1, 0, ⟨#[]⟩, 0, 0, 0, 0, 0, 0⟩ : En))
                go_wp2_with (with_reducible refine wpList_store_box rfl _ _ _ rfl w.heap.size 35 #[.int .i64 0, .int .i64 0, .string ⟨#[]⟩, .int .i64 0, .int .i64 0, .int .i64 0, .int .i64 0, .int .u32 0, .int .i64 0] #[.int .i64 1, .int .i64 0, .string ⟨#[]⟩, .int .i64 0, .int .i64 0, .int .i64 0, .int .i64 0, .int .u32 0, .int .i64 0] rfl rfl hR5 rfl (rentry_size9 _ _ _ _ _ _ _ _ _) HCO.out ?_; intro wa hR9 hg9)
                obtain ⟨y0, y1, y2, y3, y4, y5, y6, y7, y8⟩ := box9 hR9
                refine bodyPost_ret (v := .tuple #[.agg #[.int .i64 1, .int .i64 0, .string ⟨#[]⟩, .int .i64 0, .int .i64 0, .int .i64 0, .int .i64 0, .int .u32 0, .int .i64 0], .bool true]) (by simp [results, Tryd.results29, go_sem, y0, y1, y2, y3, y4, y5, y6, y7, y8]) rfl ⟨by rw [HRY.out]; rfl, hbw5.grown hg9 (by have := hbw5.size; omega) (by intro j hj; injection hj with hj; omega)⟩
              · have HNO : Hid (RE = none) := by
                  show _ = _
                  rw [HRF.out, ifLine, if_neg (fun h => hll h.2)]
                have hbe : (sl.toList != sb.toList) = true := by
                  rw [hsl, hsb]
                  simp [Go.ByteArray.toList_eq, hll]
                have hbe2 : ¬ sl.toList = sb.toList := by simpa using hbe
                have hbe3 : (sl.toList == sb.toList) = false := by rw [beq_eq_false_iff_ne]; exact hbe2
                clear hll hsl hsb HLE
                go_wp2_with (with_reducible refine wpList_store_box rfl _ _ _ rfl w.heap.size 35 #[.int .i64 0, .int .i64 0, .string ⟨#[]⟩, .int .i64 0, .int .i64 0, .int .i64 0, .int .i64 0, .int .u32 0, .int .i64 0] #[.int .i64 0, .int .i64 0, .string ⟨#[]⟩, .int .i64 0, .int .i64 0, .int .i64 0, .int .i64 0, .int .u32 0, .int .i64 0] rfl rfl hR5 rfl (rentry_size9 _ _ _ _ _ _ _ _ _) zero_one ?_; intro wa hR9 hg9)
                obtain ⟨y0, y1, y2, y3, y4, y5, y6, y7, y8⟩ := box9 hR9
                refine bodyPost_ret (v := .tuple #[.agg #[.int .i64 0, .int .i64 0, .string ⟨#[]⟩, .int .i64 0, .int .i64 0, .int .i64 0, .int .i64 0, .int .u32 0, .int .i64 0], .bool false]) (by simp [results, Tryd.results29, go_sem, y0, y1, y2, y3, y4, y5, y6, y7, y8]) rfl ⟨by rw [HNO.out]; rfl, hbw5.grown hg9 (by have := hbw5.size; omega) (by intro j hj; injection hj with hj; omega)⟩
            · have HNO : Hid (RE = none) := by
                show _ = _
                rw [HRF.out, ifLine, if_neg (fun h => hq0 (hq.trans h.1))]
              have hqn : (q != 0) = true := by simpa using hq0
              have hR5 := hR8
              have hbw5 := hbw8
              clear hq hR8 hbw8
              go_wp2_with (with_reducible refine wpList_store_box rfl _ _ _ rfl w.heap.size 35 #[.int .i64 0, .int .i64 0, .string ⟨#[]⟩, .int .i64 0, .int .i64 0, .int .i64 0, .int .i64 0, .int .u32 0, .int .i64 0] #[.int .i64 0, .int .i64 0, .string ⟨#[]⟩, .int .i64 0, .int .i64 0, .int .i64 0, .int .i64 0, .int .u32 0, .int .i64 0] rfl rfl hR5 rfl (rentry_size9 _ _ _ _ _ _ _ _ _) zero_one ?_; intro w9 hR9 hg9)
              obtain ⟨y0, y1, y2, y3, y4, y5, y6, y7, y8⟩ := box9 hR9
              refine bodyPost_ret (v := .tuple #[.agg #[.int .i64 0, .int .i64 0, .string ⟨#[]⟩, .int .i64 0, .int .i64 0, .int .i64 0, .int .i64 0, .int .u32 0, .int .i64 0], .bool false]) (by simp [results, Tryd.results29, go_sem, y0, y1, y2, y3, y4, y5, y6, y7, y8]) rfl ⟨by rw [HNO.out]; rfl, hbw5.grown hg9 (by have := hbw5.size; omega) (by intro j hj; injection hj with hj; omega)⟩
        · by_cases hk3 : kk = 3
          · subst hk3
            clear hk1 hk2
            by_cases hlen : ws.length = 2
            · have h1 : 1 < ns.length := by have := HNL.out; omega
              have HRF : Hid (RE = ifLine s.data.toList ⟨3, ns[1]'h1, ⟨#[]⟩, 0, 0, 0, 0, 0, 0⟩) := by
                show _ = _
                rw [HRE2.out]
                unfold refCand
                simp only [HG0.out, HGD.out 1 h1, hlen]
                rfl
              have hle2 : ((ws.length : Int) == 2) = true := by rw [beq_iff_eq]; omega
              have q1 : (1 : Int) < (ws.length : Int) := by omega
              clear hlen
              obtain ⟨e0, e1, e2, e3, e4, e5, e6, e7, e8⟩ := box9 hE5
              have f1 := hE5.frozen 1
              have hEn := hE5.set_ 1 ((.int .i64 (ns[1]'h1)))
              simp only [List.setIfInBounds_toArray, List.set_cons_zero, List.set_cons_succ] at hEn
              have hRn := hR5.far (p := ⟨eb, 1, none⟩) (by show w.heap.size ≠ eb; omega) ((.int .i64 (ns[1]'h1)))
              have hbn := hbw5.setCell (p := ⟨eb, 1, none⟩) (by show w.heap.size ≤ eb; omega) ((.int .i64 (ns[1]'h1)))
              have hsn : eb < (w5.setCell ⟨eb, 1, none⟩ ((.int .i64 (ns[1]'h1)))).heap.size := by simp; omega
              have n1 := HNS.out _ hO5 1 h1
              go_upto_region 28 with (fail)
              generalize w5.setCell ⟨eb, 1, none⟩ ((.int .i64 (ns[1]'h1))) = w7 at *
              clear f1 n1 n0 hE5 hR5 hbw5 hs5 hO5 e0 e1 e2 e3 e4 e5 e6 e7 e8
              have hE5 := hEn
              have hR5 := hRn
              have hbw5 := hbn
              have hs5 := hsn
              clear hEn hRn hbn hsn
              generalize ns[1]'h1 = z1 at *
              obtain ⟨e0, e1, e2, e3, e4, e5, e6, e7, e8⟩ := box9 hE5
              go_wp2_with fail
              go_at_call 11
              refine (wrong_any (⟨3, z1, ⟨#[]⟩, 0, 0, 0, 0, 0, 0⟩ : En) _).mono ?_
              rintro r w8 ⟨rfl, hb8⟩
              have hR8 := hR5.below hb8 (by omega)
              have hE8 := hE5.below hb8 (by omega)
              have hbw8 := hbw5.trans (hb8.mono (by omega))
              have hs8 : eb < w8.heap.size := by have := hb8.size; omega
              clear e0 e1 e2 e3 e4 e5 e6 e7 e8 hb8 hE5 hR5 hbw5 hs5
              obtain ⟨q, hq⟩ : ∃ q, q = En.wrong (⟨3, z1, ⟨#[]⟩, 0, 0, 0, 0, 0, 0⟩ : En) := ⟨_, rfl⟩
              rw [← hq]
              by_cases hq0 : q = 0
              · have HW0 : Hid (En.wrong (⟨3, z1, ⟨#[]⟩, 0, 0, 0, 0, 0, 0⟩ : En) = 0) := hq.symm.trans hq0
                subst hq0
                clear hq
                obtain ⟨e0, e1, e2, e3, e4, e5, e6, e7, e8⟩ := box9 hE8
                go_wp2_with fail
                go_at_call 10
                refine (line_any (⟨3, z1, ⟨#[]⟩, 0, 0, 0, 0, 0, 0⟩ : En) _ HW0.out (by simp)).mono ?_
                rintro r w9 ⟨rfl, hb9⟩
                have hR5 := hR8.below hb9 (by omega)
                have hE5 := hE8.below hb9 (by omega)
                have hbw5 := hbw8.trans (hb9.mono (by omega))
                have hs5 : eb < w9.heap.size := by have := hb9.size; omega
                clear e0 e1 e2 e3 e4 e5 e6 e7 e8 hb9 hE8 hR8 hbw8 hs8
                have HLE : Hid (∀ W, (Op.stringOp .add s (ByteArray.mk #[10])).run Tryd.prog W = .ok (.string ⟨(s.data.toList ++ [10]).toArray⟩) W) := line_feed s hs
                obtain ⟨sl, hsl⟩ : ∃ sl : ByteArray, sl = ⟨(En.line (⟨3, z1, ⟨#[]⟩, 0, 0, 0, 0, 0, 0⟩ : En)).toArray⟩ := ⟨_, rfl⟩
                rw [← hsl]
                obtain ⟨sb, hsb⟩ : ∃ sb : ByteArray, sb = ⟨(s.data.toList ++ [10]).toArray⟩ := ⟨_, rfl⟩
                have hadd := HLE.out
                rw [← hsb] at hadd
                by_cases hll : En.line (⟨3, z1, ⟨#[]⟩, 0, 0, 0, 0, 0, 0⟩ : En) = s.data.toList ++ [10]
                · have HRY : Hid (RE = some (⟨3, z1, ⟨#[]⟩, 0, 0, 0, 0, 0, 0⟩ : En)) := by
                    show _ = _
                    rw [HRF.out, ifLine, if_pos ⟨HW0.out, hll⟩]
                  have hss : sl = sb := by rw [hsl, hsb, hll]
                  subst hss
                  clear hll hsl hsb HLE
                  have hbe : (sl.toList != sl.toList) = false := by simp
                  obtain ⟨e0, e1, e2, e3, e4, e5, e6, e7, e8⟩ := box9 hE5
                  have HCO : Hid ((#[.int .i64 3, .int .i64 z1, .string ⟨#[]⟩, .int .i64 0, .int .i64 0, .int .i64 0, .int .i64 0, .int .u32 0, .int .i64 0] : Array Value).all (·.oneCell') = true) := all_oneCell_toArray (cells_one (⟨3, z1, ⟨#[]⟩, 0, 0, 0, 0, 0, 0⟩ : En))
                  go_wp2_with (with_reducible refine wpList_store_box rfl _ _ _ rfl w.heap.size 35 #[.int .i64 0, .int .i64 0, .string ⟨#[]⟩, .int .i64 0, .int .i64 0, .int .i64 0, .int .i64 0, .int .u32 0, .int .i64 0] #[.int .i64 3, .int .i64 z1, .string ⟨#[]⟩, .int .i64 0, .int .i64 0, .int .i64 0, .int .i64 0, .int .u32 0, .int .i64 0] rfl rfl hR5 rfl (rentry_size9 _ _ _ _ _ _ _ _ _) HCO.out ?_; intro wa hR9 hg9)
                  obtain ⟨y0, y1, y2, y3, y4, y5, y6, y7, y8⟩ := box9 hR9
                  refine bodyPost_ret (v := .tuple #[.agg #[.int .i64 3, .int .i64 z1, .string ⟨#[]⟩, .int .i64 0, .int .i64 0, .int .i64 0, .int .i64 0, .int .u32 0, .int .i64 0], .bool true]) (by simp [results, Tryd.results29, go_sem, y0, y1, y2, y3, y4, y5, y6, y7, y8]) rfl ⟨by rw [HRY.out]; rfl, hbw5.grown hg9 (by have := hbw5.size; omega) (by intro j hj; injection hj with hj; omega)⟩
                · have HNO : Hid (RE = none) := by
                    show _ = _
                    rw [HRF.out, ifLine, if_neg (fun h => hll h.2)]
                  have hbe : (sl.toList != sb.toList) = true := by
                    rw [hsl, hsb]
                    simp [Go.ByteArray.toList_eq, hll]
                  have hbe2 : ¬ sl.toList = sb.toList := by simpa using hbe
                  have hbe3 : (sl.toList == sb.toList) = false := by rw [beq_eq_false_iff_ne]; exact hbe2
                  clear hll hsl hsb HLE
                  go_wp2_with (with_reducible refine wpList_store_box rfl _ _ _ rfl w.heap.size 35 #[.int .i64 0, .int .i64 0, .string ⟨#[]⟩, .int .i64 0, .int .i64 0, .int .i64 0, .int .i64 0, .int .u32 0, .int .i64 0] #[.int .i64 0, .int .i64 0, .string ⟨#[]⟩, .int .i64 0, .int .i64 0, .int .i64 0, .int .i64 0, .int .u32 0, .int .i64 0] rfl rfl hR5 rfl (rentry_size9 _ _ _ _ _ _ _ _ _) zero_one ?_; intro wa hR9 hg9)
                  obtain ⟨y0, y1, y2, y3, y4, y5, y6, y7, y8⟩ := box9 hR9
                  refine bodyPost_ret (v := .tuple #[.agg #[.int .i64 0, .int .i64 0, .string ⟨#[]⟩, .int .i64 0, .int .i64 0, .int .i64 0, .int .i64 0, .int .u32 0, .int .i64 0], .bool false]) (by simp [results, Tryd.results29, go_sem, y0, y1, y2, y3, y4, y5, y6, y7, y8]) rfl ⟨by rw [HNO.out]; rfl, hbw5.grown hg9 (by have := hbw5.size; omega) (by intro j hj; injection hj with hj; omega)⟩
              · have HNO : Hid (RE = none) := by
                  show _ = _
                  rw [HRF.out, ifLine, if_neg (fun h => hq0 (hq.trans h.1))]
                have hqn : (q != 0) = true := by simpa using hq0
                have hR5 := hR8
                have hbw5 := hbw8
                clear hq hR8 hbw8
                go_wp2_with (with_reducible refine wpList_store_box rfl _ _ _ rfl w.heap.size 35 #[.int .i64 0, .int .i64 0, .string ⟨#[]⟩, .int .i64 0, .int .i64 0, .int .i64 0, .int .i64 0, .int .u32 0, .int .i64 0] #[.int .i64 0, .int .i64 0, .string ⟨#[]⟩, .int .i64 0, .int .i64 0, .int .i64 0, .int .i64 0, .int .u32 0, .int .i64 0] rfl rfl hR5 rfl (rentry_size9 _ _ _ _ _ _ _ _ _) zero_one ?_; intro w9 hR9 hg9)
                obtain ⟨y0, y1, y2, y3, y4, y5, y6, y7, y8⟩ := box9 hR9
                refine bodyPost_ret (v := .tuple #[.agg #[.int .i64 0, .int .i64 0, .string ⟨#[]⟩, .int .i64 0, .int .i64 0, .int .i64 0, .int .i64 0, .int .u32 0, .int .i64 0], .bool false]) (by simp [results, Tryd.results29, go_sem, y0, y1, y2, y3, y4, y5, y6, y7, y8]) rfl ⟨by rw [HNO.out]; rfl, hbw5.grown hg9 (by have := hbw5.size; omega) (by intro j hj; injection hj with hj; omega)⟩
            · have HRF : Hid (RE = ifLine s.data.toList ⟨3, 0, ⟨#[]⟩, 0, 0, 0, 0, 0, 0⟩) := by
                show _ = _
                rw [HRE2.out]
                unfold refCand
                simp only [HG0.out]
                rw [if_neg (by decide), if_neg (by decide), if_neg (fun h => hlen h.2)]
              have hle2 : ((ws.length : Int) == 2) = false := by rw [beq_eq_false_iff_ne]; omega
              clear hlen
              obtain ⟨e0, e1, e2, e3, e4, e5, e6, e7, e8⟩ := box9 hE5
              go_wp2_with fail
              go_at_call 11
              refine (wrong_any (⟨3, 0, ⟨#[]⟩, 0, 0, 0, 0, 0, 0⟩ : En) _).mono ?_
              rintro r w8 ⟨rfl, hb8⟩
              have hR8 := hR5.below hb8 (by omega)
              have hE8 := hE5.below hb8 (by omega)
              have hbw8 := hbw5.trans (hb8.mono (by omega))
              have hs8 : eb < w8.heap.size := by have := hb8.size; omega
              clear e0 e1 e2 e3 e4 e5 e6 e7 e8 hb8 hE5 hR5 hbw5 hs5
              obtain ⟨q, hq⟩ : ∃ q, q = En.wrong (⟨3, 0, ⟨#[]⟩, 0, 0, 0, 0, 0, 0⟩ : En) := ⟨_, rfl⟩
              rw [← hq]
              by_cases hq0 : q = 0
              · have HW0 : Hid (En.wrong (⟨3, 0, ⟨#[]⟩, 0, 0, 0, 0, 0, 0⟩ : En) = 0) := hq.symm.trans hq0
                subst hq0
                clear hq
                obtain ⟨e0, e1, e2, e3, e4, e5, e6, e7, e8⟩ := box9 hE8
                go_wp2_with fail
                go_at_call 10
                refine (line_any (⟨3, 0, ⟨#[]⟩, 0, 0, 0, 0, 0, 0⟩ : En) _ HW0.out (by simp)).mono ?_
                rintro r w9 ⟨rfl, hb9⟩
                have hR5 := hR8.below hb9 (by omega)
                have hE5 := hE8.below hb9 (by omega)
                have hbw5 := hbw8.trans (hb9.mono (by omega))
                have hs5 : eb < w9.heap.size := by have := hb9.size; omega
                clear e0 e1 e2 e3 e4 e5 e6 e7 e8 hb9 hE8 hR8 hbw8 hs8
                have HLE : Hid (∀ W, (Op.stringOp .add s (ByteArray.mk #[10])).run Tryd.prog W = .ok (.string ⟨(s.data.toList ++ [10]).toArray⟩) W) := line_feed s hs
                obtain ⟨sl, hsl⟩ : ∃ sl : ByteArray, sl = ⟨(En.line (⟨3, 0, ⟨#[]⟩, 0, 0, 0, 0, 0, 0⟩ : En)).toArray⟩ := ⟨_, rfl⟩
                rw [← hsl]
                obtain ⟨sb, hsb⟩ : ∃ sb : ByteArray, sb = ⟨(s.data.toList ++ [10]).toArray⟩ := ⟨_, rfl⟩
                have hadd := HLE.out
                rw [← hsb] at hadd
                by_cases hll : En.line (⟨3, 0, ⟨#[]⟩, 0, 0, 0, 0, 0, 0⟩ : En) = s.data.toList ++ [10]
                · have HRY : Hid (RE = some (⟨3, 0, ⟨#[]⟩, 0, 0, 0, 0, 0, 0⟩ : En)) := by
                    show _ = _
                    rw [HRF.out, ifLine, if_pos ⟨HW0.out, hll⟩]
                  have hss : sl = sb := by rw [hsl, hsb, hll]
                  subst hss
                  clear hll hsl hsb HLE
                  have hbe : (sl.toList != sl.toList) = false := by simp
                  obtain ⟨e0, e1, e2, e3, e4, e5, e6, e7, e8⟩ := box9 hE5
                  have HCO : Hid ((#[.int .i64 3, .int .i64 0, .string ⟨#[]⟩, .int .i64 0, .int .i64 0, .int .i64 0, .int .i64 0, .int .u32 0, .int .i64 0] : Array Value).all (·.oneCell') = true) := all_oneCell_toArray (cells_one (⟨3, 0, ⟨#[]⟩, 0, 0, 0, 0, 0, 0⟩ : En))
                  go_wp2_with (with_reducible refine wpList_store_box rfl _ _ _ rfl w.heap.size 35 #[.int .i64 0, .int .i64 0, .string ⟨#[]⟩, .int .i64 0, .int .i64 0, .int .i64 0, .int .i64 0, .int .u32 0, .int .i64 0] #[.int .i64 3, .int .i64 0, .string ⟨#[]⟩, .int .i64 0, .int .i64 0, .int .i64 0, .int .i64 0, .int .u32 0, .int .i64 0] rfl rfl hR5 rfl (rentry_size9 _ _ _ _ _ _ _ _ _) HCO.out ?_; intro wa hR9 hg9)
                  obtain ⟨y0, y1, y2, y3, y4, y5, y6, y7, y8⟩ := box9 hR9
                  refine bodyPost_ret (v := .tuple #[.agg #[.int .i64 3, .int .i64 0, .string ⟨#[]⟩, .int .i64 0, .int .i64 0, .int .i64 0, .int .i64 0, .int .u32 0, .int .i64 0], .bool true]) (by simp [results, Tryd.results29, go_sem, y0, y1, y2, y3, y4, y5, y6, y7, y8]) rfl ⟨by rw [HRY.out]; rfl, hbw5.grown hg9 (by have := hbw5.size; omega) (by intro j hj; injection hj with hj; omega)⟩
                · have HNO : Hid (RE = none) := by
                    show _ = _
                    rw [HRF.out, ifLine, if_neg (fun h => hll h.2)]
                  have hbe : (sl.toList != sb.toList) = true := by
                    rw [hsl, hsb]
                    simp [Go.ByteArray.toList_eq, hll]
                  have hbe2 : ¬ sl.toList = sb.toList := by simpa using hbe
                  have hbe3 : (sl.toList == sb.toList) = false := by rw [beq_eq_false_iff_ne]; exact hbe2
                  clear hll hsl hsb HLE
                  go_wp2_with (with_reducible refine wpList_store_box rfl _ _ _ rfl w.heap.size 35 #[.int .i64 0, .int .i64 0, .string ⟨#[]⟩, .int .i64 0, .int .i64 0, .int .i64 0, .int .i64 0, .int .u32 0, .int .i64 0] #[.int .i64 0, .int .i64 0, .string ⟨#[]⟩, .int .i64 0, .int .i64 0, .int .i64 0, .int .i64 0, .int .u32 0, .int .i64 0] rfl rfl hR5 rfl (rentry_size9 _ _ _ _ _ _ _ _ _) zero_one ?_; intro wa hR9 hg9)
                  obtain ⟨y0, y1, y2, y3, y4, y5, y6, y7, y8⟩ := box9 hR9
                  refine bodyPost_ret (v := .tuple #[.agg #[.int .i64 0, .int .i64 0, .string ⟨#[]⟩, .int .i64 0, .int .i64 0, .int .i64 0, .int .i64 0, .int .u32 0, .int .i64 0], .bool false]) (by simp [results, Tryd.results29, go_sem, y0, y1, y2, y3, y4, y5, y6, y7, y8]) rfl ⟨by rw [HNO.out]; rfl, hbw5.grown hg9 (by have := hbw5.size; omega) (by intro j hj; injection hj with hj; omega)⟩
              · have HNO : Hid (RE = none) := by
                  show _ = _
                  rw [HRF.out, ifLine, if_neg (fun h => hq0 (hq.trans h.1))]
                have hqn : (q != 0) = true := by simpa using hq0
                have hR5 := hR8
                have hbw5 := hbw8
                clear hq hR8 hbw8
                go_wp2_with (with_reducible refine wpList_store_box rfl _ _ _ rfl w.heap.size 35 #[.int .i64 0, .int .i64 0, .string ⟨#[]⟩, .int .i64 0, .int .i64 0, .int .i64 0, .int .i64 0, .int .u32 0, .int .i64 0] #[.int .i64 0, .int .i64 0, .string ⟨#[]⟩, .int .i64 0, .int .i64 0, .int .i64 0, .int .i64 0, .int .u32 0, .int .i64 0] rfl rfl hR5 rfl (rentry_size9 _ _ _ _ _ _ _ _ _) zero_one ?_; intro w9 hR9 hg9)
                obtain ⟨y0, y1, y2, y3, y4, y5, y6, y7, y8⟩ := box9 hR9
                refine bodyPost_ret (v := .tuple #[.agg #[.int .i64 0, .int .i64 0, .string ⟨#[]⟩, .int .i64 0, .int .i64 0, .int .i64 0, .int .i64 0, .int .u32 0, .int .i64 0], .bool false]) (by simp [results, Tryd.results29, go_sem, y0, y1, y2, y3, y4, y5, y6, y7, y8]) rfl ⟨by rw [HNO.out]; rfl, hbw5.grown hg9 (by have := hbw5.size; omega) (by intro j hj; injection hj with hj; omega)⟩
          · by_cases hk4 : kk = 4
            · subst hk4
              clear hk1 hk2 hk3
              by_cases hlen : ws.length = 2
              · have h1 : 1 < ns.length := by have := HNL.out; omega
                have HRF : Hid (RE = ifLine s.data.toList ⟨4, ns[1]'h1, ⟨#[]⟩, 0, 0, 0, 0, 0, 0⟩) := by
                  show _ = _
                  rw [HRE2.out]
                  unfold refCand
                  simp only [HG0.out, HGD.out 1 h1, hlen]
                  rfl
                have hle2 : ((ws.length : Int) == 2) = true := by rw [beq_iff_eq]; omega
                have q1 : (1 : Int) < (ws.length : Int) := by omega
                clear hlen
                obtain ⟨e0, e1, e2, e3, e4, e5, e6, e7, e8⟩ := box9 hE5
                have f1 := hE5.frozen 1
                have hEn := hE5.set_ 1 ((.int .i64 (ns[1]'h1)))
                simp only [List.setIfInBounds_toArray, List.set_cons_zero, List.set_cons_succ] at hEn
                have hRn := hR5.far (p := ⟨eb, 1, none⟩) (by show w.heap.size ≠ eb; omega) ((.int .i64 (ns[1]'h1)))
                have hbn := hbw5.setCell (p := ⟨eb, 1, none⟩) (by show w.heap.size ≤ eb; omega) ((.int .i64 (ns[1]'h1)))
                have hsn : eb < (w5.setCell ⟨eb, 1, none⟩ ((.int .i64 (ns[1]'h1)))).heap.size := by simp; omega
                have n1 := HNS.out _ hO5 1 h1
                go_upto_region 28 with (fail)
                generalize w5.setCell ⟨eb, 1, none⟩ ((.int .i64 (ns[1]'h1))) = w7 at *
                clear f1 n1 n0 hE5 hR5 hbw5 hs5 hO5 e0 e1 e2 e3 e4 e5 e6 e7 e8
                have hE5 := hEn
                have hR5 := hRn
                have hbw5 := hbn
                have hs5 := hsn
                clear hEn hRn hbn hsn
                generalize ns[1]'h1 = z1 at *
                obtain ⟨e0, e1, e2, e3, e4, e5, e6, e7, e8⟩ := box9 hE5
                go_wp2_with fail
                go_at_call 11
                refine (wrong_any (⟨4, z1, ⟨#[]⟩, 0, 0, 0, 0, 0, 0⟩ : En) _).mono ?_
                rintro r w8 ⟨rfl, hb8⟩
                have hR8 := hR5.below hb8 (by omega)
                have hE8 := hE5.below hb8 (by omega)
                have hbw8 := hbw5.trans (hb8.mono (by omega))
                have hs8 : eb < w8.heap.size := by have := hb8.size; omega
                clear e0 e1 e2 e3 e4 e5 e6 e7 e8 hb8 hE5 hR5 hbw5 hs5
                obtain ⟨q, hq⟩ : ∃ q, q = En.wrong (⟨4, z1, ⟨#[]⟩, 0, 0, 0, 0, 0, 0⟩ : En) := ⟨_, rfl⟩
                rw [← hq]
                by_cases hq0 : q = 0
                · have HW0 : Hid (En.wrong (⟨4, z1, ⟨#[]⟩, 0, 0, 0, 0, 0, 0⟩ : En) = 0) := hq.symm.trans hq0
                  subst hq0
                  clear hq
                  obtain ⟨e0, e1, e2, e3, e4, e5, e6, e7, e8⟩ := box9 hE8
                  go_wp2_with fail
                  go_at_call 10
                  refine (line_any (⟨4, z1, ⟨#[]⟩, 0, 0, 0, 0, 0, 0⟩ : En) _ HW0.out (by simp)).mono ?_
                  rintro r w9 ⟨rfl, hb9⟩
                  have hR5 := hR8.below hb9 (by omega)
                  have hE5 := hE8.below hb9 (by omega)
                  have hbw5 := hbw8.trans (hb9.mono (by omega))
                  have hs5 : eb < w9.heap.size := by have := hb9.size; omega
                  clear e0 e1 e2 e3 e4 e5 e6 e7 e8 hb9 hE8 hR8 hbw8 hs8
                  have HLE : Hid (∀ W, (Op.stringOp .add s (ByteArray.mk #[10])).run Tryd.prog W = .ok (.string ⟨(s.data.toList ++ [10]).toArray⟩) W) := line_feed s hs
                  obtain ⟨sl, hsl⟩ : ∃ sl : ByteArray, sl = ⟨(En.line (⟨4, z1, ⟨#[]⟩, 0, 0, 0, 0, 0, 0⟩ : En)).toArray⟩ := ⟨_, rfl⟩
                  rw [← hsl]
                  obtain ⟨sb, hsb⟩ : ∃ sb : ByteArray, sb = ⟨(s.data.toList ++ [10]).toArray⟩ := ⟨_, rfl⟩
                  have hadd := HLE.out
                  rw [← hsb] at hadd
                  by_cases hll : En.line (⟨4, z1, ⟨#[]⟩, 0, 0, 0, 0, 0, 0⟩ : En) = s.data.toList ++ [10]
                  · have HRY : Hid (RE = some (⟨4, z1, ⟨#[]⟩, 0, 0, 0, 0, 0, 0⟩ : En)) := by
                      show _ = _
                      rw [HRF.out, ifLine, if_pos ⟨HW0.out, hll⟩]
                    have hss : sl = sb := by rw [hsl, hsb, hll]
                    subst hss
                    clear hll hsl hsb HLE
                    have hbe : (sl.toList != sl.toList) = false := by simp
                    obtain ⟨e0, e1, e2, e3, e4, e5, e6, e7, e8⟩ := box9 hE5
                    have HCO : Hid ((#[.int .i64 4, .int .i64 z1, .string ⟨#[]⟩, .int .i64 0, .int .i64 0, .int .i64 0, .int .i64 0, .int .u32 0, .int .i64 0] : Array Value).all (·.oneCell') = true) := all_oneCell_toArray (cells_one (⟨4, z1, ⟨#[]⟩, 0, 0, 0, 0, 0, 0⟩ : En))
                    go_wp2_with (with_reducible refine wpList_store_box rfl _ _ _ rfl w.heap.size 35 #[.int .i64 0, .int .i64 0, .string ⟨#[]⟩, .int .i64 0, .int .i64 0, .int .i64 0, .int .i64 0, .int .u32 0, .int .i64 0] #[.int .i64 4, .int .i64 z1, .string ⟨#[]⟩, .int .i64 0, .int .i64 0, .int .i64 0, .int .i64 0, .int .u32 0, .int .i64 0] rfl rfl hR5 rfl (rentry_size9 _ _ _ _ _ _ _ _ _) HCO.out ?_; intro wa hR9 hg9)
                    obtain ⟨y0, y1, y2, y3, y4, y5, y6, y7, y8⟩ := box9 hR9
                    refine bodyPost_ret (v := .tuple #[.agg #[.int .i64 4, .int .i64 z1, .string ⟨#[]⟩, .int .i64 0, .int .i64 0, .int .i64 0, .int .i64 0, .int .u32 0, .int .i64 0], .bool true]) (by simp [results, Tryd.results29, go_sem, y0, y1, y2, y3, y4, y5, y6, y7, y8]) rfl ⟨by rw [HRY.out]; rfl, hbw5.grown hg9 (by have := hbw5.size; omega) (by intro j hj; injection hj with hj; omega)⟩
                  · have HNO : Hid (RE = none) := by
                      show _ = _
                      rw [HRF.out, ifLine, if_neg (fun h => hll h.2)]
                    have hbe : (sl.toList != sb.toList) = true := by
                      rw [hsl, hsb]
                      simp [Go.ByteArray.toList_eq, hll]
                    have hbe2 : ¬ sl.toList = sb.toList := by simpa using hbe
                    have hbe3 : (sl.toList == sb.toList) = false := by rw [beq_eq_false_iff_ne]; exact hbe2
                    clear hll hsl hsb HLE
                    go_wp2_with (with_reducible refine wpList_store_box rfl _ _ _ rfl w.heap.size 35 #[.int .i64 0, .int .i64 0, .string ⟨#[]⟩, .int .i64 0, .int .i64 0, .int .i64 0, .int .i64 0, .int .u32 0, .int .i64 0] #[.int .i64 0, .int .i64 0, .string ⟨#[]⟩, .int .i64 0, .int .i64 0, .int .i64 0, .int .i64 0, .int .u32 0, .int .i64 0] rfl rfl hR5 rfl (rentry_size9 _ _ _ _ _ _ _ _ _) zero_one ?_; intro wa hR9 hg9)
                    obtain ⟨y0, y1, y2, y3, y4, y5, y6, y7, y8⟩ := box9 hR9
                    refine bodyPost_ret (v := .tuple #[.agg #[.int .i64 0, .int .i64 0, .string ⟨#[]⟩, .int .i64 0, .int .i64 0, .int .i64 0, .int .i64 0, .int .u32 0, .int .i64 0], .bool false]) (by simp [results, Tryd.results29, go_sem, y0, y1, y2, y3, y4, y5, y6, y7, y8]) rfl ⟨by rw [HNO.out]; rfl, hbw5.grown hg9 (by have := hbw5.size; omega) (by intro j hj; injection hj with hj; omega)⟩
                · have HNO : Hid (RE = none) := by
                    show _ = _
                    rw [HRF.out, ifLine, if_neg (fun h => hq0 (hq.trans h.1))]
                  have hqn : (q != 0) = true := by simpa using hq0
                  have hR5 := hR8
                  have hbw5 := hbw8
                  clear hq hR8 hbw8
                  go_wp2_with (with_reducible refine wpList_store_box rfl _ _ _ rfl w.heap.size 35 #[.int .i64 0, .int .i64 0, .string ⟨#[]⟩, .int .i64 0, .int .i64 0, .int .i64 0, .int .i64 0, .int .u32 0, .int .i64 0] #[.int .i64 0, .int .i64 0, .string ⟨#[]⟩, .int .i64 0, .int .i64 0, .int .i64 0, .int .i64 0, .int .u32 0, .int .i64 0] rfl rfl hR5 rfl (rentry_size9 _ _ _ _ _ _ _ _ _) zero_one ?_; intro w9 hR9 hg9)
                  obtain ⟨y0, y1, y2, y3, y4, y5, y6, y7, y8⟩ := box9 hR9
                  refine bodyPost_ret (v := .tuple #[.agg #[.int .i64 0, .int .i64 0, .string ⟨#[]⟩, .int .i64 0, .int .i64 0, .int .i64 0, .int .i64 0, .int .u32 0, .int .i64 0], .bool false]) (by simp [results, Tryd.results29, go_sem, y0, y1, y2, y3, y4, y5, y6, y7, y8]) rfl ⟨by rw [HNO.out]; rfl, hbw5.grown hg9 (by have := hbw5.size; omega) (by intro j hj; injection hj with hj; omega)⟩
              · have HRF : Hid (RE = ifLine s.data.toList ⟨4, 0, ⟨#[]⟩, 0, 0, 0, 0, 0, 0⟩) := by
                  show _ = _
                  rw [HRE2.out]
                  unfold refCand
                  simp only [HG0.out]
                  rw [if_neg (by decide), if_neg (by decide), if_neg (fun h => hlen h.2)]
                have hle2 : ((ws.length : Int) == 2) = false := by rw [beq_eq_false_iff_ne]; omega
                clear hlen
                obtain ⟨e0, e1, e2, e3, e4, e5, e6, e7, e8⟩ := box9 hE5
                go_wp2_with fail
                go_at_call 11
                refine (wrong_any (⟨4, 0, ⟨#[]⟩, 0, 0, 0, 0, 0, 0⟩ : En) _).mono ?_
                rintro r w8 ⟨rfl, hb8⟩
                have hR8 := hR5.below hb8 (by omega)
                have hE8 := hE5.below hb8 (by omega)
                have hbw8 := hbw5.trans (hb8.mono (by omega))
                have hs8 : eb < w8.heap.size := by have := hb8.size; omega
                clear e0 e1 e2 e3 e4 e5 e6 e7 e8 hb8 hE5 hR5 hbw5 hs5
                obtain ⟨q, hq⟩ : ∃ q, q = En.wrong (⟨4, 0, ⟨#[]⟩, 0, 0, 0, 0, 0, 0⟩ : En) := ⟨_, rfl⟩
                rw [← hq]
                by_cases hq0 : q = 0
                · have HW0 : Hid (En.wrong (⟨4, 0, ⟨#[]⟩, 0, 0, 0, 0, 0, 0⟩ : En) = 0) := hq.symm.trans hq0
                  subst hq0
                  clear hq
                  obtain ⟨e0, e1, e2, e3, e4, e5, e6, e7, e8⟩ := box9 hE8
                  go_wp2_with fail
                  go_at_call 10
                  refine (line_any (⟨4, 0, ⟨#[]⟩, 0, 0, 0, 0, 0, 0⟩ : En) _ HW0.out (by simp)).mono ?_
                  rintro r w9 ⟨rfl, hb9⟩
                  have hR5 := hR8.below hb9 (by omega)
                  have hE5 := hE8.below hb9 (by omega)
                  have hbw5 := hbw8.trans (hb9.mono (by omega))
                  have hs5 : eb < w9.heap.size := by have := hb9.size; omega
                  clear e0 e1 e2 e3 e4 e5 e6 e7 e8 hb9 hE8 hR8 hbw8 hs8
                  have HLE : Hid (∀ W, (Op.stringOp .add s (ByteArray.mk #[10])).run Tryd.prog W = .ok (.string ⟨(s.data.toList ++ [10]).toArray⟩) W) := line_feed s hs
                  obtain ⟨sl, hsl⟩ : ∃ sl : ByteArray, sl = ⟨(En.line (⟨4, 0, ⟨#[]⟩, 0, 0, 0, 0, 0, 0⟩ : En)).toArray⟩ := ⟨_, rfl⟩
                  rw [← hsl]
                  obtain ⟨sb, hsb⟩ : ∃ sb : ByteArray, sb = ⟨(s.data.toList ++ [10]).toArray⟩ := ⟨_, rfl⟩
                  have hadd := HLE.out
                  rw [← hsb] at hadd
                  by_cases hll : En.line (⟨4, 0, ⟨#[]⟩, 0, 0, 0, 0, 0, 0⟩ : En) = s.data.toList ++ [10]
                  · have HRY : Hid (RE = some (⟨4, 0, ⟨#[]⟩, 0, 0, 0, 0, 0, 0⟩ : En)) := by
                      show _ = _
                      rw [HRF.out, ifLine, if_pos ⟨HW0.out, hll⟩]
                    have hss : sl = sb := by rw [hsl, hsb, hll]
                    subst hss
                    clear hll hsl hsb HLE
                    have hbe : (sl.toList != sl.toList) = false := by simp
                    obtain ⟨e0, e1, e2, e3, e4, e5, e6, e7, e8⟩ := box9 hE5
                    have HCO : Hid ((#[.int .i64 4, .int .i64 0, .string ⟨#[]⟩, .int .i64 0, .int .i64 0, .int .i64 0, .int .i64 0, .int .u32 0, .int .i64 0] : Array Value).all (·.oneCell') = true) := all_oneCell_toArray (cells_one (⟨4, 0, ⟨#[]⟩, 0, 0, 0, 0, 0, 0⟩ : En))
                    go_wp2_with (with_reducible refine wpList_store_box rfl _ _ _ rfl w.heap.size 35 #[.int .i64 0, .int .i64 0, .string ⟨#[]⟩, .int .i64 0, .int .i64 0, .int .i64 0, .int .i64 0, .int .u32 0, .int .i64 0] #[.int .i64 4, .int .i64 0, .string ⟨#[]⟩, .int .i64 0, .int .i64 0, .int .i64 0, .int .i64 0, .int .u32 0, .int .i64 0] rfl rfl hR5 rfl (rentry_size9 _ _ _ _ _ _ _ _ _) HCO.out ?_; intro wa hR9 hg9)
                    obtain ⟨y0, y1, y2, y3, y4, y5, y6, y7, y8⟩ := box9 hR9
                    refine bodyPost_ret (v := .tuple #[.agg #[.int .i64 4, .int .i64 0, .string ⟨#[]⟩, .int .i64 0, .int .i64 0, .int .i64 0, .int .i64 0, .int .u32 0, .int .i64 0], .bool true]) (by simp [results, Tryd.results29, go_sem, y0, y1, y2, y3, y4, y5, y6, y7, y8]) rfl ⟨by rw [HRY.out]; rfl, hbw5.grown hg9 (by have := hbw5.size; omega) (by intro j hj; injection hj with hj; omega)⟩
                  · have HNO : Hid (RE = none) := by
                      show _ = _
                      rw [HRF.out, ifLine, if_neg (fun h => hll h.2)]
                    have hbe : (sl.toList != sb.toList) = true := by
                      rw [hsl, hsb]
                      simp [Go.ByteArray.toList_eq, hll]
                    have hbe2 : ¬ sl.toList = sb.toList := by simpa using hbe
                    have hbe3 : (sl.toList == sb.toList) = false := by rw [beq_eq_false_iff_ne]; exact hbe2
                    clear hll hsl hsb HLE
                    go_wp2_with (with_reducible refine wpList_store_box rfl _ _ _ rfl w.heap.size 35 #[.int .i64 0, .int .i64 0, .string ⟨#[]⟩, .int .i64 0, .int .i64 0, .int .i64 0, .int .i64 0, .int .u32 0, .int .i64 0] #[.int .i64 0, .int .i64 0, .string ⟨#[]⟩, .int .i64 0, .int .i64 0, .int .i64 0, .int .i64 0, .int .u32 0, .int .i64 0] rfl rfl hR5 rfl (rentry_size9 _ _ _ _ _ _ _ _ _) zero_one ?_; intro wa hR9 hg9)
                    obtain ⟨y0, y1, y2, y3, y4, y5, y6, y7, y8⟩ := box9 hR9
                    refine bodyPost_ret (v := .tuple #[.agg #[.int .i64 0, .int .i64 0, .string ⟨#[]⟩, .int .i64 0, .int .i64 0, .int .i64 0, .int .i64 0, .int .u32 0, .int .i64 0], .bool false]) (by simp [results, Tryd.results29, go_sem, y0, y1, y2, y3, y4, y5, y6, y7, y8]) rfl ⟨by rw [HNO.out]; rfl, hbw5.grown hg9 (by have := hbw5.size; omega) (by intro j hj; injection hj with hj; omega)⟩
                · have HNO : Hid (RE = none) := by
                    show _ = _
                    rw [HRF.out, ifLine, if_neg (fun h => hq0 (hq.trans h.1))]
                  have hqn : (q != 0) = true := by simpa using hq0
                  have hR5 := hR8
                  have hbw5 := hbw8
                  clear hq hR8 hbw8
                  go_wp2_with (with_reducible refine wpList_store_box rfl _ _ _ rfl w.heap.size 35 #[.int .i64 0, .int .i64 0, .string ⟨#[]⟩, .int .i64 0, .int .i64 0, .int .i64 0, .int .i64 0, .int .u32 0, .int .i64 0] #[.int .i64 0, .int .i64 0, .string ⟨#[]⟩, .int .i64 0, .int .i64 0, .int .i64 0, .int .i64 0, .int .u32 0, .int .i64 0] rfl rfl hR5 rfl (rentry_size9 _ _ _ _ _ _ _ _ _) zero_one ?_; intro w9 hR9 hg9)
                  obtain ⟨y0, y1, y2, y3, y4, y5, y6, y7, y8⟩ := box9 hR9
                  refine bodyPost_ret (v := .tuple #[.agg #[.int .i64 0, .int .i64 0, .string ⟨#[]⟩, .int .i64 0, .int .i64 0, .int .i64 0, .int .i64 0, .int .u32 0, .int .i64 0], .bool false]) (by simp [results, Tryd.results29, go_sem, y0, y1, y2, y3, y4, y5, y6, y7, y8]) rfl ⟨by rw [HNO.out]; rfl, hbw5.grown hg9 (by have := hbw5.size; omega) (by intro j hj; injection hj with hj; omega)⟩
            · skip
              have b1 : (kk == 1) = false := by simpa using hk1
              have b2 : (kk == 2) = false := by simpa using hk2
              have b3 : (kk == 3) = false := by simpa using hk3
              have b4 : (kk == 4) = false := by simpa using hk4
              have HRF : Hid (RE = ifLine s.data.toList ⟨kk, 0, ⟨#[]⟩, 0, 0, 0, 0, 0, 0⟩) := by
                show _ = _
                rw [HRE2.out]
                unfold refCand
                simp only [HG0.out]
                rw [if_neg hk2, if_neg hk1, if_neg (fun h => h.1.elim hk3 hk4)]
              clear hk1 hk2 hk3 hk4
              obtain ⟨e0, e1, e2, e3, e4, e5, e6, e7, e8⟩ := box9 hE5
              go_wp2_with fail
              go_at_call 11
              refine (wrong_any (⟨kk, 0, ⟨#[]⟩, 0, 0, 0, 0, 0, 0⟩ : En) _).mono ?_
              rintro r w8 ⟨rfl, hb8⟩
              have hR8 := hR5.below hb8 (by omega)
              have hE8 := hE5.below hb8 (by omega)
              have hbw8 := hbw5.trans (hb8.mono (by omega))
              have hs8 : eb < w8.heap.size := by have := hb8.size; omega
              clear e0 e1 e2 e3 e4 e5 e6 e7 e8 hb8 hE5 hR5 hbw5 hs5
              obtain ⟨q, hq⟩ : ∃ q, q = En.wrong (⟨kk, 0, ⟨#[]⟩, 0, 0, 0, 0, 0, 0⟩ : En) := ⟨_, rfl⟩
              rw [← hq]
              by_cases hq0 : q = 0
              · have HW0 : Hid (En.wrong (⟨kk, 0, ⟨#[]⟩, 0, 0, 0, 0, 0, 0⟩ : En) = 0) := hq.symm.trans hq0
                subst hq0
                clear hq
                obtain ⟨e0, e1, e2, e3, e4, e5, e6, e7, e8⟩ := box9 hE8
                go_wp2_with fail
                go_at_call 10
                refine (line_any (⟨kk, 0, ⟨#[]⟩, 0, 0, 0, 0, 0, 0⟩ : En) _ HW0.out (by simp)).mono ?_
                rintro r w9 ⟨rfl, hb9⟩
                have hR5 := hR8.below hb9 (by omega)
                have hE5 := hE8.below hb9 (by omega)
                have hbw5 := hbw8.trans (hb9.mono (by omega))
                have hs5 : eb < w9.heap.size := by have := hb9.size; omega
                clear e0 e1 e2 e3 e4 e5 e6 e7 e8 hb9 hE8 hR8 hbw8 hs8
                have HLE : Hid (∀ W, (Op.stringOp .add s (ByteArray.mk #[10])).run Tryd.prog W = .ok (.string ⟨(s.data.toList ++ [10]).toArray⟩) W) := line_feed s hs
                obtain ⟨sl, hsl⟩ : ∃ sl : ByteArray, sl = ⟨(En.line (⟨kk, 0, ⟨#[]⟩, 0, 0, 0, 0, 0, 0⟩ : En)).toArray⟩ := ⟨_, rfl⟩
                rw [← hsl]
                obtain ⟨sb, hsb⟩ : ∃ sb : ByteArray, sb = ⟨(s.data.toList ++ [10]).toArray⟩ := ⟨_, rfl⟩
                have hadd := HLE.out
                rw [← hsb] at hadd
                by_cases hll : En.line (⟨kk, 0, ⟨#[]⟩, 0, 0, 0, 0, 0, 0⟩ : En) = s.data.toList ++ [10]
                · have HRY : Hid (RE = some (⟨kk, 0, ⟨#[]⟩, 0, 0, 0, 0, 0, 0⟩ : En)) := by
                    show _ = _
                    rw [HRF.out, ifLine, if_pos ⟨HW0.out, hll⟩]
                  have hss : sl = sb := by rw [hsl, hsb, hll]
                  subst hss
                  clear hll hsl hsb HLE
                  have hbe : (sl.toList != sl.toList) = false := by simp
                  obtain ⟨e0, e1, e2, e3, e4, e5, e6, e7, e8⟩ := box9 hE5
                  have HCO : Hid ((#[.int .i64 kk, .int .i64 0, .string ⟨#[]⟩, .int .i64 0, .int .i64 0, .int .i64 0, .int .i64 0, .int .u32 0, .int .i64 0] : Array Value).all (·.oneCell') = true) := all_oneCell_toArray (cells_one (⟨kk, 0, ⟨#[]⟩, 0, 0, 0, 0, 0, 0⟩ : En))
                  go_wp2_with (with_reducible refine wpList_store_box rfl _ _ _ rfl w.heap.size 35 #[.int .i64 0, .int .i64 0, .string ⟨#[]⟩, .int .i64 0, .int .i64 0, .int .i64 0, .int .i64 0, .int .u32 0, .int .i64 0] #[.int .i64 kk, .int .i64 0, .string ⟨#[]⟩, .int .i64 0, .int .i64 0, .int .i64 0, .int .i64 0, .int .u32 0, .int .i64 0] rfl rfl hR5 rfl (rentry_size9 _ _ _ _ _ _ _ _ _) HCO.out ?_; intro wa hR9 hg9)
                  obtain ⟨y0, y1, y2, y3, y4, y5, y6, y7, y8⟩ := box9 hR9
                  refine bodyPost_ret (v := .tuple #[.agg #[.int .i64 kk, .int .i64 0, .string ⟨#[]⟩, .int .i64 0, .int .i64 0, .int .i64 0, .int .i64 0, .int .u32 0, .int .i64 0], .bool true]) (by simp [results, Tryd.results29, go_sem, y0, y1, y2, y3, y4, y5, y6, y7, y8]) rfl ⟨by rw [HRY.out]; rfl, hbw5.grown hg9 (by have := hbw5.size; omega) (by intro j hj; injection hj with hj; omega)⟩
                · have HNO : Hid (RE = none) := by
                    show _ = _
                    rw [HRF.out, ifLine, if_neg (fun h => hll h.2)]
                  have hbe : (sl.toList != sb.toList) = true := by
                    rw [hsl, hsb]
                    simp [Go.ByteArray.toList_eq, hll]
                  have hbe2 : ¬ sl.toList = sb.toList := by simpa using hbe
                  have hbe3 : (sl.toList == sb.toList) = false := by rw [beq_eq_false_iff_ne]; exact hbe2
                  clear hll hsl hsb HLE
                  go_wp2_with (with_reducible refine wpList_store_box rfl _ _ _ rfl w.heap.size 35 #[.int .i64 0, .int .i64 0, .string ⟨#[]⟩, .int .i64 0, .int .i64 0, .int .i64 0, .int .i64 0, .int .u32 0, .int .i64 0] #[.int .i64 0, .int .i64 0, .string ⟨#[]⟩, .int .i64 0, .int .i64 0, .int .i64 0, .int .i64 0, .int .u32 0, .int .i64 0] rfl rfl hR5 rfl (rentry_size9 _ _ _ _ _ _ _ _ _) zero_one ?_; intro wa hR9 hg9)
                  obtain ⟨y0, y1, y2, y3, y4, y5, y6, y7, y8⟩ := box9 hR9
                  refine bodyPost_ret (v := .tuple #[.agg #[.int .i64 0, .int .i64 0, .string ⟨#[]⟩, .int .i64 0, .int .i64 0, .int .i64 0, .int .i64 0, .int .u32 0, .int .i64 0], .bool false]) (by simp [results, Tryd.results29, go_sem, y0, y1, y2, y3, y4, y5, y6, y7, y8]) rfl ⟨by rw [HNO.out]; rfl, hbw5.grown hg9 (by have := hbw5.size; omega) (by intro j hj; injection hj with hj; omega)⟩
              · have HNO : Hid (RE = none) := by
                  show _ = _
                  rw [HRF.out, ifLine, if_neg (fun h => hq0 (hq.trans h.1))]
                have hqn : (q != 0) = true := by simpa using hq0
                have hR5 := hR8
                have hbw5 := hbw8
                clear hq hR8 hbw8
                go_wp2_with (with_reducible refine wpList_store_box rfl _ _ _ rfl w.heap.size 35 #[.int .i64 0, .int .i64 0, .string ⟨#[]⟩, .int .i64 0, .int .i64 0, .int .i64 0, .int .i64 0, .int .u32 0, .int .i64 0] #[.int .i64 0, .int .i64 0, .string ⟨#[]⟩, .int .i64 0, .int .i64 0, .int .i64 0, .int .i64 0, .int .u32 0, .int .i64 0] rfl rfl hR5 rfl (rentry_size9 _ _ _ _ _ _ _ _ _) zero_one ?_; intro w9 hR9 hg9)
                obtain ⟨y0, y1, y2, y3, y4, y5, y6, y7, y8⟩ := box9 hR9
                refine bodyPost_ret (v := .tuple #[.agg #[.int .i64 0, .int .i64 0, .string ⟨#[]⟩, .int .i64 0, .int .i64 0, .int .i64 0, .int .i64 0, .int .u32 0, .int .i64 0], .bool false]) (by simp [results, Tryd.results29, go_sem, y0, y1, y2, y3, y4, y5, y6, y7, y8]) rfl ⟨by rw [HNO.out]; rfl, hbw5.grown hg9 (by have := hbw5.size; omega) (by intro j hj; injection hj with hj; omega)⟩
end Go.Proofs.YtlgepoiaolhajaaDoor
