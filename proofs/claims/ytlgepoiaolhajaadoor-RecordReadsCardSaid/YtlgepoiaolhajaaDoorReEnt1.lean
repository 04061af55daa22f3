/-
  The record layer's entry, walked: what it answers of a line.
-/
import Derived.Test.YtlgepoiaolhajaaDoorReEntry
import Derived.Test.YtlgepoiaolhajaaDoorReUnhex
import Derived.Test.YtlgepoiaolhajaaDoorReWrong
import Derived.StillTailTactics
namespace Go.Proofs.YtlgepoiaolhajaaDoor
open Go.RowKit

def wordCells (ws : List (List UInt8)) : Array Value := (ws.map fun x => Value.string ⟨x.toArray⟩).toArray
/-- strings.Split, with the new block under a letter. -/
def SplitQ (ws : List (List UInt8)) (w : World) (r : Ending) (w' : World) : Prop :=
  ∃ g, r = .returned (.slice (some ⟨g, 0, none⟩) ws.length ws.length) ∧ Box w' g 9 (wordCells ws) ∧ Below w.heap.size w w' ∧ w.heap.size ≤ g ∧ g < w'.heap.size
theorem split_q (s : ByteArray) (w : World) (hs : s.size < 4294967281) (h : Env w) : Calls Tryd.prog 34 #[.string s, .string ⟨#[32]⟩] w (SplitQ (wordsOf s.data.toList) w) := by
  refine (split_any s w hs h).mono ?_
  rintro r w' ⟨rfl, rfl⟩
  exact ⟨w.heap.size, rfl, Box.new _ _ _, (Below.refl _ _).alloc (Nat.le_refl _) _, Nat.le_refl _, by simp⟩
theorem word_cell {w : World} {g : Nat} {ws : List (List UInt8)} (h : Box w g 9 (wordCells ws)) (k : Nat) (hk : k < ws.length) : w.cell? ⟨g, k, none⟩ = some (.string ⟨ws[k].toArray⟩) := by
  rw [h.cell]; simp [wordCells, hk]
theorem eq49 (u : List UInt8) : ((ByteArray.mk u.toArray).toList == [49]) = decide (u = [49]) := by
  rw [Go.ByteArray.toList_eq]
  by_cases h : u = [49]
  · subst h; rfl
  · simp [h]

/-- Where the numbers' slice and the text stand ahead of the loop. -/
def Ahead (ws : List (List UInt8)) (g : Nat) (W : World) (v t : Value) (wx : World) : Prop :=
  ∃ cap, v = .slice (some ⟨g, 0, none⟩) (numWords ws).length cap ∧ t = .string ⟨(textWord ws).toArray⟩ ∧ Below W.heap.size W wx

theorem numWords_le (ws : List (List UInt8)) : (numWords ws).length ≤ ws.length := by
  unfold numWords; split
  · simp; omega
  · exact Nat.le_refl _
theorem numWords_pos (ws : List (List UInt8)) (h : 0 < ws.length) : 0 < (numWords ws).length := by
  unfold numWords; split
  · simp; omega
  · exact h
theorem numWords_get (ws : List (List UInt8)) (k : Nat) (h : k < (numWords ws).length) : (numWords ws)[k] = ws[k]'(Nat.lt_of_lt_of_le h (numWords_le ws)) := by
  have : (numWords ws)[k]? = ws[k]? := by
    unfold numWords at h ⊢
    split
    · rename_i hc
      rw [if_pos hc] at h
      rw [List.getElem?_take_of_lt (by simp at h; omega)]
    · rfl
  rw [List.getElem?_eq_getElem h, List.getElem?_eq_getElem (Nat.lt_of_lt_of_le h (numWords_le ws))] at this
  injection this
theorem textWord_le (ws : List (List UInt8)) (n : Nat) (h : ∀ u ∈ ws, u.length ≤ n) : (textWord ws).length ≤ n := by
  unfold textWord; split
  · rw [List.getD_eq_getElem?_getD]
    cases he : ws[2]? with
    | none => simp
    | some u => exact h u (List.mem_of_getElem? he)
  · simp
def ints (zs : List Int) : List Value := zs.map (Value.int .i64)
theorem numsOf_snoc (us : List (List UInt8)) (k : Nat) (h : k < us.length) (v : Int) (hv : num? us[k] = some v) : ints (numsOf (us.take (k + 1))) = ints (numsOf (us.take k)) ++ [.int .i64 v] := by
  unfold ints numsOf
  rw [List.take_succ_eq_append_getElem h, List.map_append, List.map_append]
  simp only [List.map_cons, List.map_nil, hv, Option.getD_some]
theorem int_info : (Tryd.prog.info? 3).map (fun i => (i.zero, i.size, i.bytes)) = some (some (.int .i64 0), 1, 8) := by kernel_rfl

theorem zero_one : (#[.int .i64 0, .int .i64 0, .string ⟨#[]⟩, .int .i64 0, .int .i64 0, .int .i64 0, .int .i64 0, .int .u32 0, .int .i64 0] : Array Value).all (·.oneCell') = true := all_oneCell_toArray (cells_one zeroEn)
theorem entry_size9 (a0 a1 a2 a3 a4 a5 a6 a7 a8 : Value) : (Tryd.prog.info? 37).map (·.size) = some (#[a0, a1, a2, a3, a4, a5, a6, a7, a8] : Array Value).size := entry_size

theorem inp_size : (Tryd.prog.info? 33).map (·.size) = some 6 := by kernel_rfl
theorem inp_size6 {a0 a1 a2 a3 a4 a5 : Value} : (Tryd.prog.info? 33).map (·.size) = some (#[a0, a1, a2, a3, a4, a5] : Array Value).size := inp_size
theorem inp_one6 {z1 z2 z3 z4 z5 : Int} : (#[.int .i64 z1, .int .i64 z2, .int .i64 z3, .int .i64 z4, .int .u32 z5, .int .i64 0] : Array Value).all (·.oneCell') = true := all_oneCell_toArray (cs := [.int .i64 z1, .int .i64 z2, .int .i64 z3, .int .i64 z4, .int .u32 z5, .int .i64 0]) (by intro v hv; simp at hv; rcases hv with rfl | rfl | rfl | rfl | rfl | rfl <;> rfl)

set_option maxHeartbeats 1000000 in
set_option maxRecDepth 100000 in
theorem entry_any (s : ByteArray) (w : World) (hs : s.size ≤ 16777216) (h : Env w) :
    Calls Tryd.prog 28 #[.string s] w (EntryPost (recEntry s.data.toList) w) := by
  have hpos := wordsOf_pos s.data.toList
  have hcnt : (wordsOf s.data.toList).length ≤ s.size + 1 := by
    rw [words_count, Lib.count_one]
    have := List.count_le_length (a := (32 : UInt8)) (l := s.data.toList)
    have hl : s.data.toList.length = s.size := by simp
    omega
  have SP := Lib.hid (fun W (hW : Env W) => split_q s W (by omega) hW)
  have HL := Lib.hid (words_le s.data.toList)
  have HRE : Hid (recEntry s.data.toList = if ∀ u ∈ numWords (wordsOf s.data.toList), (num? u).isSome = true then finish (numsOf (numWords (wordsOf s.data.toList))) (textWord (wordsOf s.data.toList)) else none) := rfl
  generalize hws : wordsOf s.data.toList = ws at *
  generalize recEntry s.data.toList = RE at *
  clear hws
  have HE0 : Hid (Env (w.alloc (.cells #[.int .i64 0, .int .i64 0, .string ⟨#[]⟩, .int .i64 0, .int .i64 0, .int .i64 0, .int .i64 0, .int .u32 0, .int .i64 0] 37))) := h.below ((Below.refl _ _).alloc (Nat.le_refl _) _)
  clear h
  go_enter Tryd.func28, Tryd.ntmps28
  go_wp2_with fail
  go_at_call 34
  refine (SP.out _ HE0.out).mono ?_
  rintro r w1 ⟨g, rfl, hG, hb1, hg0, hg1⟩
  have hR := (Box.new w 37 #[.int .i64 0, .int .i64 0, .string ⟨#[]⟩, .int .i64 0, .int .i64 0, .int .i64 0, .int .i64 0, .int .u32 0, .int .i64 0]).below hb1 (by simp)
  have hE1 := HE0.out.below hb1
  have hbw : Below w.heap.size w w1 := ((Below.refl _ _).alloc (Nat.le_refl _) _).trans (hb1.mono (by simp))
  have hs1 := hb1.size
  simp only [World.size_alloc] at hs1 hg0
  clear hb1 SP HE0
  have c0 := word_cell (hG.alloc (.cells #[.int .i64 0, .int .i64 0, .string ⟨#[]⟩, .int .i64 0, .int .i64 0, .int .i64 0, .int .i64 0, .int .u32 0, .int .i64 0] 37)) 0 hpos
  have hR2 := hR.alloc (.cells #[.int .i64 0, .int .i64 0, .string ⟨#[]⟩, .int .i64 0, .int .i64 0, .int .i64 0, .int .i64 0, .int .u32 0, .int .i64 0] 37)
  have hE2 := Box.new w1 37 #[.int .i64 0, .int .i64 0, .string ⟨#[]⟩, .int .i64 0, .int .i64 0, .int .i64 0, .int .i64 0, .int .u32 0, .int .i64 0]
  have hG2 := hG.alloc (.cells #[.int .i64 0, .int .i64 0, .string ⟨#[]⟩, .int .i64 0, .int .i64 0, .int .i64 0, .int .i64 0, .int .u32 0, .int .i64 0] 37)
  have hV2 := hE1.below ((Below.refl _ _).alloc (Nat.le_refl _) (.cells #[.int .i64 0, .int .i64 0, .string ⟨#[]⟩, .int .i64 0, .int .i64 0, .int .i64 0, .int .i64 0, .int .u32 0, .int .i64 0] 37))
  have hb2 := hbw.alloc (by omega) (.cells #[.int .i64 0, .int .i64 0, .string ⟨#[]⟩, .int .i64 0, .int .i64 0, .int .i64 0, .int .i64 0, .int .u32 0, .int .i64 0] 37)
  have hs2 : w1.heap.size < (w1.alloc (.cells #[.int .i64 0, .int .i64 0, .string ⟨#[]⟩, .int .i64 0, .int .i64 0, .int .i64 0, .int .i64 0, .int .u32 0, .int .i64 0] 37)).heap.size := by simp
  clear hR hG hE1 hbw
  go_upto_region 4 with (fail)
  generalize w1.alloc (.cells #[.int .i64 0, .int .i64 0, .string ⟨#[]⟩, .int .i64 0, .int .i64 0, .int .i64 0, .int .i64 0, .int .u32 0, .int .i64 0] 37) = w2 at *
  generalize w1.heap.size = eb at *
  clear w1
  have hu0 := eq49 ws[0]
  generalize ByteArray.mk ws[0].toArray = u0 at *
  obtain ⟨ca, hca⟩ : ∃ ca, ca = decide (ws[0] = [49]) := ⟨_, rfl⟩
  obtain ⟨cb, hcb⟩ : ∃ cb, cb = decide (ws.length = 3) := ⟨_, rfl⟩
  have hl3 : ((ws.length : Int) == 3) = cb := by rw [hcb]; by_cases h : ws.length = 3 <;> simp [h] <;> omega
  rw [← hca] at hu0
  have HNT : Hid (numWords ws = (if ca = true ∧ cb = true then ws.take 2 else ws) ∧ textWord ws = (if ca = true ∧ cb = true then ws.getD 2 [] else []) ∧ (cb = true → 2 < ws.length)) := by
    have e : ws.getD 0 [] = ws[0] := by rw [List.getD_eq_getElem?_getD, List.getElem?_eq_getElem hpos]; rfl
    unfold numWords textWord
    rw [e, hca, hcb]
    simp only [decide_eq_true_eq]
    exact ⟨trivial, trivial, fun h => by omega⟩
  clear hca hcb
  go_cut [25] (fun c wx => c = .bool (ca && cb) ∧ wx = w2)
  case first =>
    cases ca
    · go_wp2_with fail
      go_meet
      exact ⟨rfl, rfl⟩
    · cases cb
      · go_wp2_with fail
        go_meet
        exact ⟨rfl, rfl⟩
      · go_wp2_with fail
        go_meet
        exact ⟨rfl, rfl⟩
  case rest =>
  obtain ⟨rfl, rfl⟩ := hcut
  clear hl3 hu0 c0
  go_upto_if 25 with (fail)
  go_cut [4, 6] (Ahead ws g wc)
  case first =>
    by_cases hAB : ca = true ∧ cb = true
    · have h2 : 2 < ws.length := HNT.out.2.2 hAB.2
      have HNT2 : Hid ((numWords ws).length = 2 ∧ textWord ws = ws[2]'h2) := by
        refine ⟨?_, ?_⟩
        · rw [HNT.out.1, if_pos hAB]; simp; omega
        · rw [HNT.out.2.1, if_pos hAB, List.getD_eq_getElem?_getD, List.getElem?_eq_getElem h2]; rfl
      have c2 := word_cell hG2 2 h2
      have q1 : (2 : Int) < (ws.length : Int) := by omega
      have q2 : (2 : Int) ≤ (ws.length : Int) := by omega
      have HC : Hid (∀ l, ByteArray.mk (ws[2]'h2).toArray = l → True) := fun _ _ => trivial
      obtain ⟨rfl, rfl⟩ := hAB
      go_wp2_with fail
      go_quiet (fail)
      go_wp2_with fail
      go_meet
      exact ⟨_, by rw [HNT2.out.1], by rw [HNT2.out.2], below_drewN' (Below.refl _ _) _⟩
    · have HNT2 : Hid (numWords ws = ws ∧ textWord ws = []) := by
        rw [HNT.out.1, HNT.out.2.1, if_neg hAB, if_neg hAB]
        exact ⟨rfl, rfl⟩
      obtain ⟨cc, hcc⟩ : ∃ cc, cc = (ca && cb) := ⟨_, rfl⟩
      have hcf : (ca && cb) = false := by
        cases ca
        · rfl
        · cases cb
          · rfl
          · exact absurd ⟨rfl, rfl⟩ hAB
      rw [hcf]
      clear hAB hcc hcf
      go_wp2_with fail
      go_meet
      exact ⟨_, by rw [HNT2.out.1], by rw [HNT2.out.2], Below.refl _ _⟩
  case rest =>
  obtain ⟨cap, rfl, rfl, hb3⟩ := hcut
  rename_i wb
  have hs3 : eb < wc.heap.size := by have := hb3.size; omega
  have hR3 := hR2.below hb3 (by omega)
  have hE3 := hE2.below hb3 (by omega)
  have hG3 := hG2.below hb3 (by omega)
  have hV3 := hV2.below hb3
  have hbw := hb2.trans (hb3.mono (by omega))
  have hn0 := numWords_pos ws hpos
  have hn1 := numWords_le ws
  have HTL := Lib.hid (textWord_le ws _ HL.out)
  have HUL : Hid (∀ k (h : k < (numWords ws).length), (numWords ws)[k].length ≤ s.size) := by
    intro k h
    have := HL.out (numWords ws)[k] (by rw [numWords_get ws k h]; exact List.getElem_mem _)
    have hl : s.data.toList.length = s.size := by simp
    omega
  have HUC : Hid (∀ (W : World), Box W g 9 (wordCells ws) → ∀ k (h : k < (numWords ws).length), W.cell? ⟨g, k, none⟩ = some (.string ⟨((numWords ws)[k]).toArray⟩)) := by
    intro W hW k h
    rw [word_cell hW k (by omega), numWords_get ws k h]
  have HG3 := Lib.hid hG3
  have HV3 := Lib.hid hV3
  have HR3 := Lib.hid hR3
  have HE3 := Lib.hid hE3
  have HBW := Lib.hid hbw
  clear hb3 hR2 hE2 hG2 hV2 hb2 hG3 hV3 hR3 hE3 hbw HNT HL hs2
  generalize numWords ws = us at *
  generalize textWord ws = tx at *
  have hul : us.length ≤ 16777217 := by omega
  clear hpos hcnt hn1
  obtain ⟨i0, hi, hz0, hz1, hz2⟩ := info_parts int_info
  go_wp2_with fail
  go_loopw [7, 9, 10, 11, 33] (fun v _ _ _ i wr => ∃ k : Nat, k ≤ us.length ∧ i = .int .i64 k ∧ wr.ownsRow wc.heap.size 3 1 v k (ints (numsOf (us.take k))) ∧ (∀ u ∈ us.take k, (num? u).isSome = true) ∧ Below wc.heap.size wc wr) (fun _ _ _ _ i _ => us.length - (intOf i).toNat)
  case atStart => exact ⟨0, by omega, rfl, World.ownsRow_nil _ _ _ _, by simp, Below.refl _ _⟩
  case round =>
    obtain ⟨k, hk, rfl, hown, hall, hbr⟩ := hrel
    have HALL := Lib.hid hall
    clear hall
    have hsr := hbr.size
    by_cases hlt : k < us.length
    · have hc := HUC.out wr (HG3.out.below hbr (by omega)) k hlt
      have hsz := HUL.out k hlt
      have hV4 := HV3.out.below hbr
      obtain ⟨u, hu⟩ : ∃ u, u = us[k] := ⟨_, rfl⟩
      rw [← hu] at hc hsz
      obtain ⟨ub, hub⟩ : ∃ ub : ByteArray, ub = ⟨u.toArray⟩ := ⟨_, rfl⟩
      rw [← hub] at hc
      have HU := Lib.hid hu
      have HUB := Lib.hid hub
      have hus : ub.size ≤ s.size := by rw [hub]; show u.toArray.size ≤ _; rw [List.size_toArray]; exact hsz
      clear hu hub hsz
      go_wp2_with fail
      go_at_call 35
      refine (atoi_any ub _ (by omega) hV4).mono ?_
      rintro r w4 ⟨hb4, hc4⟩
      have hown4 := own_below hown hb4
      have hb5 := hbr.trans (hb4.mono hsr)
      have hV5 := hV4.below hb4
      clear hown hbr hV4 hc hb4
      rcases hc4 with ⟨v, hv, rfl⟩ | ⟨hno, v, t, N, rfl⟩
      · have hvb := atoi_bounds hv
        have HV := Lib.hid hv
        clear hv
        go_wp2_with fail
        go_at_call 21
        refine (itoa_any v hvb.1 hvb.2 _ hV5.tab).mono ?_
        rintro r w6 ⟨rfl, hb6⟩
        have hown6 := own_below hown4 hb6
        have hb7 := hb5.trans (hb6.mono (by have := hb5.size; omega))
        have hs7 := hb7.size
        clear hown4 hb5 hV5 hb6
        obtain ⟨ib, hib⟩ : ∃ ib : ByteArray, ib = ⟨(Lib.itoa v).toArray⟩ := ⟨_, rfl⟩
        rw [← hib]
        by_cases hie : Lib.itoa v = u
        · have hiu : ib = ub := by rw [hib, HUB.out, hie]
          have HNK : Hid (num? us[k] = some v) := by
            show _ = _
            rw [← HU.out, num_iff]
            exact ⟨hie, hvb⟩
          have HN1 := Lib.hid (numsOf_snoc us k hlt v HNK.out)
          have HAL1 : Hid (∀ x ∈ us.take (k + 1), (num? x).isSome = true) := by
            intro x hx
            rw [List.take_succ_eq_append_getElem hlt] at hx
            rcases List.mem_append.1 hx with hx | hx
            · exact HALL.out x hx
            · rw [List.mem_singleton.1 hx, HNK.out]; rfl
          subst hiu
          clear hib hie
          have hbe : (ib.toList != ib.toList) = false := by simp
          go_wp2_with (at_builtin; refine wpList_append_own _ rfl _ _ 74 rfl wc.heap.size 3 i0 (.int .i64 0) 1 8 Tryd.underlying74 hi hz0 hz1 hz2 rfl (by decide) _ _ _ rfl (hown6.alloc _) ⟨w6.heap.size, 0, none⟩ 1 1 [.int .i64 v] rfl rfl (cell_one_new _ _ _) (by intro u hu; simp at hu; subst hu; rfl) (by unfold maxLen; omega) (by omega) (by simp; omega) ?_; intro v1 w8 hown8 hgrow8 hnil8)
          go_roundw
          case rel => exact ⟨k + 1, by omega, by go_num, by rw [HN1.out]; exact hown8, HAL1.out, (hb7.alloc hs7 _).grown hgrow8 (by simp; omega) (fun j hj => (hown6.lt j hj).1)⟩
          case measure => simp [intOf]; omega
        · have hbe : (ib.toList != ub.toList) = true := by
            rw [hib, HUB.out]
            simp [Go.ByteArray.toList_eq, hie]
          have hbf : (ib.toList == ub.toList) = false := by
            rw [hib, HUB.out]
            simp [Go.ByteArray.toList_eq, hie]
          have hbn : ¬ ib.toList = ub.toList := by
            rw [hib, HUB.out]
            simp [Go.ByteArray.toList_eq, hie]
          have HNO : Hid (RE = none) := by
            show _ = _
            rw [HRE.out, if_neg]
            intro hh
            have h1 := hh us[k] (List.getElem_mem _)
            rw [← HU.out] at h1
            have h2 : num? u = none := by
              have hv := HV.out
              rw [HUB.out] at hv
              unfold num?
              rw [show Lib.atoiAll u = .ok v from by simpa using hv]
              simp [hie]
            rw [h2] at h1
            cases h1
          have hR5 := HR3.out.below hb7 (by omega)
          have hbw5 := HBW.out.trans (hb7.mono (by omega))
          clear hown6 hb7 hib hie
          go_wp2_with (with_reducible refine wpList_store_box rfl _ _ _ rfl w.heap.size 37 #[.int .i64 0, .int .i64 0, .string ⟨#[]⟩, .int .i64 0, .int .i64 0, .int .i64 0, .int .i64 0, .int .u32 0, .int .i64 0] #[.int .i64 0, .int .i64 0, .string ⟨#[]⟩, .int .i64 0, .int .i64 0, .int .i64 0, .int .i64 0, .int .u32 0, .int .i64 0] rfl rfl hR5 rfl (entry_size9 _ _ _ _ _ _ _ _ _) zero_one ?_; intro w9 hR9 hg9)
          obtain ⟨y0, y1, y2, y3, y4, y5, y6, y7, y8⟩ := box9 hR9
          refine bodyPost_ret (v := .tuple #[.agg #[.int .i64 0, .int .i64 0, .string ⟨#[]⟩, .int .i64 0, .int .i64 0, .int .i64 0, .int .i64 0, .int .u32 0, .int .i64 0], .bool false]) (by simp [results, Tryd.results28, go_sem, y0, y1, y2, y3, y4, y5, y6, y7, y8]) rfl ⟨by rw [HNO.out]; rfl, hbw5.grown hg9 (by have := hbw5.size; omega) (by intro j hj; injection hj with hj; omega)⟩
      · have HNO : Hid (RE = none) := by
          show _ = _
          rw [HRE.out, if_neg]
          intro hh
          have h1 := hh us[k] (List.getElem_mem _)
          rw [← HU.out] at h1
          have h2 : num? u = none := by
            unfold num?
            cases ha : Lib.atoiAll u with
            | ok v => exact absurd ha (by have := hno v; rw [HUB.out] at this; simpa using this)
            | _ => rfl
          rw [h2] at h1
          cases h1
        have hR5 := HR3.out.below hb5 (by omega)
        have hbw5 := HBW.out.trans (hb5.mono (by omega))
        clear hno hown4 hV5 hb5
        go_wp2_with (with_reducible refine wpList_store_box rfl _ _ _ rfl w.heap.size 37 #[.int .i64 0, .int .i64 0, .string ⟨#[]⟩, .int .i64 0, .int .i64 0, .int .i64 0, .int .i64 0, .int .u32 0, .int .i64 0] #[.int .i64 0, .int .i64 0, .string ⟨#[]⟩, .int .i64 0, .int .i64 0, .int .i64 0, .int .i64 0, .int .u32 0, .int .i64 0] rfl rfl hR5 rfl (entry_size9 _ _ _ _ _ _ _ _ _) zero_one ?_; intro w9 hR9 hg9)
        obtain ⟨y0, y1, y2, y3, y4, y5, y6, y7, y8⟩ := box9 hR9
        refine bodyPost_ret (v := .tuple #[.agg #[.int .i64 0, .int .i64 0, .string ⟨#[]⟩, .int .i64 0, .int .i64 0, .int .i64 0, .int .i64 0, .int .u32 0, .int .i64 0], .bool false]) (by simp [results, Tryd.results28, go_sem, y0, y1, y2, y3, y4, y5, y6, y7, y8]) rfl ⟨by rw [HNO.out]; rfl, hbw5.grown hg9 (by have := hbw5.size; omega) (by intro j hj; injection hj with hj; omega)⟩
    · obtain rfl : k = us.length := by omega
      rw [List.take_length] at hown
      have HAL2 := HALL.out
      rw [List.take_length] at HAL2
      have HRE2 : Hid (RE = finish (numsOf us) tx) := by
        show _ = _
        rw [HRE.out, if_pos HAL2]
      have HNB : Hid (∀ z ∈ numsOf us, -9223372036854775808 ≤ z ∧ z ≤ 9223372036854775807) := by
        intro z hz
        obtain ⟨u, hu, rfl⟩ := List.mem_map.1 hz
        have h1 := HAL2 u hu
        cases hn : num? u with
        | none => rw [hn] at h1; cases h1
        | some v => exact ((num_iff u v).1 hn).2
      have hnl : us.length = (numsOf us).length := by simp [numsOf]
      rw [hnl] at hown hul hn0 hlt
      have HOWN := Lib.hid hown
      have hR4 := HR3.out.below hbr (by omega)
      have hE4 := HE3.out.below hbr (by omega)
      have hbw4 := HBW.out.trans (hbr.mono (by omega))
      clear HRE HAL2 HALL hlt
      have HNL := Lib.hid hnl
      generalize numsOf us = ns at *
      rcases hown.2 with ⟨_, h0⟩ | ⟨gN, capN, cur, rfl, hgN, -, hcap, -⟩
      · exact absurd h0 (by omega)
      have hsl := (hown.lt gN rfl).2
      have HNS : Hid (∀ (W : World), W.ownsRow wc.heap.size 3 1 (.slice (some ⟨gN, 0, none⟩) ns.length capN) ns.length (ints ns) → ∀ j (h : j < ns.length), W.cell? ⟨gN, j, none⟩ = some (.int .i64 ns[j])) := by
        intro W hW j h
        rw [hW.cellAt j (by omega)]
        simp [ints, h]
      have n0 := HNS.out wr hown 0 hn0
      obtain ⟨e0, e1, e2, e3, e4, e5, e6, e7, e8⟩ := box9 hE4
      have f0 := hE4.frozen 0
      have hE5 := hE4.set_ 0 (.int .i64 ns[0])
      simp only [List.setIfInBounds_toArray, List.set_cons_zero] at hE5
      have hR5 := hR4.far (p := ⟨eb, 0, none⟩) (by show w.heap.size ≠ eb; omega) (.int .i64 ns[0])
      have hO5 := own_far (u := .int .i64 ns[0]) (p := ⟨eb, 0, none⟩) hown (own_box_ne hown hE4 (by decide))
      have hV5 := (HV3.out.below hbr)
      have hbw5 := hbw4.setCell (p := ⟨eb, 0, none⟩) (by show w.heap.size ≤ eb; omega) (.int .i64 ns[0])
      have hs5 : eb < (wr.setCell ⟨eb, 0, none⟩ (.int .i64 ns[0])).heap.size := by simp; omega
      have n1 := HNS.out _ hO5
      have HN1 := Lib.hid n1
      clear hown hnl hE4 hR4 hbw4 e1 e2 e3 e4 e5 e6 e7 e8 hV5 n1
      go_upto_region 16 with (fail)
      generalize wr.setCell ⟨eb, 0, none⟩ (.int .i64 ns[0]) = w5 at *
      clear n0 e0 f0 hbr hsr hsl
      -- the ways behind the loop
      have HFN : Hid (RE = finish ns tx) := HRE2
      have hg0' : ns.getD 0 0 = ns[0] := by rw [List.getD_eq_getElem?_getD, List.getElem?_eq_getElem hn0]; rfl
      have HG0 := Lib.hid hg0'
      have HTS : Hid (tx.length ≤ s.size) := by
        have := HTL.out
        have hl : s.data.toList.length = s.size := by simp
        show _ ≤ _
        omega
      clear HG3 HV3 HR3 HE3 HBW HUL HUC hi hz0 hz1 hz2 hg0' HRE2 HTL HNL HOWN HNB hul
      generalize hkk : ns[0] = kk at *
      clear hkk
      obtain ⟨e0, e1, e2, e3, e4, e5, e6, e7, e8⟩ := box9 hE5
      have hws : w.heap.size < w5.heap.size := by omega
      clear hws
      by_cases hk1 : kk = 1
      · subst hk1
        obtain ⟨tb, htb⟩ : ∃ tb : ByteArray, tb = ⟨tx.toArray⟩ := ⟨_, rfl⟩
        rw [← htb]
        have HTB := Lib.hid htb
        have htl : tb.size ≤ 16777216 := by
          have := HTS.out
          rw [htb]; show tx.toArray.size ≤ _; rw [List.size_toArray]; omega
        clear htb
        go_wp2_with fail
        go_at_call 36
        refine (unhex_any tb _ htl).mono ?_
        rintro r w6 ⟨rfl, hb6⟩
        have htx : tb.data.toList = tx := by rw [HTB.out]
        rw [htx]
        have hR6 := hR5.below hb6 (by omega)
        have hE6 := hE5.below hb6 (by omega)
        have hO6 := own_below hO5 hb6
        have hbw6 := hbw5.trans (hb6.mono (by omega))
        have hs6 : eb < w6.heap.size := by have := hb6.size; omega
        clear hR5 hE5 hO5 hbw5 hs5 hb6 htx e0 e1 e2 e3 e4 e5 e6 e7 e8
        have hR5 := hR6
        have hE5 := hE6
        have hO5 := hO6
        have hbw5 := hbw6
        have hs5 := hs6
        clear hR6 hE6 hO6 hbw6 hs6
        obtain ⟨e0, e1, e2, e3, e4, e5, e6, e7, e8⟩ := box9 hE5
        cases ho : unhexP tx with
        | none =>
          have HNO : Hid (RE = none) := by
            show _ = _
            rw [HFN.out]
            unfold finish
            simp only [HG0.out, ho, if_pos]
          simp only [Option.getD_none, Option.isSome_none]
          clear ho
          go_wp2_with (with_reducible refine wpList_store_box rfl _ _ _ rfl w.heap.size 37 #[.int .i64 0, .int .i64 0, .string ⟨#[]⟩, .int .i64 0, .int .i64 0, .int .i64 0, .int .i64 0, .int .u32 0, .int .i64 0] #[.int .i64 0, .int .i64 0, .string ⟨#[]⟩, .int .i64 0, .int .i64 0, .int .i64 0, .int .i64 0, .int .u32 0, .int .i64 0] rfl rfl hR5 rfl (entry_size9 _ _ _ _ _ _ _ _ _) zero_one ?_; intro w9 hR9 hg9)
          obtain ⟨y0, y1, y2, y3, y4, y5, y6, y7, y8⟩ := box9 hR9
          refine bodyPost_ret (v := .tuple #[.agg #[.int .i64 0, .int .i64 0, .string ⟨#[]⟩, .int .i64 0, .int .i64 0, .int .i64 0, .int .i64 0, .int .u32 0, .int .i64 0], .bool false]) (by simp [results, Tryd.results28, go_sem, y0, y1, y2, y3, y4, y5, y6, y7, y8]) rfl ⟨by rw [HNO.out]; rfl, hbw5.grown hg9 (by have := hbw5.size; omega) (by intro j hj; injection hj with hj; omega)⟩
        | some b =>
          simp only [Option.getD_some, Option.isSome_some]
          obtain ⟨bb, hbb⟩ : ∃ bb : ByteArray, bb = ⟨b.toArray⟩ := ⟨_, rfl⟩
          rw [← hbb]
          have HO := Lib.hid ho
          have HBB := Lib.hid hbb
          clear ho hbb
          have f2 := hE5.frozen 2
          have hEn := hE5.set_ 2 (.string bb)
          simp only [List.setIfInBounds_toArray, List.set_cons_zero, List.set_cons_succ] at hEn
          have hRn := hR5.far (p := ⟨eb, 2, none⟩) (by show w.heap.size ≠ eb; omega) (.string bb)
          have hOn := own_far (u := .string bb) (p := ⟨eb, 2, none⟩) hO5 (own_box_ne hO5 hE5 (by decide))
          have hbn := hbw5.setCell (p := ⟨eb, 2, none⟩) (by show w.heap.size ≤ eb; omega) (.string bb)
          have hsn : eb < (w6.setCell ⟨eb, 2, none⟩ (.string bb)).heap.size := by simp; omega
          go_upto_region 23 with (fail)
          generalize w6.setCell ⟨eb, 2, none⟩ (.string bb) = wa at *
          clear f2 hE5 hR5 hbw5 hs5 hO5 e0 e1 e2 e3 e4 e5 e6 e7 e8
          have hE5 := hEn
          have hR5 := hRn
          have hO5 := hOn
          have hbw5 := hbn
          have hs5 := hsn
          clear hEn hRn hOn hbn hsn
          obtain ⟨e0, e1, e2, e3, e4, e5, e6, e7, e8⟩ := box9 hE5
          by_cases hlen : ns.length = 2
          · have hl1 : 1 < ns.length := by omega
            have HRF : Hid (RE = ifRight ⟨1, ns[1]'hl1, bb, 0, 0, 0, 0, 0, 0⟩) := by
              have e : ns.getD 1 0 = ns[1]'hl1 := by rw [List.getD_eq_getElem?_getD, List.getElem?_eq_getElem hl1]; rfl
              show _ = _
              rw [HFN.out]
              unfold finish
              simp only [HG0.out, HO.out, if_pos, hlen, e, HBB.out]
            have hlb : ((ns.length : Int) != 2) = false := by rw [bne_eq_false_iff_eq]; omega
            clear hlen
            have f1 := hE5.frozen 1
            have hEn := hE5.set_ 1 (.int .i64 (ns[1]'hl1))
            simp only [List.setIfInBounds_toArray, List.set_cons_zero, List.set_cons_succ] at hEn
            have hRn := hR5.far (p := ⟨eb, 1, none⟩) (by show w.heap.size ≠ eb; omega) (.int .i64 (ns[1]'hl1))
            have hbn := hbw5.setCell (p := ⟨eb, 1, none⟩) (by show w.heap.size ≤ eb; omega) (.int .i64 (ns[1]'hl1))
            have n1 := HNS.out _ hO5 1 hl1
            go_upto_region 33 with (go_at_call 22; refine (ofClient_any _ _).mono ?_; rintro r wz ⟨rfl, rfl⟩)
            have hsn : eb < (wa.setCell ⟨eb, 1, none⟩ (.int .i64 (ns[1]'hl1))).heap.size := by simp; omega
            generalize wa.setCell ⟨eb, 1, none⟩ (.int .i64 (ns[1]'hl1)) = w7 at *
            clear n1 f1 hE5 hR5 hbw5 hs5 hO5
            have hE5 := hEn
            have hR5 := hRn
            have hbw5 := hbn
            have hs5 := hsn
            clear hEn hRn hbn hsn
            generalize ns[1]'hl1 = z1 at *
            clear e0 e1 e2 e3 e4 e5 e6 e7 e8
            obtain ⟨e0, e1, e2, e3, e4, e5, e6, e7, e8⟩ := box9 hE5
            go_wp2_with fail
            go_at_call 30
            refine (check_any (⟨1, z1, bb, 0, 0, 0, 0, 0, 0⟩ : En) _).mono ?_
            rintro r w8 ⟨rfl, hb8⟩
            have hR8 := hR5.below hb8 (by omega)
            have hE8 := hE5.below hb8 (by omega)
            have hbw8 := hbw5.trans (hb8.mono (by omega))
            have hs8 : eb < w8.heap.size := by have := hb8.size; omega
            clear e0 e1 e2 e3 e4 e5 e6 e7 e8 hb8 hE5 hR5 hbw5 hs5
            obtain ⟨q, hq⟩ : ∃ q, q = En.wrong (⟨1, z1, bb, 0, 0, 0, 0, 0, 0⟩ : En) := ⟨_, rfl⟩
            rw [← hq]
            have hR5 := hR8
            have hbw5 := hbw8
            clear hR8 hbw8
            by_cases hq0 : q = 0
            · have HRY : Hid (RE = some (⟨1, z1, bb, 0, 0, 0, 0, 0, 0⟩ : En)) := by
                show _ = _
                rw [HRF.out, ifRight, if_pos (hq.symm.trans hq0)]
              subst hq0
              clear hq
              obtain ⟨e0, e1, e2, e3, e4, e5, e6, e7, e8⟩ := box9 hE8
              have HCO : Hid ((#[.int .i64 1, .int .i64 z1, .string bb, .int .i64 0, .int .i64 0, .int .i64 0, .int .i64 0, .int .u32 0, .int .i64 0] : Array Value).all (·.oneCell') = true) := all_oneCell_toArray (cells_one (⟨1, z1, bb, 0, 0, 0, 0, 0, 0⟩ : En))
              go_wp2_with (with_reducible refine wpList_store_box rfl _ _ _ rfl w.heap.size 37 #[.int .i64 0, .int .i64 0, .string ⟨#[]⟩, .int .i64 0, .int .i64 0, .int .i64 0, .int .i64 0, .int .u32 0, .int .i64 0] #[.int .i64 1, .int .i64 z1, .string bb, .int .i64 0, .int .i64 0, .int .i64 0, .int .i64 0, .int .u32 0, .int .i64 0] rfl rfl hR5 rfl (entry_size9 _ _ _ _ _ _ _ _ _) HCO.out ?_; intro w9 hR9 hg9)
              obtain ⟨y0, y1, y2, y3, y4, y5, y6, y7, y8⟩ := box9 hR9
              refine bodyPost_ret (v := .tuple #[.agg #[.int .i64 1, .int .i64 z1, .string bb, .int .i64 0, .int .i64 0, .int .i64 0, .int .i64 0, .int .u32 0, .int .i64 0], .bool true]) (by simp [results, Tryd.results28, go_sem, y0, y1, y2, y3, y4, y5, y6, y7, y8]) rfl ⟨by rw [HRY.out]; rfl, hbw5.grown hg9 (by have := hbw5.size; omega) (by intro j hj; injection hj with hj; omega)⟩
            · have HNO : Hid (RE = none) := by
                show _ = _
                rw [HRF.out, ifRight, if_neg (fun h => hq0 (hq.trans h))]
              have hqn : (q != 0) = true := by simpa using hq0
              clear hq
              go_wp2_with (with_reducible refine wpList_store_box rfl _ _ _ rfl w.heap.size 37 #[.int .i64 0, .int .i64 0, .string ⟨#[]⟩, .int .i64 0, .int .i64 0, .int .i64 0, .int .i64 0, .int .u32 0, .int .i64 0] #[.int .i64 0, .int .i64 0, .string ⟨#[]⟩, .int .i64 0, .int .i64 0, .int .i64 0, .int .i64 0, .int .u32 0, .int .i64 0] rfl rfl hR5 rfl (entry_size9 _ _ _ _ _ _ _ _ _) zero_one ?_; intro w9 hR9 hg9)
              obtain ⟨y0, y1, y2, y3, y4, y5, y6, y7, y8⟩ := box9 hR9
              refine bodyPost_ret (v := .tuple #[.agg #[.int .i64 0, .int .i64 0, .string ⟨#[]⟩, .int .i64 0, .int .i64 0, .int .i64 0, .int .i64 0, .int .u32 0, .int .i64 0], .bool false]) (by simp [results, Tryd.results28, go_sem, y0, y1, y2, y3, y4, y5, y6, y7, y8]) rfl ⟨by rw [HNO.out]; rfl, hbw5.grown hg9 (by have := hbw5.size; omega) (by intro j hj; injection hj with hj; omega)⟩
          · have HNO : Hid (RE = none) := by
              show _ = _
              rw [HFN.out]
              unfold finish
              simp only [HG0.out, HO.out, if_pos, if_neg hlen]
            have hlb : ((ns.length : Int) != 2) = true := by rw [bne_iff_ne]; omega
            clear hlen
            go_wp2_with (with_reducible refine wpList_store_box rfl _ _ _ rfl w.heap.size 37 #[.int .i64 0, .int .i64 0, .string ⟨#[]⟩, .int .i64 0, .int .i64 0, .int .i64 0, .int .i64 0, .int .u32 0, .int .i64 0] #[.int .i64 0, .int .i64 0, .string ⟨#[]⟩, .int .i64 0, .int .i64 0, .int .i64 0, .int .i64 0, .int .u32 0, .int .i64 0] rfl rfl hR5 rfl (entry_size9 _ _ _ _ _ _ _ _ _) zero_one ?_; intro w9 hR9 hg9)
            obtain ⟨y0, y1, y2, y3, y4, y5, y6, y7, y8⟩ := box9 hR9
            refine bodyPost_ret (v := .tuple #[.agg #[.int .i64 0, .int .i64 0, .string ⟨#[]⟩, .int .i64 0, .int .i64 0, .int .i64 0, .int .i64 0, .int .u32 0, .int .i64 0], .bool false]) (by simp [results, Tryd.results28, go_sem, y0, y1, y2, y3, y4, y5, y6, y7, y8]) rfl ⟨by rw [HNO.out]; rfl, hbw5.grown hg9 (by have := hbw5.size; omega) (by intro j hj; injection hj with hj; omega)⟩
      · by_cases hk3 : kk = 3
        · subst hk3
          have HFN2 : Hid (RE = if ns.length = 2 then ifRight ⟨3, ns.getD 1 0, ⟨#[]⟩, 0, 0, 0, 0, 0, 0⟩ else none) := by
            show _ = _
            rw [HFN.out]
            unfold finish
            rw [HG0.out]
            rfl
          clear hk1
          by_cases hlen : ns.length = 2
          · have hl1 : 1 < ns.length := by omega
            have HRF : Hid (RE = ifRight ⟨3, ns[1]'hl1, ⟨#[]⟩, 0, 0, 0, 0, 0, 0⟩) := by
              have e : ns.getD 1 0 = ns[1]'hl1 := by rw [List.getD_eq_getElem?_getD, List.getElem?_eq_getElem hl1]; rfl
              show _ = _
              rw [HFN2.out, if_pos hlen, e]
            have hlb : ((ns.length : Int) != 2) = false := by rw [bne_eq_false_iff_eq]; omega
            clear hlen
            have f1 := hE5.frozen 1
            have hEn := hE5.set_ 1 (.int .i64 (ns[1]'hl1))
            simp only [List.setIfInBounds_toArray, List.set_cons_zero, List.set_cons_succ] at hEn
            have hRn := hR5.far (p := ⟨eb, 1, none⟩) (by show w.heap.size ≠ eb; omega) (.int .i64 (ns[1]'hl1))
            have hbn := hbw5.setCell (p := ⟨eb, 1, none⟩) (by show w.heap.size ≤ eb; omega) (.int .i64 (ns[1]'hl1))
            have n1 := HNS.out _ hO5 1 hl1
            go_upto_region 33 with (go_at_call 22; refine (ofClient_any _ _).mono ?_; rintro r wz ⟨rfl, rfl⟩)
            have hsn : eb < (w5.setCell ⟨eb, 1, none⟩ (.int .i64 (ns[1]'hl1))).heap.size := by simp; omega
            generalize w5.setCell ⟨eb, 1, none⟩ (.int .i64 (ns[1]'hl1)) = w7 at *
            clear n1 f1 hE5 hR5 hbw5 hs5 hO5
            have hE5 := hEn
            have hR5 := hRn
            have hbw5 := hbn
            have hs5 := hsn
            clear hEn hRn hbn hsn
            generalize ns[1]'hl1 = z1 at *
            clear e0 e1 e2 e3 e4 e5 e6 e7 e8
            obtain ⟨e0, e1, e2, e3, e4, e5, e6, e7, e8⟩ := box9 hE5
            go_wp2_with fail
            go_at_call 30
            refine (check_any (⟨3, z1, ⟨#[]⟩, 0, 0, 0, 0, 0, 0⟩ : En) _).mono ?_
            rintro r w8 ⟨rfl, hb8⟩
            have hR8 := hR5.below hb8 (by omega)
            have hE8 := hE5.below hb8 (by omega)
            have hbw8 := hbw5.trans (hb8.mono (by omega))
            have hs8 : eb < w8.heap.size := by have := hb8.size; omega
            clear e0 e1 e2 e3 e4 e5 e6 e7 e8 hb8 hE5 hR5 hbw5 hs5
            obtain ⟨q, hq⟩ : ∃ q, q = En.wrong (⟨3, z1, ⟨#[]⟩, 0, 0, 0, 0, 0, 0⟩ : En) := ⟨_, rfl⟩
            rw [← hq]
            have hR5 := hR8
            have hbw5 := hbw8
            clear hR8 hbw8
            by_cases hq0 : q = 0
            · have HRY : Hid (RE = some (⟨3, z1, ⟨#[]⟩, 0, 0, 0, 0, 0, 0⟩ : En)) := by
                show _ = _
                rw [HRF.out, ifRight, if_pos (hq.symm.trans hq0)]
              subst hq0
              clear hq
              obtain ⟨e0, e1, e2, e3, e4, e5, e6, e7, e8⟩ := box9 hE8
              have HCO : Hid ((#[.int .i64 3, .int .i64 z1, .string ⟨#[]⟩, .int .i64 0, .int .i64 0, .int .i64 0, .int .i64 0, .int .u32 0, .int .i64 0] : Array Value).all (·.oneCell') = true) := all_oneCell_toArray (cells_one (⟨3, z1, ⟨#[]⟩, 0, 0, 0, 0, 0, 0⟩ : En))
              go_wp2_with (with_reducible refine wpList_store_box rfl _ _ _ rfl w.heap.size 37 #[.int .i64 0, .int .i64 0, .string ⟨#[]⟩, .int .i64 0, .int .i64 0, .int .i64 0, .int .i64 0, .int .u32 0, .int .i64 0] #[.int .i64 3, .int .i64 z1, .string ⟨#[]⟩, .int .i64 0, .int .i64 0, .int .i64 0, .int .i64 0, .int .u32 0, .int .i64 0] rfl rfl hR5 rfl (entry_size9 _ _ _ _ _ _ _ _ _) HCO.out ?_; intro w9 hR9 hg9)
              obtain ⟨y0, y1, y2, y3, y4, y5, y6, y7, y8⟩ := box9 hR9
              refine bodyPost_ret (v := .tuple #[.agg #[.int .i64 3, .int .i64 z1, .string ⟨#[]⟩, .int .i64 0, .int .i64 0, .int .i64 0, .int .i64 0, .int .u32 0, .int .i64 0], .bool true]) (by simp [results, Tryd.results28, go_sem, y0, y1, y2, y3, y4, y5, y6, y7, y8]) rfl ⟨by rw [HRY.out]; rfl, hbw5.grown hg9 (by have := hbw5.size; omega) (by intro j hj; injection hj with hj; omega)⟩
            · have HNO : Hid (RE = none) := by
                show _ = _
                rw [HRF.out, ifRight, if_neg (fun h => hq0 (hq.trans h))]
              have hqn : (q != 0) = true := by simpa using hq0
              clear hq
              go_wp2_with (with_reducible refine wpList_store_box rfl _ _ _ rfl w.heap.size 37 #[.int .i64 0, .int .i64 0, .string ⟨#[]⟩, .int .i64 0, .int .i64 0, .int .i64 0, .int .i64 0, .int .u32 0, .int .i64 0] #[.int .i64 0, .int .i64 0, .string ⟨#[]⟩, .int .i64 0, .int .i64 0, .int .i64 0, .int .i64 0, .int .u32 0, .int .i64 0] rfl rfl hR5 rfl (entry_size9 _ _ _ _ _ _ _ _ _) zero_one ?_; intro w9 hR9 hg9)
              obtain ⟨y0, y1, y2, y3, y4, y5, y6, y7, y8⟩ := box9 hR9
              refine bodyPost_ret (v := .tuple #[.agg #[.int .i64 0, .int .i64 0, .string ⟨#[]⟩, .int .i64 0, .int .i64 0, .int .i64 0, .int .i64 0, .int .u32 0, .int .i64 0], .bool false]) (by simp [results, Tryd.results28, go_sem, y0, y1, y2, y3, y4, y5, y6, y7, y8]) rfl ⟨by rw [HNO.out]; rfl, hbw5.grown hg9 (by have := hbw5.size; omega) (by intro j hj; injection hj with hj; omega)⟩
          · have HNO : Hid (RE = none) := by
              show _ = _
              rw [HFN2.out, if_neg hlen]
            have hlb : ((ns.length : Int) != 2) = true := by rw [bne_iff_ne]; omega
            clear hlen
            go_wp2_with (with_reducible refine wpList_store_box rfl _ _ _ rfl w.heap.size 37 #[.int .i64 0, .int .i64 0, .string ⟨#[]⟩, .int .i64 0, .int .i64 0, .int .i64 0, .int .i64 0, .int .u32 0, .int .i64 0] #[.int .i64 0, .int .i64 0, .string ⟨#[]⟩, .int .i64 0, .int .i64 0, .int .i64 0, .int .i64 0, .int .u32 0, .int .i64 0] rfl rfl hR5 rfl (entry_size9 _ _ _ _ _ _ _ _ _) zero_one ?_; intro w9 hR9 hg9)
            obtain ⟨y0, y1, y2, y3, y4, y5, y6, y7, y8⟩ := box9 hR9
            refine bodyPost_ret (v := .tuple #[.agg #[.int .i64 0, .int .i64 0, .string ⟨#[]⟩, .int .i64 0, .int .i64 0, .int .i64 0, .int .i64 0, .int .u32 0, .int .i64 0], .bool false]) (by simp [results, Tryd.results28, go_sem, y0, y1, y2, y3, y4, y5, y6, y7, y8]) rfl ⟨by rw [HNO.out]; rfl, hbw5.grown hg9 (by have := hbw5.size; omega) (by intro j hj; injection hj with hj; omega)⟩
        · by_cases hk4 : kk = 4
          · subst hk4
            have HFN2 : Hid (RE = if ns.length = 2 then ifRight ⟨4, ns.getD 1 0, ⟨#[]⟩, 0, 0, 0, 0, 0, 0⟩ else none) := by
              show _ = _
              rw [HFN.out]
              unfold finish
              rw [HG0.out]
              rfl
            clear hk1
            by_cases hlen : ns.length = 2
            · have hl1 : 1 < ns.length := by omega
              have HRF : Hid (RE = ifRight ⟨4, ns[1]'hl1, ⟨#[]⟩, 0, 0, 0, 0, 0, 0⟩) := by
                have e : ns.getD 1 0 = ns[1]'hl1 := by rw [List.getD_eq_getElem?_getD, List.getElem?_eq_getElem hl1]; rfl
                show _ = _
                rw [HFN2.out, if_pos hlen, e]
              have hlb : ((ns.length : Int) != 2) = false := by rw [bne_eq_false_iff_eq]; omega
              clear hlen
              have f1 := hE5.frozen 1
              have hEn := hE5.set_ 1 (.int .i64 (ns[1]'hl1))
              simp only [List.setIfInBounds_toArray, List.set_cons_zero, List.set_cons_succ] at hEn
              have hRn := hR5.far (p := ⟨eb, 1, none⟩) (by show w.heap.size ≠ eb; omega) (.int .i64 (ns[1]'hl1))
              have hbn := hbw5.setCell (p := ⟨eb, 1, none⟩) (by show w.heap.size ≤ eb; omega) (.int .i64 (ns[1]'hl1))
              have n1 := HNS.out _ hO5 1 hl1
              go_upto_region 33 with (go_at_call 22; refine (ofClient_any _ _).mono ?_; rintro r wz ⟨rfl, rfl⟩)
              have hsn : eb < (w5.setCell ⟨eb, 1, none⟩ (.int .i64 (ns[1]'hl1))).heap.size := by simp; omega
              generalize w5.setCell ⟨eb, 1, none⟩ (.int .i64 (ns[1]'hl1)) = w7 at *
              clear n1 f1 hE5 hR5 hbw5 hs5 hO5
              have hE5 := hEn
              have hR5 := hRn
              have hbw5 := hbn
              have hs5 := hsn
              clear hEn hRn hbn hsn
              generalize ns[1]'hl1 = z1 at *
              clear e0 e1 e2 e3 e4 e5 e6 e7 e8
              obtain ⟨e0, e1, e2, e3, e4, e5, e6, e7, e8⟩ := box9 hE5
              go_wp2_with fail
              go_at_call 30
              refine (check_any (⟨4, z1, ⟨#[]⟩, 0, 0, 0, 0, 0, 0⟩ : En) _).mono ?_
              rintro r w8 ⟨rfl, hb8⟩
              have hR8 := hR5.below hb8 (by omega)
              have hE8 := hE5.below hb8 (by omega)
              have hbw8 := hbw5.trans (hb8.mono (by omega))
              have hs8 : eb < w8.heap.size := by have := hb8.size; omega
              clear e0 e1 e2 e3 e4 e5 e6 e7 e8 hb8 hE5 hR5 hbw5 hs5
              obtain ⟨q, hq⟩ : ∃ q, q = En.wrong (⟨4, z1, ⟨#[]⟩, 0, 0, 0, 0, 0, 0⟩ : En) := ⟨_, rfl⟩
              rw [← hq]
              have hR5 := hR8
              have hbw5 := hbw8
              clear hR8 hbw8
              by_cases hq0 : q = 0
              · have HRY : Hid (RE = some (⟨4, z1, ⟨#[]⟩, 0, 0, 0, 0, 0, 0⟩ : En)) := by
                  show _ = _
                  rw [HRF.out, ifRight, if_pos (hq.symm.trans hq0)]
                subst hq0
                clear hq
                obtain ⟨e0, e1, e2, e3, e4, e5, e6, e7, e8⟩ := box9 hE8
                have HCO : Hid ((#[.int .i64 4, .int .i64 z1, .string ⟨#[]⟩, .int .i64 0, .int .i64 0, .int .i64 0, .int .i64 0, .int .u32 0, .int .i64 0] : Array Value).all (·.oneCell') = true) := all_oneCell_toArray (cells_one (⟨4, z1, ⟨#[]⟩, 0, 0, 0, 0, 0, 0⟩ : En))
                go_wp2_with (with_reducible refine wpList_store_box rfl _ _ _ rfl w.heap.size 37 #[.int .i64 0, .int .i64 0, .string ⟨#[]⟩, .int .i64 0, .int .i64 0, .int .i64 0, .int .i64 0, .int .u32 0, .int .i64 0] #[.int .i64 4, .int .i64 z1, .string ⟨#[]⟩, .int .i64 0, .int .i64 0, .int .i64 0, .int .i64 0, .int .u32 0, .int .i64 0] rfl rfl hR5 rfl (entry_size9 _ _ _ _ _ _ _ _ _) HCO.out ?_; intro w9 hR9 hg9)
                obtain ⟨y0, y1, y2, y3, y4, y5, y6, y7, y8⟩ := box9 hR9
                refine bodyPost_ret (v := .tuple #[.agg #[.int .i64 4, .int .i64 z1, .string ⟨#[]⟩, .int .i64 0, .int .i64 0, .int .i64 0, .int .i64 0, .int .u32 0, .int .i64 0], .bool true]) (by simp [results, Tryd.results28, go_sem, y0, y1, y2, y3, y4, y5, y6, y7, y8]) rfl ⟨by rw [HRY.out]; rfl, hbw5.grown hg9 (by have := hbw5.size; omega) (by intro j hj; injection hj with hj; omega)⟩
              · have HNO : Hid (RE = none) := by
                  show _ = _
                  rw [HRF.out, ifRight, if_neg (fun h => hq0 (hq.trans h))]
                have hqn : (q != 0) = true := by simpa using hq0
                clear hq
                go_wp2_with (with_reducible refine wpList_store_box rfl _ _ _ rfl w.heap.size 37 #[.int .i64 0, .int .i64 0, .string ⟨#[]⟩, .int .i64 0, .int .i64 0, .int .i64 0, .int .i64 0, .int .u32 0, .int .i64 0] #[.int .i64 0, .int .i64 0, .string ⟨#[]⟩, .int .i64 0, .int .i64 0, .int .i64 0, .int .i64 0, .int .u32 0, .int .i64 0] rfl rfl hR5 rfl (entry_size9 _ _ _ _ _ _ _ _ _) zero_one ?_; intro w9 hR9 hg9)
                obtain ⟨y0, y1, y2, y3, y4, y5, y6, y7, y8⟩ := box9 hR9
                refine bodyPost_ret (v := .tuple #[.agg #[.int .i64 0, .int .i64 0, .string ⟨#[]⟩, .int .i64 0, .int .i64 0, .int .i64 0, .int .i64 0, .int .u32 0, .int .i64 0], .bool false]) (by simp [results, Tryd.results28, go_sem, y0, y1, y2, y3, y4, y5, y6, y7, y8]) rfl ⟨by rw [HNO.out]; rfl, hbw5.grown hg9 (by have := hbw5.size; omega) (by intro j hj; injection hj with hj; omega)⟩
            · have HNO : Hid (RE = none) := by
                show _ = _
                rw [HFN2.out, if_neg hlen]
              have hlb : ((ns.length : Int) != 2) = true := by rw [bne_iff_ne]; omega
              clear hlen
              go_wp2_with (with_reducible refine wpList_store_box rfl _ _ _ rfl w.heap.size 37 #[.int .i64 0, .int .i64 0, .string ⟨#[]⟩, .int .i64 0, .int .i64 0, .int .i64 0, .int .i64 0, .int .u32 0, .int .i64 0] #[.int .i64 0, .int .i64 0, .string ⟨#[]⟩, .int .i64 0, .int .i64 0, .int .i64 0, .int .i64 0, .int .u32 0, .int .i64 0] rfl rfl hR5 rfl (entry_size9 _ _ _ _ _ _ _ _ _) zero_one ?_; intro w9 hR9 hg9)
              obtain ⟨y0, y1, y2, y3, y4, y5, y6, y7, y8⟩ := box9 hR9
              refine bodyPost_ret (v := .tuple #[.agg #[.int .i64 0, .int .i64 0, .string ⟨#[]⟩, .int .i64 0, .int .i64 0, .int .i64 0, .int .i64 0, .int .u32 0, .int .i64 0], .bool false]) (by simp [results, Tryd.results28, go_sem, y0, y1, y2, y3, y4, y5, y6, y7, y8]) rfl ⟨by rw [HNO.out]; rfl, hbw5.grown hg9 (by have := hbw5.size; omega) (by intro j hj; injection hj with hj; omega)⟩
          · by_cases hk2 : kk = 2
            · subst hk2
              have HFN2 : Hid (RE = if ns.length = 6 then if ns.getD 5 0 < 0 ∨ 2147483648 ≤ ns.getD 5 0 then none else ifRight ⟨2, 0, ⟨#[]⟩, ns.getD 1 0, ns.getD 2 0, ns.getD 3 0, ns.getD 4 0, ns.getD 5 0, 0⟩ else none) := by
                show _ = _
                rw [HFN.out]
                unfold finish
                rw [HG0.out]
                rfl
              clear hk1
              by_cases hlen : ns.length = 6
              · have h1 : 1 < ns.length := by omega
                have h2 : 2 < ns.length := by omega
                have h3 : 3 < ns.length := by omega
                have h4 : 4 < ns.length := by omega
                have h5 : 5 < ns.length := by omega
                have n1 := HNS.out _ hO5 1 h1
                have n2 := HNS.out _ hO5 2 h2
                have n3 := HNS.out _ hO5 3 h3
                have n4 := HNS.out _ hO5 4 h4
                have n5 := HNS.out _ hO5 5 h5
                have HD : Hid (RE = if ns[5]'h5 < 0 ∨ (2147483648 : Int) ≤ ns[5]'h5 then none else ifRight ⟨2, 0, ⟨#[]⟩, ns[1]'h1, ns[2]'h2, ns[3]'h3, ns[4]'h4, ns[5]'h5, 0⟩) := by
                  have g : ∀ j (h : j < ns.length), ns.getD j 0 = ns[j]'h := fun j h => by rw [List.getD_eq_getElem?_getD, List.getElem?_eq_getElem h]; rfl
                  show _ = _
                  rw [HFN2.out, if_pos hlen, g 1 h1, g 2 h2, g 3 h3, g 4 h4, g 5 h5]
                have hlb : ((ns.length : Int) != 6) = false := by rw [bne_eq_false_iff_eq]; omega
                clear hlen HFN2
                generalize ns[1]'h1 = z1 at *
                generalize ns[2]'h2 = z2 at *
                generalize ns[3]'h3 = z3 at *
                generalize ns[4]'h4 = z4 at *
                generalize ns[5]'h5 = z5 at *
                go_upto_region 34 with (go_at_call 22; refine (ofClient_any _ _).mono ?_; rintro r wz ⟨rfl, rfl⟩)
                by_cases ht : z5 < 0 ∨ 2147483648 ≤ z5
                · have HNO : Hid (RE = none) := by
                    show _ = _
                    rw [HD.out, if_pos ht]
                  by_cases ht0 : z5 < 0
                  · clear ht
                    go_wp2_with (with_reducible refine wpList_store_box rfl _ _ _ rfl w.heap.size 37 #[.int .i64 0, .int .i64 0, .string ⟨#[]⟩, .int .i64 0, .int .i64 0, .int .i64 0, .int .i64 0, .int .u32 0, .int .i64 0] #[.int .i64 0, .int .i64 0, .string ⟨#[]⟩, .int .i64 0, .int .i64 0, .int .i64 0, .int .i64 0, .int .u32 0, .int .i64 0] rfl rfl hR5 rfl (entry_size9 _ _ _ _ _ _ _ _ _) zero_one ?_; intro w9 hR9 hg9)
                    obtain ⟨y0, y1, y2, y3, y4, y5, y6, y7, y8⟩ := box9 hR9
                    refine bodyPost_ret (v := .tuple #[.agg #[.int .i64 0, .int .i64 0, .string ⟨#[]⟩, .int .i64 0, .int .i64 0, .int .i64 0, .int .i64 0, .int .u32 0, .int .i64 0], .bool false]) (by simp [results, Tryd.results28, go_sem, y0, y1, y2, y3, y4, y5, y6, y7, y8]) rfl ⟨by rw [HNO.out]; rfl, hbw5.grown hg9 (by have := hbw5.size; omega) (by intro j hj; injection hj with hj; omega)⟩
                  · have ht1 : 2147483648 ≤ z5 := by omega
                    clear ht
                    go_wp2_with (with_reducible refine wpList_store_box rfl _ _ _ rfl w.heap.size 37 #[.int .i64 0, .int .i64 0, .string ⟨#[]⟩, .int .i64 0, .int .i64 0, .int .i64 0, .int .i64 0, .int .u32 0, .int .i64 0] #[.int .i64 0, .int .i64 0, .string ⟨#[]⟩, .int .i64 0, .int .i64 0, .int .i64 0, .int .i64 0, .int .u32 0, .int .i64 0] rfl rfl hR5 rfl (entry_size9 _ _ _ _ _ _ _ _ _) zero_one ?_; intro w9 hR9 hg9)
                    obtain ⟨y0, y1, y2, y3, y4, y5, y6, y7, y8⟩ := box9 hR9
                    refine bodyPost_ret (v := .tuple #[.agg #[.int .i64 0, .int .i64 0, .string ⟨#[]⟩, .int .i64 0, .int .i64 0, .int .i64 0, .int .i64 0, .int .u32 0, .int .i64 0], .bool false]) (by simp [results, Tryd.results28, go_sem, y0, y1, y2, y3, y4, y5, y6, y7, y8]) rfl ⟨by rw [HNO.out]; rfl, hbw5.grown hg9 (by have := hbw5.size; omega) (by intro j hj; injection hj with hj; omega)⟩
                · have HRF : Hid (RE = ifRight ⟨2, 0, ⟨#[]⟩, z1, z2, z3, z4, z5, 0⟩) := by
                    show _ = _
                    rw [HD.out, if_neg ht]
                  have ht0 : 0 ≤ z5 := by omega
                  have ht1 : z5 < 2147483648 := by omega
                  clear ht
                  go_upto_region 36 with (fail)
                  refine wp_region_still_tail 18 (by kernel_rfl) (by kernel_rfl) ?_
                  have hEq : Box w5.drew eb 37 #[.int .i64 2, .int .i64 0, .string ⟨#[]⟩, .int .i64 0, .int .i64 0, .int .i64 0, .int .i64 0, .int .u32 0, .int .i64 0] := hE5
                  have hRq : Box w5.drew w.heap.size 37 #[.int .i64 0, .int .i64 0, .string ⟨#[]⟩, .int .i64 0, .int .i64 0, .int .i64 0, .int .i64 0, .int .u32 0, .int .i64 0] := hR5
                  have hbq : Below w.heap.size w w5.drew := hbw5.drew
                  have hsq : eb < w5.drew.heap.size := hs5
                  have m1 : w5.drew.cell? ⟨gN, 1, none⟩ = some (.int .i64 z1) := n1
                  have m2 : w5.drew.cell? ⟨gN, 2, none⟩ = some (.int .i64 z2) := n2
                  have m3 : w5.drew.cell? ⟨gN, 3, none⟩ = some (.int .i64 z3) := n3
                  have m4 : w5.drew.cell? ⟨gN, 4, none⟩ = some (.int .i64 z4) := n4
                  have m5 : w5.drew.cell? ⟨gN, 5, none⟩ = some (.int .i64 z5) := n5
                  clear n1 n2 n3 n4 n5 e0 e1 e2 e3 e4 e5 e6 e7 e8 hO5
                  change wpStill _ _ w5.drew (fun a' => wpList _ _ _ _ a' w5.drew) _ _
                  generalize w5.drew = w7 at *
                  clear hE5 hR5 hbw5 hs5
                  simp only [List.take_succ_cons, List.take_zero, List.drop_succ_cons, List.drop_zero]
                  have q1 : (1 : Int) < (ns.length : Int) := by omega
                  have q2 : (2 : Int) < (ns.length : Int) := by omega
                  have q3 : (3 : Int) < (ns.length : Int) := by omega
                  have q4 : (4 : Int) < (ns.length : Int) := by omega
                  have q5 : (5 : Int) < (ns.length : Int) := by omega
                  iterate 18 still_step
                  clear q1 q2 q3 q4 q5
                  refine wpStill_nil ?_
                  refine wpList_store_box_at rfl _ _ _ rfl eb 37 3 _ #[.int .i64 z1, .int .i64 z2, .int .i64 z3, .int .i64 z4, .int .u32 z5, .int .i64 0] #[.int .i64 2, .int .i64 0, .string ⟨#[]⟩, .int .i64 z1, .int .i64 z2, .int .i64 z3, .int .i64 z4, .int .u32 z5, .int .i64 0] rfl ?_ hEq (by simp) inp_size6 inp_one6 rfl ?_
                  · first | rfl | (simp [Act.eval]; done) | (go_simp; rw [IntKind.wrap_u32]; omega)
                  intro w8 hE5 hg8
                  have hR5 := hRq.grown hg8 (by intro h; injection h with h; omega)
                  have hbw5 := hbq.grown hg8 (by have := hbq.size; omega) (by intro j hj; injection hj with hj; omega)
                  have hs5 : eb < w8.heap.size := by have := hg8.size; omega
                  clear hEq hRq hbq hsq m1 m2 m3 m4 m5 hg8
                  obtain ⟨e0, e1, e2, e3, e4, e5, e6, e7, e8⟩ := box9 hE5
                  clear e0 e1 e2 e3 e4 e5 e6 e7 e8
                  obtain ⟨e0, e1, e2, e3, e4, e5, e6, e7, e8⟩ := box9 hE5
                  go_wp2_with fail
                  go_at_call 30
                  refine (check_any (⟨2, 0, ⟨#[]⟩, z1, z2, z3, z4, z5, 0⟩ : En) _).mono ?_
                  rintro r w8 ⟨rfl, hb8⟩
                  have hR8 := hR5.below hb8 (by omega)
                  have hE8 := hE5.below hb8 (by omega)
                  have hbw8 := hbw5.trans (hb8.mono (by omega))
                  have hs8 : eb < w8.heap.size := by have := hb8.size; omega
                  clear e0 e1 e2 e3 e4 e5 e6 e7 e8 hb8 hE5 hR5 hbw5 hs5
                  obtain ⟨q, hq⟩ : ∃ q, q = En.wrong (⟨2, 0, ⟨#[]⟩, z1, z2, z3, z4, z5, 0⟩ : En) := ⟨_, rfl⟩
                  rw [← hq]
                  have hR5 := hR8
                  have hbw5 := hbw8
                  clear hR8 hbw8
                  by_cases hq0 : q = 0
                  · have HRY : Hid (RE = some (⟨2, 0, ⟨#[]⟩, z1, z2, z3, z4, z5, 0⟩ : En)) := by
                      show _ = _
                      rw [HRF.out, ifRight, if_pos (hq.symm.trans hq0)]
                    subst hq0
                    clear hq
                    obtain ⟨e0, e1, e2, e3, e4, e5, e6, e7, e8⟩ := box9 hE8
                    have HCO : Hid ((#[.int .i64 2, .int .i64 0, .string ⟨#[]⟩, .int .i64 z1, .int .i64 z2, .int .i64 z3, .int .i64 z4, .int .u32 z5, .int .i64 0] : Array Value).all (·.oneCell') = true) := all_oneCell_toArray (cells_one (⟨2, 0, ⟨#[]⟩, z1, z2, z3, z4, z5, 0⟩ : En))
                    go_wp2_with (with_reducible refine wpList_store_box rfl _ _ _ rfl w.heap.size 37 #[.int .i64 0, .int .i64 0, .string ⟨#[]⟩, .int .i64 0, .int .i64 0, .int .i64 0, .int .i64 0, .int .u32 0, .int .i64 0] #[.int .i64 2, .int .i64 0, .string ⟨#[]⟩, .int .i64 z1, .int .i64 z2, .int .i64 z3, .int .i64 z4, .int .u32 z5, .int .i64 0] rfl rfl hR5 rfl (entry_size9 _ _ _ _ _ _ _ _ _) HCO.out ?_; intro w9 hR9 hg9)
                    obtain ⟨y0, y1, y2, y3, y4, y5, y6, y7, y8⟩ := box9 hR9
                    refine bodyPost_ret (v := .tuple #[.agg #[.int .i64 2, .int .i64 0, .string ⟨#[]⟩, .int .i64 z1, .int .i64 z2, .int .i64 z3, .int .i64 z4, .int .u32 z5, .int .i64 0], .bool true]) (by simp [results, Tryd.results28, go_sem, y0, y1, y2, y3, y4, y5, y6, y7, y8]) rfl ⟨by rw [HRY.out]; rfl, hbw5.grown hg9 (by have := hbw5.size; omega) (by intro j hj; injection hj with hj; omega)⟩
                  · have HNO : Hid (RE = none) := by
                      show _ = _
                      rw [HRF.out, ifRight, if_neg (fun h => hq0 (hq.trans h))]
                    have hqn : (q != 0) = true := by simpa using hq0
                    clear hq
                    go_wp2_with (with_reducible refine wpList_store_box rfl _ _ _ rfl w.heap.size 37 #[.int .i64 0, .int .i64 0, .string ⟨#[]⟩, .int .i64 0, .int .i64 0, .int .i64 0, .int .i64 0, .int .u32 0, .int .i64 0] #[.int .i64 0, .int .i64 0, .string ⟨#[]⟩, .int .i64 0, .int .i64 0, .int .i64 0, .int .i64 0, .int .u32 0, .int .i64 0] rfl rfl hR5 rfl (entry_size9 _ _ _ _ _ _ _ _ _) zero_one ?_; intro w9 hR9 hg9)
                    obtain ⟨y0, y1, y2, y3, y4, y5, y6, y7, y8⟩ := box9 hR9
                    refine bodyPost_ret (v := .tuple #[.agg #[.int .i64 0, .int .i64 0, .string ⟨#[]⟩, .int .i64 0, .int .i64 0, .int .i64 0, .int .i64 0, .int .u32 0, .int .i64 0], .bool false]) (by simp [results, Tryd.results28, go_sem, y0, y1, y2, y3, y4, y5, y6, y7, y8]) rfl ⟨by rw [HNO.out]; rfl, hbw5.grown hg9 (by have := hbw5.size; omega) (by intro j hj; injection hj with hj; omega)⟩
              · have HNO : Hid (RE = none) := by
                  show _ = _
                  rw [HFN2.out, if_neg hlen]
                have hlb : ((ns.length : Int) != 6) = true := by rw [bne_iff_ne]; omega
                clear hlen
                go_wp2_with (with_reducible refine wpList_store_box rfl _ _ _ rfl w.heap.size 37 #[.int .i64 0, .int .i64 0, .string ⟨#[]⟩, .int .i64 0, .int .i64 0, .int .i64 0, .int .i64 0, .int .u32 0, .int .i64 0] #[.int .i64 0, .int .i64 0, .string ⟨#[]⟩, .int .i64 0, .int .i64 0, .int .i64 0, .int .i64 0, .int .u32 0, .int .i64 0] rfl rfl hR5 rfl (entry_size9 _ _ _ _ _ _ _ _ _) zero_one ?_; intro w9 hR9 hg9)
                obtain ⟨y0, y1, y2, y3, y4, y5, y6, y7, y8⟩ := box9 hR9
                refine bodyPost_ret (v := .tuple #[.agg #[.int .i64 0, .int .i64 0, .string ⟨#[]⟩, .int .i64 0, .int .i64 0, .int .i64 0, .int .i64 0, .int .u32 0, .int .i64 0], .bool false]) (by simp [results, Tryd.results28, go_sem, y0, y1, y2, y3, y4, y5, y6, y7, y8]) rfl ⟨by rw [HNO.out]; rfl, hbw5.grown hg9 (by have := hbw5.size; omega) (by intro j hj; injection hj with hj; omega)⟩
            · have b1 : (kk == 1) = false := by simpa using hk1
              have b2 : (kk == 2) = false := by simpa using hk2
              have b3 : (kk == 3) = false := by simpa using hk3
              have b4 : (kk == 4) = false := by simpa using hk4
              have HFN2 : Hid (RE = if ns.length = 1 then ifRight ⟨kk, 0, ⟨#[]⟩, 0, 0, 0, 0, 0, 0⟩ else none) := by
                show _ = _
                rw [HFN.out]
                unfold finish
                simp only [HG0.out, if_neg hk1, if_neg hk2, if_neg (show ¬ (kk = 3 ∨ kk = 4) from fun h => h.elim hk3 hk4)]
              clear hk1 hk2 hk3 hk4
              by_cases hlen : ns.length = 1
              · have HRF : Hid (RE = ifRight ⟨kk, 0, ⟨#[]⟩, 0, 0, 0, 0, 0, 0⟩) := by
                  show _ = _
                  rw [HFN2.out, if_pos hlen]
                have hlb : ((ns.length : Int) != 1) = false := by rw [bne_eq_false_iff_eq]; omega
                clear hlen
                go_upto_region 33 with (go_at_call 22; refine (ofClient_any _ _).mono ?_; rintro r wz ⟨rfl, rfl⟩)
                clear e0 e1 e2 e3 e4 e5 e6 e7 e8
                obtain ⟨e0, e1, e2, e3, e4, e5, e6, e7, e8⟩ := box9 hE5
                go_wp2_with fail
                go_at_call 30
                refine (check_any (⟨kk, 0, ⟨#[]⟩, 0, 0, 0, 0, 0, 0⟩ : En) _).mono ?_
                rintro r w8 ⟨rfl, hb8⟩
                have hR8 := hR5.below hb8 (by omega)
                have hE8 := hE5.below hb8 (by omega)
                have hbw8 := hbw5.trans (hb8.mono (by omega))
                have hs8 : eb < w8.heap.size := by have := hb8.size; omega
                clear e0 e1 e2 e3 e4 e5 e6 e7 e8 hb8 hE5 hR5 hbw5 hs5
                obtain ⟨q, hq⟩ : ∃ q, q = En.wrong (⟨kk, 0, ⟨#[]⟩, 0, 0, 0, 0, 0, 0⟩ : En) := ⟨_, rfl⟩
                rw [← hq]
                have hR5 := hR8
                have hbw5 := hbw8
                clear hR8 hbw8
                by_cases hq0 : q = 0
                · have HRY : Hid (RE = some (⟨kk, 0, ⟨#[]⟩, 0, 0, 0, 0, 0, 0⟩ : En)) := by
                    show _ = _
                    rw [HRF.out, ifRight, if_pos (hq.symm.trans hq0)]
                  subst hq0
                  clear hq
                  obtain ⟨e0, e1, e2, e3, e4, e5, e6, e7, e8⟩ := box9 hE8
                  have HCO : Hid ((#[.int .i64 kk, .int .i64 0, .string ⟨#[]⟩, .int .i64 0, .int .i64 0, .int .i64 0, .int .i64 0, .int .u32 0, .int .i64 0] : Array Value).all (·.oneCell') = true) := all_oneCell_toArray (cells_one (⟨kk, 0, ⟨#[]⟩, 0, 0, 0, 0, 0, 0⟩ : En))
                  go_wp2_with (with_reducible refine wpList_store_box rfl _ _ _ rfl w.heap.size 37 #[.int .i64 0, .int .i64 0, .string ⟨#[]⟩, .int .i64 0, .int .i64 0, .int .i64 0, .int .i64 0, .int .u32 0, .int .i64 0] #[.int .i64 kk, .int .i64 0, .string ⟨#[]⟩, .int .i64 0, .int .i64 0, .int .i64 0, .int .i64 0, .int .u32 0, .int .i64 0] rfl rfl hR5 rfl (entry_size9 _ _ _ _ _ _ _ _ _) HCO.out ?_; intro w9 hR9 hg9)
                  obtain ⟨y0, y1, y2, y3, y4, y5, y6, y7, y8⟩ := box9 hR9
                  refine bodyPost_ret (v := .tuple #[.agg #[.int .i64 kk, .int .i64 0, .string ⟨#[]⟩, .int .i64 0, .int .i64 0, .int .i64 0, .int .i64 0, .int .u32 0, .int .i64 0], .bool true]) (by simp [results, Tryd.results28, go_sem, y0, y1, y2, y3, y4, y5, y6, y7, y8]) rfl ⟨by rw [HRY.out]; rfl, hbw5.grown hg9 (by have := hbw5.size; omega) (by intro j hj; injection hj with hj; omega)⟩
                · have HNO : Hid (RE = none) := by
                    show _ = _
                    rw [HRF.out, ifRight, if_neg (fun h => hq0 (hq.trans h))]
                  have hqn : (q != 0) = true := by simpa using hq0
                  clear hq
                  go_wp2_with (with_reducible refine wpList_store_box rfl _ _ _ rfl w.heap.size 37 #[.int .i64 0, .int .i64 0, .string ⟨#[]⟩, .int .i64 0, .int .i64 0, .int .i64 0, .int .i64 0, .int .u32 0, .int .i64 0] #[.int .i64 0, .int .i64 0, .string ⟨#[]⟩, .int .i64 0, .int .i64 0, .int .i64 0, .int .i64 0, .int .u32 0, .int .i64 0] rfl rfl hR5 rfl (entry_size9 _ _ _ _ _ _ _ _ _) zero_one ?_; intro w9 hR9 hg9)
                  obtain ⟨y0, y1, y2, y3, y4, y5, y6, y7, y8⟩ := box9 hR9
                  refine bodyPost_ret (v := .tuple #[.agg #[.int .i64 0, .int .i64 0, .string ⟨#[]⟩, .int .i64 0, .int .i64 0, .int .i64 0, .int .i64 0, .int .u32 0, .int .i64 0], .bool false]) (by simp [results, Tryd.results28, go_sem, y0, y1, y2, y3, y4, y5, y6, y7, y8]) rfl ⟨by rw [HNO.out]; rfl, hbw5.grown hg9 (by have := hbw5.size; omega) (by intro j hj; injection hj with hj; omega)⟩
              · have HNO : Hid (RE = none) := by
                  show _ = _
                  rw [HFN2.out, if_neg hlen]
                have hlb : ((ns.length : Int) != 1) = true := by rw [bne_iff_ne]; omega
                clear hlen
                go_wp2_with (with_reducible refine wpList_store_box rfl _ _ _ rfl w.heap.size 37 #[.int .i64 0, .int .i64 0, .string ⟨#[]⟩, .int .i64 0, .int .i64 0, .int .i64 0, .int .i64 0, .int .u32 0, .int .i64 0] #[.int .i64 0, .int .i64 0, .string ⟨#[]⟩, .int .i64 0, .int .i64 0, .int .i64 0, .int .i64 0, .int .u32 0, .int .i64 0] rfl rfl hR5 rfl (entry_size9 _ _ _ _ _ _ _ _ _) zero_one ?_; intro w9 hR9 hg9)
                obtain ⟨y0, y1, y2, y3, y4, y5, y6, y7, y8⟩ := box9 hR9
                refine bodyPost_ret (v := .tuple #[.agg #[.int .i64 0, .int .i64 0, .string ⟨#[]⟩, .int .i64 0, .int .i64 0, .int .i64 0, .int .i64 0, .int .u32 0, .int .i64 0], .bool false]) (by simp [results, Tryd.results28, go_sem, y0, y1, y2, y3, y4, y5, y6, y7, y8]) rfl ⟨by rw [HNO.out]; rfl, hbw5.grown hg9 (by have := hbw5.size; omega) (by intro j hj; injection hj with hj; omega)⟩
end Go.Proofs.YtlgepoiaolhajaaDoor
