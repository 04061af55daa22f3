/-
  made, walked.
-/
import Derived.Test.YtlgepoiaolhajaaDoorReMade
import Derived.Deep.DeepCutAuto
namespace Go.Proofs.YtlgepoiaolhajaaDoor
open Go.RowKit

theorem Box.newAt {w : World} {b : Nat} {t : TypeId} {cs : Array Value} (h : b = w.heap.size) : Box (w.alloc (.cells cs t)) b t cs := by subst h; exact Box.new w t cs
theorem cut_in {p q : Prop} (hp : p) (h : p → q) : q := h hp
def MadePost (es : List En) (w : World) (r : Ending) (w' : World) : Prop :=
  ∃ tv m kp cd, r = .returned (.tuple #[.agg #[tv], m, kp, cd]) ∧ Below w.heap.size w w' ∧ Tapes w' tv (good es) ∧ Tapes w' m (good es) ∧ Tapes w' kp (good es) ∧ w'.ownsRow w.heap.size 38 1 cd es.length (codes es)

set_option maxHeartbeats 4000000 in
set_option maxRecDepth 100000 in
theorem made_any (es : List En) (A : Option Addr) (n c : Nat) (w : World) (hn : n = es.length) (hr : Reads w w.heap.size 9 A n (flat es)) (hm : n ≤ 8000) :
    Calls Tryd.prog 9 #[.slice A n c] w (MadePost es w) := by
  have HN := Lib.hid hn
  have HR := Lib.hid hr
  clear hn hr
  obtain ⟨i0, hi, hz0, hz1, hz2⟩ := info_parts entry_info
  obtain ⟨j0, hj, hy0, hy1, hy2⟩ := info_parts rentry_info
  obtain ⟨l0, hl, hx0, hx1, hx2⟩ := info_parts errno_info
  go_enter Tryd.func9, Tryd.ntmps9
  go_wp2
  have hM0 : Md w.heap.size (w.heap.size + 1) (.slice none 0 0) (.slice none 0 0) (.slice none 0 0) (.slice none 0 0) [] ((w.alloc (.cells #[.slice none 0 0] 26)).alloc (.cells #[.slice none 0 0] 26)) :=
    ⟨by simpa using Box.new (w.alloc (.cells #[.slice none 0 0] 26)) 26 #[.slice none 0 0], World.ownsRow_nil _ _ _ _, World.ownsRow_nil _ _ _ _, World.ownsRow_nil _ _ _ _, World.ownsRow_nil _ _ _ _, .inl rfl⟩
  have hB0 : Box ((w.alloc (.cells #[.slice none 0 0] 26)).alloc (.cells #[.slice none 0 0] 26)) w.heap.size 26 #[.slice none 0 0] := (Box.new w _ _).alloc _
  have HM0 := Lib.hid hM0
  have HB0 := Lib.hid hB0
  clear hM0 hB0
  have hb0 : Below w.heap.size w ((w.alloc (.cells #[.slice none 0 0] 26)).alloc (.cells #[.slice none 0 0] 26)) := ((Below.refl _ _).alloc (Nat.le_refl _) _).alloc (by simp) _
  have hsz0 : w.heap.size + 2 ≤ ((w.alloc (.cells #[.slice none 0 0] 26)).alloc (.cells #[.slice none 0 0] 26)).heap.size := by simp
  generalize ((w.alloc (.cells #[.slice none 0 0] 26)).alloc (.cells #[.slice none 0 0] 26)) = w0 at *
  go_loopw [7, 8, 9, 16] (fun m kp cd i wr => ∃ (k : Nat) (tv : Value), k ≤ n ∧ i = .int .i64 k ∧ Md w.heap.size (w.heap.size + 1) tv m kp cd (es.take k) wr ∧ Box wr w.heap.size 26 #[.slice none 0 0] ∧ Below w.heap.size w wr ∧ w.heap.size + 2 ≤ wr.heap.size) (fun _ _ _ i _ => n - (intOf i).toNat)
  case atStart => exact ⟨0, .slice none 0 0, by omega, rfl, by rw [List.take_zero]; exact HM0.out, HB0.out, hb0, hsz0⟩
  case round =>
    obtain ⟨k, tv, hk, rfl, hMd, hRes, hbr, hszr⟩ := hrel
    by_cases hlt : k < n
    · obtain ⟨b, o, rfl, hbb, ha⟩ := (HR.out.below hbr).entry HN.out hlt
      have hke : k < es.length := by have := HN.out; omega
      have HG := Lib.hid (good_snoc es k hke)
      have HC := Lib.hid (codes_snoc es k hke)
      have hgl := good_le (es.take k)
      have htl : (es.take k).length ≤ 8000 := by rw [List.length_take]; have := HN.out; omega
      have hpl : (es.take k).length = k := by rw [List.length_take]; omega
      have hpl1 : (es.take (k + 1)).length = k + 1 := by rw [List.length_take]; omega
      generalize hp1 : es.take (k + 1) = p1 at *
      generalize es.take k = p0 at *
      have HP1 := Lib.hid hp1
      have HPL := Lib.hid hpl
      have HPL1 := Lib.hid hpl1
      clear hp1 hpl hpl1
      generalize hek : es[k] = e at *
      have HEK := Lib.hid hek
      clear hek
      have hca := fun W v hv => add_any (good p0) e v W hv (by omega)
      have HCA := Lib.hid hca
      clear hca
      have HCW := Lib.hid (fun W => wrong_any e W)
      have HAC : Hid (addCode (good p0) e.wrong = e.wrong) := by
        show _ = _
        unfold addCode
        split
        · rfl
        · next h => rw [if_neg (by omega)]; simp at h; exact h.symm
      have HAD : Hid (e.wrong = 0 → added (good p0) e e.wrong = good p0 ++ [e]) := fun h => by
        unfold added; rw [HAC.out, if_pos h]
      obtain ⟨kk, cl, bs, a0, b0, c0, d0, t0, n0⟩ := e
      generalize hq : En.wrong _ = q at *
      have HQ := Lib.hid hq
      clear hq
      obtain ⟨a1, a2, a3, a4, a5, a6, a7, a8, a9⟩ := ha
      simp only at a1 a2 a3 a4 a5 a6 a7 a8 a9
      obtain ⟨x0, x0'⟩ := box1 hMd.box
      clear x0'
      have hlt1 : w.heap.size + 1 < wr.heap.size := by omega
      go_wp2_with fail
      have hW1 := (Below.refl wr.heap.size wr).alloc (Nat.le_refl _) (.cells #[.int .i64 kk, .int .i64 cl, .string bs, .int .i64 a0, .int .i64 b0, .int .i64 c0, .int .i64 d0, .int .u32 t0, .int .i64 n0] 37)
      have hMd1 := hMd.below hW1
      have hMdk := hMd.k
      have hRes1 := hRes.alloc (.cells #[.int .i64 kk, .int .i64 cl, .string bs, .int .i64 a0, .int .i64 b0, .int .i64 c0, .int .i64 d0, .int .u32 t0, .int .i64 n0] 37)
      have hE1 := Box.new wr 37 #[.int .i64 kk, .int .i64 cl, .string bs, .int .i64 a0, .int .i64 b0, .int .i64 c0, .int .i64 d0, .int .u32 t0, .int .i64 n0]
      have hb1 := hbr.trans (hW1.mono (by omega))
      have hs1 : wr.heap.size + 1 = (wr.alloc (.cells #[.int .i64 kk, .int .i64 cl, .string bs, .int .i64 a0, .int .i64 b0, .int .i64 c0, .int .i64 d0, .int .u32 t0, .int .i64 n0] 37)).heap.size := by simp
      generalize (wr.alloc (.cells #[.int .i64 kk, .int .i64 cl, .string bs, .int .i64 a0, .int .i64 b0, .int .i64 c0, .int .i64 d0, .int .u32 t0, .int .i64 n0] 37)) = w1 at *
      have HS1 := Lib.hid hs1
      clear hs1 hMd hW1 a1 a2 a3 a4 a5 a6 a7 a8 a9 x0 hRes hbr
      have hneE8 : some wr.heap.size ≠ u8.ownBlock := fun h => by have := (hMdk.lt _ h.symm).2; omega
      clear hMdk
      generalize wr.heap.size = be at *
      refine (HCA.out w1 tv (Tapes.of_own hMd1.t)).mono ?_
      rintro r w2 ⟨tv', rfl, hb2, htp, hno, hyes⟩
      rw [HAC.out]
      rw [HAC.out] at hno hyes
      obtain ⟨A', N', c', rfl⟩ : ∃ A' N' c', tv' = .slice A' N' c' := by
        obtain ⟨A', c', h, _⟩ := htp
        exact ⟨A', _, c', h⟩
      have hMd2 := hMd1.below hb2
      have hs2 := hb2.size
      have hbe : be < w1.heap.size := by have := HS1.out; omega
      have hE2 := hE1.below hb2 hbe
      have hRes2 := hRes1.below hb2 (by omega)
      have hbw2 := hb1.trans (hb2.mono (by have := hb1.size; omega))
      obtain ⟨y0, y1, y2, y3, y4, y5, y6, y7, y8⟩ := box9 hE2
      clear htp hE1 hRes1
      have hlt2 : be < w2.heap.size := by omega
      go_wp2_with fail
      have hW3 := (Below.refl w2.heap.size w2).alloc (Nat.le_refl _) (.cells #[.slice A' N' c'] 26)
      have hMd3 := hMd2.below hW3
      have hRes3 := hRes2.below hW3 (by omega)
      have hE3 := hE2.below hW3 hlt2
      have hU3 := Box.new w2 26 #[.slice A' N' c']
      have hbw3 := hbw2.trans (hW3.mono (by omega))
      have hs3 : w2.heap.size + 1 = (w2.alloc (.cells #[.slice A' N' c'] 26)).heap.size := by simp
      generalize (w2.alloc (.cells #[.slice A' N' c'] 26)) = w3 at *
      have HS3 := Lib.hid hs3
      clear hs3 y0 y1 y2 y3 y4 y5 y6 y7 y8
      refine (HCW.out w3).mono ?_
      rintro r w4 ⟨rfl, hb4⟩
      have hub : w2.heap.size < w3.heap.size := by have := HS3.out; omega
      have hMd4 := hMd3.below hb4
      have hRes4 := hRes3.below hb4 (by omega)
      have hE4 := hE3.below hb4 (by omega)
      have hU4 := hU3.below hb4 hub
      have hbw4 := hbw3.trans (hb4.mono (by have := hbw3.size; omega))
      have hs4 := hb4.size
      have hT4 : q = 0 → w4.ownsRow w1.heap.size 37 9 (.slice A' N' c') (added (good p0) ⟨kk, cl, bs, a0, b0, c0, d0, t0, n0⟩ q).length (flat (added (good p0) ⟨kk, cl, bs, a0, b0, c0, d0, t0, n0⟩ q)) := fun h => own_below (own_below (hyes h) hW3) hb4
      have HT4 := Lib.hid hT4
      have HNO := Lib.hid hno
      have HNE : Hid (q = 0 → (Value.slice A' N' c').ownBlock = none ∨ (Value.slice A' N' c').ownBlock ≠ u8.ownBlock) := fun h => own_fresh_ne (hyes h) hMd1.k
      clear hT4 hno hyes hW3 hE3 hU3 hRes3 hMd3 hb4 hbw3 hE2 hRes2 hMd2 hMd1 hb2 hbw2
      generalize w2.heap.size = ub at *
      by_cases hq0 : (q == 0) = true
      · have hq1 : q = 0 := by simpa using hq0
        have HT5 := Lib.hid (HT4.out hq1)
        have HNE5 := Lib.hid (HNE.out hq1)
        have HG1 : Hid (good p1 = good p0 ++ [⟨kk, cl, bs, a0, b0, c0, d0, t0, n0⟩]) := by
          show _ = _
          rw [HG.out, if_pos hq1]
        have HAD1 := Lib.hid (HAD.out hq1)
        have HQ1 := Lib.hid hq1
        clear hq1 HT4 HNE HAD HNO
        obtain ⟨e0, e1, e2, e3, e4, e5, e6, e7, e8⟩ := box9 hE4
        have hneE : some be ≠ u7.ownBlock := own_box_ne hMd4.m hE4 (by decide)
        have hbw4s := hbw4.size
        have hbel : be < w4.heap.size := by omega
        go_upto_if 28 with (fail)
        have hNM : ∀ j, w4.heap.size ≤ j → some j ≠ u7.ownBlock := fun j hj h => by have := (hMd4.m.lt j h.symm).2; omega
        have hNK : ∀ j, w4.heap.size ≤ j → some j ≠ u8.ownBlock := fun j hj h => by have := (hMd4.k.lt j h.symm).2; omega
        have hOM : u8.ownBlock = none ∨ u8.ownBlock ≠ u7.ownBlock := own_ne hMd4.k hMd4.m (by decide)
        have hOK : u7.ownBlock = none ∨ u7.ownBlock ≠ u8.ownBlock := own_ne hMd4.m hMd4.k (by decide)
        have HALL : Hid (∀ u ∈ ([.int .i64 kk, .int .i64 cl, .string bs, .int .i64 a0, .int .i64 b0, .int .i64 c0, .int .i64 d0, .int .u32 t0, .int .i64 n0] : List Value), u.oneCell' = true) := cells_one ⟨kk, cl, bs, a0, b0, c0, d0, t0, n0⟩
        go_cut [7, 8] (fun m' kp' wx => ∃ g1 g2 cap1 cap2 : Nat, m' = .slice (some ⟨g1, 0, none⟩) ((good p0).length + 1) cap1 ∧ kp' = .slice (some ⟨g2, 0, none⟩) ((good p0).length + 1) cap2 ∧ wx.ownsRow w.heap.size 35 9 m' ((good p0).length + 1) (flat (good p0) ++ [.int .i64 kk, .int .i64 cl, .string bs, .int .i64 a0, .int .i64 b0, .int .i64 c0, .int .i64 d0, .int .u32 t0, .int .i64 n0]) ∧ wx.ownsRow w.heap.size 37 9 kp' ((good p0).length + 1) (flat (good p0) ++ [.int .i64 kk, .int .i64 cl, .string bs, .int .i64 a0, .int .i64 b0, .int .i64 c0, .int .i64 d0, .int .u32 t0, .int .i64 n0]) ∧ (u8.ownBlock = some g2 ∨ w4.heap.size ≤ g2) ∧ Two u7.ownBlock u8.ownBlock w4 wx)
        case first =>
          go_wp2_with fail
          go_region_held3 (fun x => x.cell? ⟨be, 0, none⟩ = some (.int .i64 kk) ∧ x.cell? ⟨be, 1, none⟩ = some (.int .i64 cl) ∧ x.cell? ⟨be, 2, none⟩ = some (.string bs) ∧ x.cell? ⟨be, 3, none⟩ = some (.int .i64 a0) ∧ x.cell? ⟨be, 4, none⟩ = some (.int .i64 b0) ∧ x.cell? ⟨be, 5, none⟩ = some (.int .i64 c0) ∧ x.cell? ⟨be, 6, none⟩ = some (.int .i64 d0) ∧ x.cell? ⟨be, 7, none⟩ = some (.int .u32 t0) ∧ x.cell? ⟨be, 8, none⟩ = some (.int .i64 n0))
            (first | go_keep | (refine ⟨?_, ?_, ?_, ?_, ?_, ?_, ?_, ?_, ?_⟩ <;> (first | (rw [hgM.cell_far _ (by simp; omega) hneE]; first | assumption | go_keep) | (rw [hgK.cell_far _ (by simp; omega) hneE8]; first | assumption | go_keep))))
            (first
              | ((with_reducible show (if Region.wanted ⟨some 32, _, _, _, _, _⟩ _ = true then _ else _)); refine step_append_lies (o := ⟨some 32, _, _, _, _, _⟩) _ (by rfl) (.tmp 29) (.tmp 31) 27 (by rfl) w.heap.size 35 j0 _ 9 80 Tryd.underlying27 hj hy0 hy1 hy2 rfl (by omega) u7 (good p0).length (flat (good p0)) (by rfl) ?_ _ 1 1 [.int .i64 kk, .int .i64 cl, .string bs, .int .i64 a0, .int .i64 b0, .int .i64 c0, .int .i64 d0, .int .u32 t0, .int .i64 n0] (by rfl) (by rfl) ?_ HALL.out (by omega) (by simp only [maxLen]; omega) (by omega) ?_ _ rfl ?_; (repeat first | with_reducible exact hMd4.m | with_reducible assumption | with_reducible apply World.ownsRow.drew | with_reducible apply World.ownsRow.alloc); (refine World.news_of_block (cs := #[.int .i64 kk, .int .i64 cl, .string bs, .int .i64 a0, .int .i64 b0, .int .i64 c0, .int .i64 d0, .int .u32 t0, .int .i64 n0]) (t := 35) (fr := (0, 0)) ?_; show Box _ _ _ _; first | ((with_reducible refine Box.drew (Box.newAt ?_)); (focus (simp; done))) | ((with_reducible refine Box.newAt ?_); (focus (simp; done))) | ((with_reducible refine Box.drew (Box.alloc (Box.newAt ?_) _)); (focus (simp; done))) | ((with_reducible refine Box.alloc (Box.newAt ?_) _); (focus (simp; done))) | ((refine Box.grown (Box.drew (Box.newAt ?_)) hgK (hNK _ ?_)); (focus (simp; done)); (first | omega | (focus (simp; done)) | (simp; omega))) | ((refine Box.grown (Box.drew (Box.alloc (Box.newAt ?_) _)) hgK (hNK _ ?_)); (focus (simp; done)); (first | omega | (focus (simp; done)) | (simp; omega)))); (first | omega | (simp; omega)); intro gM capM wM hownM hgM hatM hltM; have hTM : Two u7.ownBlock u8.ownBlock w4 wM := Two.grown1 (by repeat first | with_reducible assumption | with_reducible exact Two.refl _ _ _ | with_reducible apply Two.drew | with_reducible apply Two.alloc) hgM; have hsM := hTM.size; (try (refine cut_in (p := wM.ownsRow w.heap.size 37 9 u8 (good p0).length (flat (good p0))) ?_ ?_; refine World.ownsRow.kept ?_ hgM hOM; (repeat first | with_reducible exact hMd4.k | with_reducible assumption | with_reducible apply World.ownsRow.drew | with_reducible apply World.ownsRow.alloc); intro hXM)); (try (refine cut_in (p := wM.ownsRow w.heap.size 37 9 (.slice (some ⟨gK, 0, none⟩) ((good p0).length + 1) capK) ((good p0).length + 1) (flat (good p0) ++ [.int .i64 kk, .int .i64 cl, .string bs, .int .i64 a0, .int .i64 b0, .int .i64 c0, .int .i64 d0, .int .u32 t0, .int .i64 n0])) ?_ ?_; refine World.ownsRow.kept ?_ hgM (own_ne hownK hXK (by decide)); (repeat first | with_reducible exact hownK | with_reducible apply World.ownsRow.drew | with_reducible apply World.ownsRow.alloc); intro hYM)))
              | ((with_reducible show (if Region.wanted ⟨some 36, _, _, _, _, _⟩ _ = true then _ else _)); refine step_append_lies (o := ⟨some 36, _, _, _, _, _⟩) _ (by rfl) (.tmp 33) (.tmp 35) 22 (by rfl) w.heap.size 37 i0 _ 9 80 Tryd.underlying22 hi hz0 hz1 hz2 rfl (by omega) u8 (good p0).length (flat (good p0)) (by rfl) ?_ _ 1 1 [.int .i64 kk, .int .i64 cl, .string bs, .int .i64 a0, .int .i64 b0, .int .i64 c0, .int .i64 d0, .int .u32 t0, .int .i64 n0] (by rfl) (by rfl) ?_ HALL.out (by omega) (by simp only [maxLen]; omega) (by omega) ?_ _ rfl ?_; (repeat first | with_reducible exact hMd4.k | with_reducible assumption | with_reducible apply World.ownsRow.drew | with_reducible apply World.ownsRow.alloc); (refine World.news_of_block (cs := #[.int .i64 kk, .int .i64 cl, .string bs, .int .i64 a0, .int .i64 b0, .int .i64 c0, .int .i64 d0, .int .u32 t0, .int .i64 n0]) (t := 37) (fr := (0, 0)) ?_; show Box _ _ _ _; first | ((with_reducible refine Box.drew (Box.newAt ?_)); (focus (simp; done))) | ((with_reducible refine Box.newAt ?_); (focus (simp; done))) | ((with_reducible refine Box.drew (Box.alloc (Box.newAt ?_) _)); (focus (simp; done))) | ((with_reducible refine Box.alloc (Box.newAt ?_) _); (focus (simp; done))) | ((refine Box.grown (Box.drew (Box.newAt ?_)) hgM (hNM _ ?_)); (focus (simp; done)); (first | omega | (focus (simp; done)) | (simp; omega))) | ((refine Box.grown (Box.drew (Box.alloc (Box.newAt ?_) _)) hgM (hNM _ ?_)); (focus (simp; done)); (first | omega | (focus (simp; done)) | (simp; omega)))); (first | omega | (simp; omega)); intro gK capK wK hownK hgK hatK hltK; have hTK : Two u7.ownBlock u8.ownBlock w4 wK := Two.grown2 (by repeat first | with_reducible assumption | with_reducible exact Two.refl _ _ _ | with_reducible apply Two.drew | with_reducible apply Two.alloc) hgK; have hsK := hTK.size; (try (refine cut_in (p := wK.ownsRow w.heap.size 35 9 u7 (good p0).length (flat (good p0))) ?_ ?_; refine World.ownsRow.kept ?_ hgK hOK; (repeat first | with_reducible exact hMd4.m | with_reducible assumption | with_reducible apply World.ownsRow.drew | with_reducible apply World.ownsRow.alloc); intro hXK)); (try (refine cut_in (p := wK.ownsRow w.heap.size 35 9 (.slice (some ⟨gM, 0, none⟩) ((good p0).length + 1) capM) ((good p0).length + 1) (flat (good p0) ++ [.int .i64 kk, .int .i64 cl, .string bs, .int .i64 a0, .int .i64 b0, .int .i64 c0, .int .i64 d0, .int .u32 t0, .int .i64 n0])) ?_ ?_; refine World.ownsRow.kept ?_ hgK (own_ne hownM hXM (by decide)); (repeat first | with_reducible exact hownM | with_reducible apply World.ownsRow.drew | with_reducible apply World.ownsRow.alloc); intro hYK))))
          all_goals
            have hgk : u8.ownBlock = some gK ∨ w4.heap.size ≤ gK := by
              rcases hatK with h | h
              · exact .inl h
              · refine .inr ?_
                rw [h]
                first | omega | (simp; omega) | simp
            clear hneE hneE8 hNM hNK
            go_wp2_with fail
            go_meet
            first
              | exact ⟨gM, gK, capM, capK, rfl, rfl, hYK, hownK, hgk, hTK⟩
              | exact ⟨gM, gK, capM, capK, rfl, rfl, hownM, hYM, hgk, hTM⟩
        case rest =>
          obtain ⟨g1, g2, cap1, cap2, rfl, rfl, hm', hk', hg2, hTw⟩ := hcut
          have hsw := hTw.size
          have hTbx := hTw.box hMd4.box (own_box_ne hMd4.m hMd4.box (by decide)) (own_box_ne hMd4.k hMd4.box (by decide))
          have hUbx := hTw.box hU4 (own_box_ne hMd4.m hU4 (by decide)) (own_box_ne hMd4.k hU4 (by decide))
          have hResx := hTw.box hRes4 (own_box_ne hMd4.m hRes4 (by decide)) (own_box_ne hMd4.k hRes4 (by decide))
          have hfl : flat (good p0) ++ [.int .i64 kk, .int .i64 cl, .string bs, .int .i64 a0, .int .i64 b0, .int .i64 c0, .int .i64 d0, .int .u32 t0, .int .i64 n0] = flat (good p1) := by rw [HG1.out]; simp [flat, En.cells]
          have hln : (good p0).length + 1 = (good p1).length := by rw [HG1.out]; simp
          rw [hfl] at hm' hk'
          have hT5 := HT5.out
          rw [HAD1.out, ← HG1.out] at hT5
          have htx := hTw.own hT5 (own_ne hT5 hMd4.m (by decide)) HNE5.out
          have hMqx : Mq w.heap.size (w.heap.size + 1) (.slice A' N' c') (.slice (some ⟨g1, 0, none⟩) ((good p0).length + 1) cap1) (.slice (some ⟨g2, 0, none⟩) ((good p0).length + 1) cap2) u9 (good p1) p0 wc := by
            refine ⟨⟨_, hTbx⟩, own_base htx (by have := hb1.size; omega), by rw [← hln]; exact hm', by rw [← hln]; exact hk', hTw.own hMd4.c (own_ne hMd4.c hMd4.m (by decide)) (own_ne hMd4.c hMd4.k (by decide)), ?_⟩
            rcases HNE5.out with h | h
            · exact .inl h
            · refine .inr fun e => ?_
              rcases hg2 with h2 | h2
              · exact h (e.trans (by rw [h2]; rfl))
              · have := (hT5.lt g2 e).2
                omega
          have hbwx := hbw4.trans (hTw.below (B := w.heap.size) hbw4s (fun j hj => (hMd4.m.lt j hj).1) (fun j hj => (hMd4.k.lt j hj).1))
          obtain ⟨u0, u0'⟩ := box1 hUbx
          clear u0' hfl hln
          have hneU : some ub ≠ u9.ownBlock := own_box_ne hMqx.c hUbx (by decide)
          have hneT : some (w.heap.size + 1) ≠ u9.ownBlock := own_box_ne hMqx.c hTbx (by decide)
          have hubl : ub < wc.heap.size := by omega
          clear hm' hk' hT5 htx hg2 hTw hOM hOK hNM hNK hneE hneE8 e0 e1 e2 e3 e4 e5 e6 e7 e8 hMd4 hRes4 hE4 hU4
          go_wp2
          go_region_held3 (fun x => x.cell? ⟨ub, 0, none⟩ = some (.slice A' N' c'))
            (first | go_keep | (rw [hgrow.cell_far _ (by simp; omega) hneU]; assumption) | (rw [World.cell?_setCell_other _ _ _ _ (by intro e; injection e with e1; omega)]; assumption))
            ((refine step_append_lies _ (by rfl) _ _ _ (by rfl) w.heap.size 38 l0 _ 1 8 Tryd.underlying28 hl hx0 hx1 hx2 rfl (by omega) u9 p0.length (codes p0) (by rfl) ((hMqx.c.alloc _).drew) ⟨wc.heap.size, 0, none⟩ 1 1 [.int .i64 q] (by rfl) (by rfl) (World.news_of_block (cs := #[.int .i64 q]) (t := 38) (fr := (0, 0)) (heap_alloc_new wc _)) (by simp [Value.oneCell']) (by omega) (by simp only [maxLen]; omega) (by omega) (by simp; omega) (wc.heap.size + 1) (by simp) ?_; intro gg cap' w5 hown5 hgrow hat hlt5; obtain ⟨z5, z5'⟩ := box1 (((hTbx.alloc _).drew).grown hgrow hneT)))
          have HF : Hid (Md w.heap.size (w.heap.size + 1) (.slice A' N' c') (.slice (some ⟨g1, 0, none⟩) ((good p0).length + 1) cap1) (.slice (some ⟨g2, 0, none⟩) ((good p0).length + 1) cap2) (.slice (some ⟨gg, 0, none⟩) (p0.length + 1) cap') p1 (w5.setCell ⟨w.heap.size + 1, 0, none⟩ (.slice A' N' c'))) :=
            Mq.done hMqx hgrow (by rw [HC.out, HPL1.out, ← HPL.out]; exact hown5) rfl
          have HR5 : Hid (Box (w5.setCell ⟨w.heap.size + 1, 0, none⟩ (.slice A' N' c')) w.heap.size 26 #[.slice none 0 0]) :=
            (((hResx.alloc _).drew).grown hgrow (own_box_ne hMqx.c hResx (by decide))).far (by simp) _
          have hb5 : Below w.heap.size w (w5.setCell ⟨w.heap.size + 1, 0, none⟩ (.slice A' N' c')) := (((hbwx.alloc (by have := hbwx.size; omega) _).drew).grown hgrow (by simp; omega) (fun j hj => (hMqx.c.lt j hj).1)).setCell (by simp) _
          have hs5 : w.heap.size + 2 ≤ w5.heap.size := by have := hgrow.size; simp at this; omega
          clear hgrow hat z5 z5' u0 hMqx hown5 hResx hTbx hUbx hbwx
          go_wp2
          go_roundw
          case rel => exact ⟨k + 1, _, by omega, by go_num, by rw [HP1.out]; exact HF.out, HR5.out, hb5, by simpa using hs5⟩
          case measure => simp [intOf]; omega
      · have hq1 : (q == 0) = false := by simpa using hq0
        have hqn : q ≠ 0 := by simpa using hq0
        obtain ⟨u0, u0'⟩ := box1 hU4
        clear u0'
        have hneU : some ub ≠ u9.ownBlock := own_box_ne hMd4.c hU4 (by decide)
        have hneT : some (w.heap.size + 1) ≠ u9.ownBlock := own_box_ne hMd4.c hMd4.box (by decide)
        have hbw4s := hbw4.size
        have hubl : ub < w4.heap.size := by omega
        go_wp2
        go_region_held3 (fun x => x.cell? ⟨ub, 0, none⟩ = some (.slice A' N' c'))
          (first | go_keep | (rw [hgrow.cell_far _ (by simp; omega) hneU]; assumption) | (rw [World.cell?_setCell_other _ _ _ _ (by intro e; injection e with e1; omega)]; assumption))
          ((refine step_append_lies _ (by rfl) _ _ _ (by rfl) w.heap.size 38 l0 _ 1 8 Tryd.underlying28 hl hx0 hx1 hx2 rfl (by omega) u9 p0.length (codes p0) (by rfl) ((hMd4.c.alloc _).drew) ⟨w4.heap.size, 0, none⟩ 1 1 [.int .i64 q] (by rfl) (by rfl) (World.news_of_block (cs := #[.int .i64 q]) (t := 38) (fr := (0, 0)) (heap_alloc_new w4 _)) (by simp [Value.oneCell']) (by omega) (by simp only [maxLen]; omega) (by omega) (by simp; omega) (w4.heap.size + 1) (by simp) ?_; intro gg cap' w5 hown5 hgrow hat hlt5; obtain ⟨z5, z5'⟩ := box1 (((hMd4.box.alloc _).drew).grown hgrow hneT)))
        have HG1 : Hid (good p0 = good p1) := by
          show _ = _
          rw [HG.out, if_neg hqn]
        have htv : Value.slice A' N' c' = tv := HNO.out hqn
        rw [← htv] at hMd4
        have HF : Hid (Md w.heap.size (w.heap.size + 1) (.slice A' N' c') u7 u8 (.slice (some ⟨gg, 0, none⟩) (p0.length + 1) cap') p1 (w5.setCell ⟨w.heap.size + 1, 0, none⟩ (.slice A' N' c'))) :=
          Mq.done ⟨⟨_, hMd4.box⟩, hMd4.t, hMd4.m, hMd4.k, hMd4.c, hMd4.ne⟩ hgrow (by rw [HC.out, HPL1.out, ← HPL.out]; exact hown5) HG1.out
        have HR5 : Hid (Box (w5.setCell ⟨w.heap.size + 1, 0, none⟩ (.slice A' N' c')) w.heap.size 26 #[.slice none 0 0]) :=
          (((hRes4.alloc _).drew).grown hgrow (own_box_ne hMd4.c hRes4 (by decide))).far (by simp) _
        have hb5 : Below w.heap.size w (w5.setCell ⟨w.heap.size + 1, 0, none⟩ (.slice A' N' c')) := (((hbw4.alloc hbw4s _).drew).grown hgrow (by simp; omega) (fun j hj => (hMd4.c.lt j hj).1)).setCell (by simp) _
        have hs5 : w.heap.size + 2 ≤ w5.heap.size := by have := hgrow.size; simp at this; omega
        clear hgrow hat z5 z5' u0 hMd4 hRes4 hE4 hU4 hown5 htv
        go_wp2
        go_roundw
        case rel => exact ⟨k + 1, _, by omega, by go_num, by rw [HP1.out]; exact HF.out, HR5.out, hb5, by simpa using hs5⟩
        case measure => simp [intOf]; omega
    · have hke : k = es.length := by have := HN.out; omega
      rw [hke, List.take_length] at hMd
      clear hke
      obtain ⟨x0, x0'⟩ := box1 hMd.box
      obtain ⟨y0, y0'⟩ := box1 hRes
      obtain ⟨A1, N1, c1, rfl⟩ : ∃ A1 N1 c1, tv = .slice A1 N1 c1 := by
        obtain ⟨A1, c1, h, _⟩ := Tapes.of_own hMd.t
        exact ⟨A1, _, c1, h⟩
      go_wp2
      have hbf := hbr.setCell (p := ⟨w.heap.size, 0, none⟩) (Nat.le_refl _) (.slice A1 N1 c1)
      have hf : ∀ {e : TypeId} {z n : Nat} {v : Value} {xs : List Value}, wr.ownsRow w.heap.size e z v n xs → e ≠ 26 → (wr.setCell ⟨w.heap.size, 0, none⟩ (.slice A1 N1 c1)).ownsRow w.heap.size e z v n xs := fun h hne => own_far h (own_box_ne h hRes hne)
      refine bodyPost_ret (v := .tuple #[.agg #[.slice A1 N1 c1], u7, u8, u9]) (by simp [results, Tryd.results9, go_sem, y0]) rfl ⟨_, _, _, _, rfl, hbf, Tapes.of_own (hf hMd.t (by decide)), Tapes.of_own (hf hMd.m (by decide)), Tapes.of_own (hf hMd.k (by decide)), hf hMd.c (by decide)⟩
end Go.Proofs.YtlgepoiaolhajaaDoor
