/-
  The record layer's Read, walked: what it answers of a text.
-/
import Derived.Test.YtlgepoiaolhajaaDoorReEnt1
import Derived.Test.YtlgepoiaolhajaaDoorReRd
namespace Go.Proofs.YtlgepoiaolhajaaDoor
open Go.RowKit

def Rs.es : Rs → List En | .good es => es | .bad _ _ => []
def Rs.line : Rs → Int | .good _ => 0 | .bad n _ => n
def Rs.code : Rs → Int | .good _ => 0 | .bad _ c => c
def ReadPost (rs : Rs) (w : World) (r : Ending) (w' : World) : Prop :=
  ∃ v, r = .returned (.tuple #[.agg #[v], .int .i64 rs.line, .int .i64 rs.code]) ∧ Tapes w' v rs.es ∧ Below w.heap.size w w'
def sizeOfStr : Value → Nat | .string b => b.size | _ => 0

/-- Where the loop of Read stands. -/
structure Rdg (rs : Rs) (n : Nat) (w : World) (k : Nat) (lb : ByteArray) (tv : Value) (es : List En) (wr : World) : Prop where
  res : rs = Rs.behind es (rdFrom k lb.data.toList)
  len : es.length = k
  le : k ≤ 8192
  sz : lb.size ≤ n
  box : Box wr (w.heap.size + 1) 26 #[tv]
  rbox : Box wr w.heap.size 26 #[.slice none 0 0]
  own : wr.ownsRow w.heap.size 37 9 tv k (flat es)
  env : Env wr
  bel : Below w.heap.size w wr
theorem Rdg.below {rs : Rs} {n : Nat} {w : World} {k : Nat} {lb : ByteArray} {tv : Value} {es : List En} {wr wr' : World} (h : Rdg rs n w k lb tv es wr) (hs : w.heap.size + 1 < wr.heap.size) (hb : Below wr.heap.size wr wr') : Rdg rs n w k lb tv es wr' :=
  ⟨h.res, h.len, h.le, h.sz, h.box.below hb hs, h.rbox.below hb (by omega), own_below h.own hb, h.env.below hb, h.bel.trans (hb.mono (by omega))⟩
theorem flat_snoc (es : List En) (e : En) : flat (es ++ [e]) = flat es ++ e.cells := by simp [flat]

set_option maxHeartbeats 1000000 in
set_option maxRecDepth 100000 in
theorem read_any (s : ByteArray) (w : World) (hs : s.size ≤ 16777216) (h : Env w) :
    Calls Tryd.prog 14 #[.string s] w (ReadPost (rdFrom 0 s.data.toList) w) := by
  obtain ⟨i0, hi, hz0, hz1, hz2⟩ := info_parts entry_info
  obtain ⟨RS, hRS⟩ : ∃ RS, RS = rdFrom 0 s.data.toList := ⟨_, rfl⟩
  rw [← hRS]
  have HST : Hid (Rdg RS s.size w 0 s (.slice none 0 0) [] ((w.alloc (.cells #[.slice none 0 0] 26)).alloc (.cells #[.slice none 0 0] 26))) := by
    have hb : Below w.heap.size w ((w.alloc (.cells #[.slice none 0 0] 26)).alloc (.cells #[.slice none 0 0] 26)) := ((Below.refl _ _).alloc (Nat.le_refl _) _).alloc (by simp) _
    refine ⟨by rw [hRS, behind_nil], rfl, by omega, Nat.le_refl _, ?_, (Box.new _ _ _).alloc _, World.ownsRow_nil _ _ _ _, h.below hb, hb⟩
    have := Box.new (w.alloc (.cells #[.slice none 0 0] 26)) 26 #[.slice none 0 0]
    simpa using this
  have HENV := Lib.hid h
  clear hRS h
  have hlong : ¬ (16777216 : Int) < (s.size : Int) := by omega
  go_enter Tryd.func14, Tryd.ntmps14
  go_wp2_with fail
  go_loopw [0, 6, 7, 8, 9, 10] (fun t i _ _ _ _ wr => ∃ k lb tv es, Rdg RS s.size w k lb tv es wr ∧ w.heap.size + 1 < wr.heap.size ∧ t = .string lb ∧ i = .int .i64 ((k : Int) + 1)) (fun t _ _ _ _ _ _ => sizeOfStr t)
  case atStart => exact ⟨0, s, _, [], HST.out, by simp, rfl, rfl⟩
  case round =>
    obtain ⟨k, lb, tv, es, hrd, hsz, rfl, rfl⟩ := hrel
    have HRD := Lib.hid hrd
    have hk := hrd.le
    have hls := hrd.sz
    obtain ⟨b0, b1⟩ := box1 hrd.box
    obtain ⟨r0, r1⟩ := box1 hrd.rbox
    have hB := hrd.bel
    obtain ⟨A, c, htv⟩ : ∃ A c, tv = .slice A k c := by
      have ho := hrd.own
      rw [← hrd.len] at ho
      obtain ⟨A, c, e, _⟩ := Tapes.of_own ho
      exact ⟨A, c, by rw [e, hrd.len]⟩
    subst htv
    clear hrd HST
    by_cases he : lb.data.toList = []
    · have h1 : lb.toList.isEmpty = true := by rw [toList_isEmpty_data, he]; rfl
      have HFIN : Hid (RS.es = es ∧ RS.line = 0 ∧ RS.code = 0) := by
        have := HRD.out.res
        rw [he, rdFrom_nil] at this
        show _ ∧ _
        rw [this]
        simp [Rs.behind, Rs.es, Rs.line, Rs.code]
      clear he
      go_wp2_with fail
      have hne := own_box_ne HRD.out.own HRD.out.rbox (by decide)
      have hown := own_far (u := .slice A k c) (p := ⟨w.heap.size, 0, none⟩) HRD.out.own hne
      have hlen := HRD.out.len
      rw [← hlen] at hown
      refine bodyPost_ret (v := .tuple #[.agg #[.slice A k c], .int .i64 0, .int .i64 0]) (by simp [results, Tryd.results14, go_sem, r0, r1]) rfl ⟨_, by rw [HFIN.out.2.1, HFIN.out.2.2], ?_, hB.setCell (Nat.le_refl _) _⟩
      rw [HFIN.out.1]
      have := Tapes.of_own hown
      rw [hlen] at this
      exact this
    · have h1 : lb.toList.isEmpty = false := by
        rw [toList_isEmpty_data]
        cases h : lb.data.toList with
        | nil => exact absurd h he
        | cons a b => rfl
      have HNE := Lib.hid he
      clear he
      go_wp2_with fail
      go_at_call 27
      refine (cut_any lb _ (by omega) HRD.out.env).mono ?_
      rintro r w1 ⟨⟨nd, rfl⟩, hc⟩
      have hbd : Below wr.heap.size wr (wr.drewN nd) := below_drewN' (Below.refl _ _) nd
      have HR1 := Lib.hid (HRD.out.below hsz hbd)
      have hsz1 : w.heap.size + 1 < (wr.drewN nd).heap.size := hsz
      generalize wr.drewN nd = w1 at *
      clear hbd HRD hB b0 b1 r0 r1 hsz
      obtain ⟨b0, b1⟩ := box1 HR1.out.box
      obtain ⟨r0, r1⟩ := box1 HR1.out.rbox
      have hB := HR1.out.bel
      rcases hc with ⟨a, b, hab, hna, rfl⟩ | ⟨hno, rfl⟩
      · have hal : a.length ≤ lb.size ∧ b.length < lb.size := by
          have := congrArg List.length hab
          simp at this
          omega
        obtain ⟨ab, hab'⟩ : ∃ ab : ByteArray, ab = ⟨a.toArray⟩ := ⟨_, rfl⟩
        obtain ⟨bb, hbb'⟩ : ∃ bb : ByteArray, bb = ⟨b.toArray⟩ := ⟨_, rfl⟩
        rw [← hab', ← hbb']
        have hasz : ab.size ≤ lb.size := by rw [hab']; show a.toArray.size ≤ _; simp; omega
        have hbsz : bb.size < lb.size := by rw [hbb']; show b.toArray.size < _; simp; omega
        have had : ab.data.toList = a := by rw [hab']
        have hbd : bb.data.toList = b := by rw [hbb']
        have HRS : Hid (RS = Rs.behind es (match recEntry a with | none => .bad (k + 1) 2 | some e => if 8192 < k + 1 then .bad (k + 1) 12 else Rs.onto e (rdFrom (k + 1) bb.data.toList))) := by
          have := HR1.out.res
          rw [hab, rdFrom_cons k a b hna, ← hbd] at this
          exact this
        have HEA := Lib.hid (fun W (hW : Env W) => entry_any ab W (by omega) hW)
        rw [had] at HEA
        clear hab hna hab' hbb' had hbd hal HNE
        go_wp2_with fail
        go_at_call 28
        refine (HEA.out _ HR1.out.env).mono ?_
        rintro r w2 ⟨rfl, hb2⟩
        have HR2 := Lib.hid (HR1.out.below hsz1 hb2)
        have hsz2 : w.heap.size + 1 < w2.heap.size := by have := hb2.size; omega
        have hsz3 : w.heap.size < w2.heap.size := by omega
        clear HR1 HEA hB b0 b1 r0 r1 hb2
        obtain ⟨b0, b1⟩ := box1 HR2.out.box
        obtain ⟨r0, r1⟩ := box1 HR2.out.rbox
        have hB := HR2.out.bel
        cases ho : recEntry a with
        | none =>
          simp only [Option.getD_none, Option.isSome_none, zeroEn, En.val]
          have HFIN : Hid (RS = .bad (k + 1) 2) := by
            have := HRS.out
            rw [ho] at this
            exact this
          clear ho HRS
          go_wp2_with fail
          refine bodyPost_ret (v := .tuple #[.agg #[.slice none 0 0], .int .i64 ((k : Int) + 1), .int .i64 2]) (by simp [results, Tryd.results14, go_sem, r0, r1, hsz3]) rfl ⟨.slice none 0 0, ?_, ?_, (hB.setCell (p := ⟨w.heap.size, 0, none⟩) (Nat.le_refl _) _).alloc (by simp; omega) _⟩
          · rw [HFIN.out]; rfl
          · rw [HFIN.out]; exact Tapes.nil _
        | some e =>
          obtain ⟨ek, ec, eb, e1, e2, e3, e4, e5, e6⟩ := e
          simp only [Option.getD_some, Option.isSome_some, En.val]
          have HRS2 : Hid (RS = Rs.behind es (if 8192 < k + 1 then .bad (k + 1) 12 else Rs.onto ⟨ek, ec, eb, e1, e2, e3, e4, e5, e6⟩ (rdFrom (k + 1) bb.data.toList))) := by
            have := HRS.out
            rw [ho] at this
            exact this
          clear ho HRS
          by_cases h8 : 8192 < k + 1
          · have HFIN : Hid (RS = .bad (k + 1) 12) := by
              have := HRS2.out
              rw [if_pos h8] at this
              exact this
            have h8' : (8192 : Int) < (k : Int) + 1 := by omega
            clear HRS2 h8
            go_wp2_with fail
            refine bodyPost_ret (v := .tuple #[.agg #[.slice none 0 0], .int .i64 ((k : Int) + 1), .int .i64 12]) (by simp [results, Tryd.results14, go_sem, r0, r1, hsz3]) rfl ⟨.slice none 0 0, ?_, ?_, (hB.setCell (p := ⟨w.heap.size, 0, none⟩) (Nat.le_refl _) _).alloc (by simp; omega) _⟩
            · rw [HFIN.out]; rfl
            · rw [HFIN.out]; exact Tapes.nil _
          · have HRS3 : Hid (RS = Rs.behind (es ++ [⟨ek, ec, eb, e1, e2, e3, e4, e5, e6⟩]) (rdFrom (k + 1) bb.data.toList)) := by
              have := HRS2.out
              rw [if_neg h8, behind_onto] at this
              exact this
            have h8' : ¬ (8192 : Int) < (k : Int) + 1 := by omega
            have h8k : k < 8192 := by omega
            have HALL := Lib.hid (cells_one ⟨ek, ec, eb, e1, e2, e3, e4, e5, e6⟩)
            have hown2 := HR2.out.own
            have hne := own_box_ne HR2.out.own HR2.out.box (by decide)
            have hner := own_box_ne HR2.out.own HR2.out.rbox (by decide)
            clear HRS2 h8
            go_wp2_with (at_builtin; refine wpList_append_own _ rfl _ _ 22 rfl w.heap.size 37 i0 _ 9 80 Tryd.underlying22 hi hz0 hz1 hz2 rfl (by decide) _ _ _ rfl ((hown2.alloc _).alloc _) ⟨w2.heap.size + 1, 0, none⟩ 1 1 [.int .i64 ek, .int .i64 ec, .string eb, .int .i64 e1, .int .i64 e2, .int .i64 e3, .int .i64 e4, .int .u32 e5, .int .i64 e6] rfl rfl ?_ HALL.out (by unfold maxLen; omega) (by omega) (by simp; omega) ?_)
            intro v3 w3 hown3 hg3 _
            have HO3 : Hid (w3.ownsRow w.heap.size 37 9 v3 (k + 1) (flat (es ++ [⟨ek, ec, eb, e1, e2, e3, e4, e5, e6⟩]))) := by
              rw [flat_snoc]; exact hown3
            have hbox3 := ((HR2.out.box.alloc _).alloc _).grown hg3 hne
            have hrbox3 := ((HR2.out.rbox.alloc _).alloc _).grown hg3 hner
            have hB3 : Below w.heap.size w w3 := ((hB.alloc (by omega) _).alloc (by simp; omega) _).grown hg3 (by simp; omega) (fun j hj => (hown2.lt j hj).1)
            have hsz4 : w.heap.size + 1 < w3.heap.size := by have := hg3.size; simp at this; omega
            obtain ⟨g3, cap3, hv3, _, _⟩ := hown3.form (by omega)
            subst hv3
            clear hown3 hg3 b0 b1 r0 r1 hB hsz3 hsz2
            obtain ⟨b0, b1⟩ := box1 hbox3
            go_wp2_with fail
            go_roundw
            case rel =>
              refine ⟨k + 1, bb, _, es ++ [⟨ek, ec, eb, e1, e2, e3, e4, e5, e6⟩], ⟨HRS3.out, by rw [List.length_append, HR2.out.len]; rfl, by omega, by omega, ?_, hrbox3.far (by simp) _, own_far HO3.out (own_box_ne HO3.out hbox3 (by decide)), ?_, ?_⟩, by simpa using hsz4, rfl, by go_num⟩
              · exact hbox3.set_ 0 _
              · exact HENV.out.below (hB3.setCell (by simp) _)
              · exact hB3.setCell (by simp) _
            case measure => simp only [sizeOfStr]; omega
      · have HFIN : Hid (RS = .bad (k + 1) 2) := by
          have := HR1.out.res
          rw [rdFrom_none k _ hno HNE.out] at this
          exact this
        have hsz3 : w.heap.size < w1.heap.size := by omega
        clear hno HNE
        go_wp2_with fail
        refine bodyPost_ret (v := .tuple #[.agg #[.slice none 0 0], .int .i64 ((k : Int) + 1), .int .i64 2]) (by simp [results, Tryd.results14, go_sem, r0, r1, hsz3]) rfl ⟨.slice none 0 0, ?_, ?_, hB.setCell (Nat.le_refl _) _⟩
        · rw [HFIN.out]; rfl
        · rw [HFIN.out]; exact Tapes.nil _
end Go.Proofs.YtlgepoiaolhajaaDoor
