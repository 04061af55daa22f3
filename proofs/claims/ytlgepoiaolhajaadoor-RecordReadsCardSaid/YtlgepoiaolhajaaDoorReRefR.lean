/-
  The reference's Read, walked: what it answers of a text.
-/
import Derived.Test.YtlgepoiaolhajaaDoorReRefE
import Derived.Test.YtlgepoiaolhajaaDoorReRead
namespace Go.Proofs.YtlgepoiaolhajaaDoor
open Go.RowKit

def RefReadPost (rs : Rs) (w : World) (r : Ending) (w' : World) : Prop :=
  ∃ v, r = .returned (.tuple #[v, .int .i64 rs.line, .int .i64 rs.code]) ∧ Tapes w' v rs.es ∧ Below w.heap.size w w'

/-- Where the loop of the reference's Read stands: at k; a line began at f. -/
structure Rrg (rs : Rs) (l : List UInt8) (w : World) (k f : Nat) (v : Value) (es : List En) (wr : World) : Prop where
  res : rs = Rs.behind es (rdFrom es.length (l.drop f))
  fk : f ≤ k
  kl : k ≤ l.length
  no : (10 : UInt8) ∉ (l.take k).drop f
  le : es.length ≤ 8192
  own : wr.ownsRow w.heap.size 35 9 v es.length (flat es)
  bel : Below w.heap.size w wr

set_option maxHeartbeats 4000000 in
set_option maxRecDepth 100000 in
theorem rread_any (s : ByteArray) (w : World) (hs : s.size ≤ 100000) :
    Calls Tryd.prog 16 #[.string s] w (RefReadPost (rdFrom 0 s.data.toList) w) := by
  obtain ⟨i0, hi, hz0, hz1, hz2⟩ := info_parts rentry_info
  have HL : Hid (s.data.toList.length = s.size) := by show _ = _; simp
  obtain ⟨RS, hRS⟩ : ∃ RS, RS = rdFrom 0 s.data.toList := ⟨_, rfl⟩
  rw [← hRS]
  have HST : Hid (Rrg RS s.data.toList w 0 0 (.slice none 0 0) [] w) :=
    ⟨by rw [hRS, behind_nil]; rfl, by omega, by omega, by simp, by simp, World.ownsRow_nil _ _ _ _, Below.refl _ _⟩
  clear hRS
  have hlong : ¬ (16777216 : Int) < (s.size : Int) := by omega
  go_enter Tryd.func16, Tryd.ntmps16
  go_wp2_with fail
  go_loopw [5, 6, 7, 8, 9, 10] (fun v fr ln i _ _ wr => ∃ (k f : Nat) (es : List En), Rrg RS s.data.toList w k f v es wr ∧ fr = .int .i64 f ∧ ln = .int .i64 ((es.length : Int) + 1) ∧ i = .int .i64 k) (fun _ _ _ i _ _ _ => s.size - (intOf i).toNat)
  case atStart => exact ⟨0, 0, [], HST.out, rfl, rfl, rfl⟩
  case round =>
    obtain ⟨k, f, es, hrd, rfl, rfl, rfl⟩ := hrel
    have HRD := Lib.hid hrd
    have hfk := hrd.fk
    have hks : k ≤ s.size := by have := hrd.kl; have := HL.out; omega
    have hle := hrd.le
    have hB := hrd.bel
    have hsr := hB.size
    clear hrd HST
    by_cases hlt : k < s.size
    · have HTK : Hid (s.data.toList.take (k + 1) = s.data.toList.take k ++ [s[k]'hlt]) := by
        show _ = _
        rw [List.take_succ_eq_append_getElem (by have := HL.out; omega)]
        rfl
      have HDT : Hid ((s.data.toList.take (k + 1)).drop f = (s.data.toList.take k).drop f ++ [s[k]'hlt]) := by
        show _ = _
        rw [HTK.out, List.drop_append_of_le_length (by rw [List.length_take]; have := HL.out; omega)]
      have hk1 : (k : Int) < (s.size : Int) := by omega
      by_cases h10 : s[k]'hlt = 10
      · have hb1 : (((s[k]'hlt).toNat : Int) != 10) = false := by rw [h10]; rfl
        have hb2 : (((s[k]'hlt).toNat : Int) == 10) = true := by rw [h10]; rfl
        have hsp : s.data.toList.drop f = (s.data.toList.take k).drop f ++ 10 :: s.data.toList.drop (k + 1) := by
          have e1 : s.data.toList = s.data.toList.take k ++ (s[k]'hlt) :: s.data.toList.drop (k + 1) := by
            have h1 := List.take_append_drop (k + 1) s.data.toList
            rw [HTK.out] at h1
            simpa using h1.symm
          have e2 : (s.data.toList.take k ++ (s[k]'hlt) :: s.data.toList.drop (k + 1)).drop f = (s.data.toList.take k).drop f ++ (s[k]'hlt) :: s.data.toList.drop (k + 1) :=
            List.drop_append_of_le_length (by rw [List.length_take]; have := HL.out; omega)
          rw [← e1, h10] at e2
          exact e2
        have hxd : (s.extract f k).data.toList = (s.data.toList.take k).drop f := by
          rw [Lib.extract_data, List.drop_take]
        have hxs : (s.extract f k).size ≤ 100000 := by rw [ByteArray.size_extract]; omega
        have HRS : Hid (RS = Rs.behind es (match recEntry ((s.data.toList.take k).drop f) with | none => .bad (es.length + 1) 2 | some e => if 8192 < es.length + 1 then .bad (es.length + 1) 12 else Rs.onto e (rdFrom (es.length + 1) (s.data.toList.drop (k + 1))))) := by
          have := HRD.out.res
          rw [hsp, rdFrom_cons _ _ _ HRD.out.no] at this
          exact this
        have HEA := Lib.hid (fun W => rentry_any (s.extract f k) W hxs)
        rw [hxd, refEntry_eq] at HEA
        have hfi : (f : Int) ≤ (k : Int) := by omega
        have hki : (k : Int) ≤ (s.size : Int) := by omega
        clear hsp hxd hxs h10
        go_wp2_with fail
        go_at_call 29
        refine (HEA.out _).mono ?_
        rintro r w2 ⟨rfl, hb2'⟩
        have hown2 := own_below HRD.out.own hb2'
        have hB2 := hB.trans (hb2'.mono hsr)
        have hs2 := hB2.size
        clear hB hb2' HEA hsr
        cases ho : recEntry ((s.data.toList.take k).drop f) with
        | none =>
          simp only [Option.getD_none, Option.isSome_none, zeroEn, En.val]
          have HFIN : Hid (RS = .bad (es.length + 1) 2) := by
            have := HRS.out
            rw [ho] at this
            exact this
          clear ho HRS
          go_wp2_with fail
          go_ret3
          exact ⟨.slice none 0 0, by rw [HFIN.out]; rfl, by rw [HFIN.out]; exact Tapes.nil _, hB2.alloc hs2 _⟩
        | some e =>
          obtain ⟨ek, ec, eb, e1, e2, e3, e4, e5, e6⟩ := e
          simp only [Option.getD_some, Option.isSome_some, En.val]
          have HRS2 : Hid (RS = Rs.behind es (if 8192 < es.length + 1 then .bad (es.length + 1) 12 else Rs.onto ⟨ek, ec, eb, e1, e2, e3, e4, e5, e6⟩ (rdFrom (es.length + 1) (s.data.toList.drop (k + 1))))) := by
            have := HRS.out
            rw [ho] at this
            exact this
          clear ho HRS
          obtain ⟨A, c, hv⟩ : ∃ A c, u5 = .slice A es.length c := by
            obtain ⟨A, c, e, _⟩ := Tapes.of_own hown2
            exact ⟨A, c, e⟩
          subst hv
          by_cases h8 : 8192 < es.length + 1
          · have HFIN : Hid (RS = .bad (es.length + 1) 12) := by
              have := HRS2.out
              rw [if_pos h8] at this
              exact this
            have h8' : (8192 : Int) ≤ (es.length : Int) := by omega
            have h8n : 8192 ≤ es.length := by omega
            clear HRS2 h8
            go_wp2_with fail
            go_ret3
            exact ⟨.slice none 0 0, by rw [HFIN.out]; rfl, by rw [HFIN.out]; exact Tapes.nil _, hB2.alloc hs2 _⟩
          · have HRS3 : Hid (RS = Rs.behind (es ++ [(⟨ek, ec, eb, e1, e2, e3, e4, e5, e6⟩ : En)]) (rdFrom (es.length + 1) (s.data.toList.drop (k + 1)))) := by
              have := HRS2.out
              rw [if_neg h8, behind_onto] at this
              exact this
            have h8' : ¬ (8192 : Int) ≤ (es.length : Int) := by omega
            have h8n : es.length < 8192 := by omega
            have HALL := Lib.hid (cells_one ⟨ek, ec, eb, e1, e2, e3, e4, e5, e6⟩)
            clear HRS2 h8
            go_wp2_with (at_builtin; refine wpList_append_own _ rfl _ _ 27 rfl w.heap.size 35 i0 _ 9 80 Tryd.underlying27 hi hz0 hz1 hz2 rfl (by decide) _ _ _ rfl ((hown2.alloc _).alloc _) ⟨w2.heap.size + 1, 0, none⟩ 1 1 [.int .i64 ek, .int .i64 ec, .string eb, .int .i64 e1, .int .i64 e2, .int .i64 e3, .int .i64 e4, .int .u32 e5, .int .i64 e6] rfl rfl ?_ HALL.out (by unfold maxLen; omega) (by omega) (by simp; omega) ?_)
            intro v3 w3 hown3 hg3 _
            have HO3 : Hid (w3.ownsRow w.heap.size 35 9 v3 (es ++ [(⟨ek, ec, eb, e1, e2, e3, e4, e5, e6⟩ : En)]).length (flat (es ++ [(⟨ek, ec, eb, e1, e2, e3, e4, e5, e6⟩ : En)]))) := by
              rw [flat_snoc, List.length_append]; exact hown3
            have HB3 : Hid (Below w.heap.size w w3) := ((hB2.alloc hs2 _).alloc (by simp; omega) _).grown hg3 (by simp; omega) (fun j hj => (hown2.lt j hj).1)
            have HLEN : Hid ((es ++ [(⟨ek, ec, eb, e1, e2, e3, e4, e5, e6⟩ : En)]).length = es.length + 1) := by show _ = _; simp
            clear hown3 hg3 hB2 hown2
            go_wp2_with fail
            go_roundw
            case rel =>
              refine ⟨k + 1, k + 1, es ++ [(⟨ek, ec, eb, e1, e2, e3, e4, e5, e6⟩ : En)], ⟨by rw [HLEN.out]; exact HRS3.out, by omega, by have := HL.out; omega, ?_, by rw [HLEN.out]; omega, HO3.out, HB3.out⟩, by go_num, by rw [HLEN.out]; go_num, by go_num⟩
              rw [List.drop_of_length_le (by rw [List.length_take]; omega)]
              simp
            case measure => simp [intOf]; omega
      · have hb1 : (((s[k]'hlt).toNat : Int) != 10) = true := by
          rw [bne_iff_ne]
          intro h
          exact h10 (UInt8.toNat_inj.1 (by show _ = 10; omega))
        have HNO : Hid ((10 : UInt8) ∉ (s.data.toList.take (k + 1)).drop f) := by
          show ¬ _
          rw [HDT.out, List.mem_append, not_or]
          exact ⟨HRD.out.no, by simp; exact fun h => h10 h.symm⟩
        clear h10
        go_wp2_with fail
        go_roundw
        case rel => exact ⟨k + 1, f, es, ⟨HRD.out.res, by omega, by have := HL.out; omega, HNO.out, HRD.out.le, HRD.out.own, HRD.out.bel⟩, rfl, rfl, by go_num⟩
        case measure => simp [intOf]; omega
    · have hk : k = s.size := by omega
      have HNO : Hid ((10 : UInt8) ∉ s.data.toList.drop f) := by
        have := HRD.out.no
        rw [List.take_of_length_le (by have := HL.out; omega)] at this
        exact this
      have hk1 : ¬ (k : Int) < (s.size : Int) := by omega
      by_cases hf : f = s.size
      · have HFIN : Hid (RS = .good es) := by
          have := HRD.out.res
          rw [List.drop_of_length_le (by have := HL.out; omega), rdFrom_nil] at this
          rw [this]
          show _ = _
          simp [Rs.behind]
        have hf1 : ((f : Int) != (s.size : Int)) = false := by rw [bne_eq_false_iff_eq]; omega
        have HTP := Lib.hid (Tapes.of_own HRD.out.own)
        clear hf hk hlt
        go_wp2_with fail
        go_ret3
        exact ⟨_, by rw [HFIN.out]; rfl, by rw [HFIN.out]; exact HTP.out, hB⟩
      · have HFIN : Hid (RS = .bad (es.length + 1) 2) := by
          have := HRD.out.res
          rw [rdFrom_none _ _ HNO.out (by intro h; have h2 := congrArg List.length h; rw [List.length_drop, List.length_nil] at h2; have := HL.out; omega)] at this
          exact this
        have hf1 : ((f : Int) != (s.size : Int)) = true := by rw [bne_iff_ne]; omega
        clear hf hk hlt
        go_wp2_with fail
        go_ret3
        exact ⟨.slice none 0 0, by rw [HFIN.out]; rfl, by rw [HFIN.out]; exact Tapes.nil _, hB⟩
end Go.Proofs.YtlgepoiaolhajaaDoor
