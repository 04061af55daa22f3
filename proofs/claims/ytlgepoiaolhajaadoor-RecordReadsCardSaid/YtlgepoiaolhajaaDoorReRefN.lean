/-
  The reference's value, number and words, walked.
-/
import Derived.Test.YtlgepoiaolhajaaDoorReRefP
import Derived.Test.YtlgepoiaolhajaaDoorReEnt1
namespace Go.Proofs.YtlgepoiaolhajaaDoor
open Go.RowKit

theorem value_any (c : UInt8) (w : World) : Calls Tryd.prog 39 #[.int .u8 (c.toNat : Int)] w fun e w' => e = .returned (.int .i64 (hv c)) ∧ w' = w := by
  have h0 : 0 ≤ (c.toNat : Int) := by omega
  have h9 : (c.toNat : Int) ≤ 255 := by have := c.toNat_lt; omega
  have HX := Lib.hid (hv_eq c)
  generalize hv c = q at *
  generalize (c.toNat : Int) = n at *
  by_cases h1 : 48 ≤ n ∧ n ≤ 57
  · have HQ : Hid (q = n - 48) := by show _ = _; rw [HX.out, if_pos h1]
    obtain ⟨a1, a2⟩ := h1
    go_enter Tryd.func39, Tryd.ntmps39
    go_wp2
    go_ret
    exact ⟨ret_int HQ.out.symm, rfl⟩
  · by_cases h2 : 97 ≤ n ∧ n ≤ 102
    · have HQ : Hid (q = n - 87) := by show _ = _; rw [HX.out, if_neg h1, if_pos h2]
      obtain ⟨a1, a2⟩ := h2
      have b1 : 48 ≤ n := by omega
      have b2 : 57 < n := by omega
      clear h1
      go_enter Tryd.func39, Tryd.ntmps39
      go_wp2
      go_ret
      exact ⟨ret_int HQ.out.symm, rfl⟩
    · have HQ : Hid (q = -1) := by show _ = _; rw [HX.out, if_neg h1, if_neg h2]
      by_cases b1 : 48 ≤ n
      · have b2 : 57 < n := by omega
        by_cases b3 : 97 ≤ n
        · have b4 : 102 < n := by omega
          clear h1 h2
          go_enter Tryd.func39, Tryd.ntmps39
          go_wp2
          go_ret
          exact ⟨ret_int HQ.out.symm, rfl⟩
        · have b4 : n < 97 := by omega
          clear h1 h2 b3
          go_enter Tryd.func39, Tryd.ntmps39
          go_wp2
          go_ret
          exact ⟨ret_int HQ.out.symm, rfl⟩
      · have b2 : n < 48 := by omega
        have b3 : n < 97 := by omega
        clear h1 h2 b1
        go_enter Tryd.func39, Tryd.ntmps39
        go_wp2
        go_ret
        exact ⟨ret_int HQ.out.symm, rfl⟩

def NumPost (o : Option Int) (w : World) (r : Ending) (w' : World) : Prop := r = .returned (.tuple #[.int .i64 (o.getD 0), .bool o.isSome]) ∧ w = w'
theorem ret_num {a b : Int} {p q : Bool} (h1 : a = b) (h2 : p = q) : Ending.returned (.tuple #[.int .i64 a, .bool p]) = .returned (.tuple #[.int .i64 b, .bool q]) := by rw [h1, h2]
set_option maxHeartbeats 1000000 in
set_option maxRecDepth 100000 in
/-- The loop of number behind its sign. -/
theorem rnumber_any (s : ByteArray) (w : World) (hs : s.size ≤ 16777216) : Calls Tryd.prog 38 #[.string s] w (NumPost (numR s.data.toList) w) := by
  have hl : s.data.toList.length = s.size := by simp
  by_cases h0 : s.data.toList = [] ∨ 12 < s.data.toList.length
  · have HN : Hid (numR s.data.toList = none) := by show _ = _; unfold numR; rw [if_pos h0]
    by_cases he : s.data.toList = []
    · have h1 : s.toList.isEmpty = true := by rw [toList_isEmpty_data, he]; rfl
      clear h0 he hl
      go_enter Tryd.func38, Tryd.ntmps38
      go_wp2
      go_ret2
      exact ⟨by rw [HN.out]; rfl, rfl⟩
    · have h1 : s.toList.isEmpty = false := by
        rw [toList_isEmpty_data]
        cases h : s.data.toList with
        | nil => exact absurd h he
        | cons a b => rfl
      have h2 : (12 : Int) < (s.size : Int) := by rcases h0 with h | h; exact absurd h he; omega
      clear h0 he hl
      go_enter Tryd.func38, Tryd.ntmps38
      go_wp2
      go_ret2
      exact ⟨by rw [HN.out]; rfl, rfl⟩
  · simp only [not_or] at h0
    obtain ⟨he, h12⟩ := h0
    have h1 : s.toList.isEmpty = false := by
      rw [toList_isEmpty_data]
      cases h : s.data.toList with
      | nil => exact absurd h he
      | cons a b => rfl
    have hpos : 0 < s.size := by have := List.length_pos_iff.2 he; omega
    have h2 : ¬ (12 : Int) < (s.size : Int) := by omega
    have h2' : (s.size : Int) ≤ 12 := by omega
    have hhead : (((s[0]'hpos).toNat : Int) == 45) = minus s.data.toList := by
      have hg : s.data.toList.head? = some (s[0]'hpos) := by
        rw [List.head?_eq_getElem?, List.getElem?_eq_getElem (by omega)]
        rfl
      unfold minus
      rw [hg]
      have H : ∀ c : UInt8, (some c == some (45 : UInt8)) = ((c.toNat : Int) == 45) := by
        intro c
        rw [Bool.eq_iff_iff]
        simp
        constructor
        · intro h; rw [h]; rfl
        · intro h; exact UInt8.toNat_inj.1 (by show _ = 45; omega)
      exact (H _).symm
    obtain ⟨mi, hmi⟩ : ∃ mi, mi = minus s.data.toList := ⟨_, rfl⟩
    rw [← hmi] at hhead
    have HG : Hid (∀ k, (h : k < s.size) → s.data.toList[k]? = some (s[k]'h)) := fun k h => by rw [List.getElem?_eq_getElem (by omega)]; rfl
    have HD : Hid (digitsOf s.data.toList = s.data.toList.drop (if mi then 1 else 0)) := by
      show _ = _
      unfold digitsOf
      rw [← hmi]
      cases mi
      · simp
      · simp
    have HR : Hid (numR s.data.toList = if digitsOf s.data.toList = [] then none else if (digitsOf s.data.toList).all isDig then some (if mi then -(valD (digitsOf s.data.toList) : Int) else (valD (digitsOf s.data.toList) : Int)) else none) := by
      show _ = _
      unfold numR
      rw [if_neg (by rintro (h | h); exact he h; exact h12 h), ← hmi]
    generalize hrn : numR s.data.toList = rn at *
    have HL := Lib.hid hl
    clear hmi he h12 hrn hl
    obtain ⟨at_, hat⟩ : ∃ at_ : Nat, at_ = if mi then 1 else 0 := ⟨_, rfl⟩
    rw [← hat] at HD
    have hat1 : at_ ≤ s.size := by rw [hat]; split <;> omega
    obtain ⟨dg, hdg⟩ : ∃ dg, dg = digitsOf s.data.toList := ⟨_, rfl⟩
    rw [← hdg] at HD HR
    have hdl : dg.length = s.size - at_ := by rw [HD.out, List.length_drop, HL.out]
    have HDL := Lib.hid hdl
    have HDK : Hid (∀ k, (h : k < s.size) → at_ ≤ k → dg.take (k + 1 - at_) = dg.take (k - at_) ++ [s[k]'h]) := by
      intro k h hk
      have e : dg[k - at_]? = some (s[k]'h) := by
        rw [HD.out, List.getElem?_drop, show at_ + (k - at_) = k from by omega]
        exact HG.out k h
      obtain ⟨hlt, hv⟩ := List.getElem?_eq_some_iff.1 e
      rw [show k + 1 - at_ = (k - at_) + 1 from by omega, List.take_succ_eq_append_getElem hlt, hv]
    clear hdg hdl HG
    have HFIN : ∀ n : Int, Hid ((∀ c ∈ dg, isDig c = true) → n = (valD dg : Int) → rn.getD 0 = (if mi then -1 else 1) * n ∧ rn.isSome = decide (at_ < s.size)) := by
      intro n hall hn
      rw [HR.out]
      by_cases hnil : dg = []
      · have : s.size - at_ = 0 := by rw [← HDL.out, hnil]; rfl
        rw [if_pos hnil, hn, hnil]
        have e : decide (at_ < s.size) = false := by simp; omega
        rw [e]
        exact ⟨by simp [valD], rfl⟩
      · have hp := List.length_pos_iff.2 hnil
        have e : decide (at_ < s.size) = true := by have := HDL.out; simp; omega
        rw [if_neg hnil, if_pos (List.all_eq_true.2 hall), e, hn]
        refine ⟨?_, rfl⟩
        cases mi <;> simp
    have HFIN2 := Lib.hid HFIN
    have HBAD : Hid ((∃ c ∈ dg, isDig c = false) → rn = none) := by
      rintro ⟨c, hc, hd⟩
      rw [HR.out]
      split
      · rfl
      · rw [if_neg]
        intro h
        rw [List.all_eq_true.1 h c hc] at hd
        cases hd
    have HVB : Hid (∀ k, k ≤ 12 → (∀ c ∈ dg.take k, isDig c = true) → valD (dg.take k) < 1000000000000) := by
      intro k hk h
      have h1 := valD_lt _ h
      have h2 : (dg.take k).length ≤ 12 := by rw [List.length_take]; omega
      have h3 : 10 ^ (dg.take k).length ≤ 10 ^ 12 := Nat.pow_le_pow_right (by omega) h2
      omega
    clear HFIN HR
    have hats : at_ = if mi then 1 else 0 := hat
    clear hat HD HL
    have hats0 := hats
    clear hats
    cases mi
    · have hats : at_ = 0 := by simpa using hats0
      clear hats0
      subst hats
      have HF0 : Hid ((∀ c ∈ dg, isDig c = true) → rn.getD 0 = (valD dg : Int) ∧ rn.isSome = decide (0 < s.size)) := fun h => by
        have := (HFIN2.out _).out h rfl
        simpa using this
      clear HFIN2
      go_enter Tryd.func38, Tryd.ntmps38
      go_wp2
      go_loop [6, 7] (fun n i => ∃ k : Nat, 0 ≤ k ∧ k ≤ s.size ∧ i = .int .i64 k ∧ n = .int .i64 (valD (dg.take (k - 0)) : Int) ∧ ∀ c ∈ dg.take (k - 0), isDig c = true) (fun _ i => s.size - (intOf i).toNat)
      case atStart => exact ⟨0, by omega, by omega, rfl, by simp [valD], by simp⟩
      case round =>
        obtain ⟨k, hk0, hk1, rfl, rfl, hall⟩ := hrel
        have HALL := Lib.hid hall
        clear hall
        by_cases hlt : k < s.size
        · have HDK1 := Lib.hid (HDK.out k hlt hk0)
          have hm := HVB.out (k - 0) (by omega) HALL.out
          have HN1 : Hid (valD (dg.take (k + 1 - 0)) = 10 * valD (dg.take (k - 0)) + ((s[k]'hlt).toNat - 48)) := by
            show _ = _
            rw [HDK1.out, valD_snoc]
          generalize hmm : valD (dg.take (k - 0)) = m at *
          clear hmm
          by_cases hd : isDig (s[k]'hlt) = true
          · have HAL1 : Hid (∀ c ∈ dg.take (k + 1 - 0), isDig c = true) := by
              intro c hc
              rw [HDK1.out] at hc
              rcases List.mem_append.1 hc with hc | hc
              · exact HALL.out c hc
              · rw [List.mem_singleton.1 hc]; exact hd
            have hd2 : 48 ≤ (s[k]'hlt).toNat ∧ (s[k]'hlt).toNat ≤ 57 := by simpa [isDig] using hd
            have b1 : (48 : Int) ≤ ((s[k]'hlt).toNat : Int) := by omega
            have b2 : ((s[k]'hlt).toNat : Int) ≤ 57 := by omega
            clear hd hd2
            go_wp2
            go_round
            case rel => exact ⟨k + 1, by omega, by omega, by go_num, by rw [HN1.out]; congr 1; omega, HAL1.out⟩
            case measure => simp [intOf]; omega
          · have HNO : Hid (rn = none) := by
              refine HBAD.out ⟨s[k]'hlt, ?_, by simpa using hd⟩
              have : s[k]'hlt ∈ dg.take (k + 1 - 0) := by rw [HDK1.out]; simp
              exact List.mem_of_mem_take this
            have hd2 : (s[k]'hlt).toNat < 48 ∨ 57 < (s[k]'hlt).toNat := by
              simp [isDig] at hd
              omega
            by_cases hd3 : (s[k]'hlt).toNat < 48
            · have b1 : ((s[k]'hlt).toNat : Int) < 48 := by omega
              clear hd hd2 hd3
              go_wp2
              all_goals
                go_ret2
                exact ⟨by rw [HNO.out]; rfl, rfl⟩
            · have b1 : (48 : Int) ≤ ((s[k]'hlt).toNat : Int) := by omega
              have b2 : (57 : Int) < ((s[k]'hlt).toNat : Int) := by omega
              clear hd hd2 hd3
              go_wp2
              all_goals
                go_ret2
                exact ⟨by rw [HNO.out]; rfl, rfl⟩
        · have hk : k = s.size := by omega
          subst hk
          have htk : dg.take (s.size - 0) = dg := List.take_of_length_le (by have := HDL.out; omega)
          rw [htk] at HALL ⊢
          have hm : valD dg < 1000000000000 := by
            have := HVB.out 12 (by omega) (fun c hc => HALL.out c (List.mem_of_mem_take hc))
            rw [List.take_of_length_le (by have := HDL.out; omega)] at this
            exact this
          have HF := Lib.hid (HF0.out HALL.out)
          clear htk hlt
          generalize valD dg = m at *
          go_wp2
          go_ret2
          exact ⟨ret_num (by rw [HF.out.1]) (by rw [HF.out.2]; simp; omega), rfl⟩
    · have hats : at_ = 1 := by simpa using hats0
      clear hats0
      subst hats
      have HF0 : Hid ((∀ c ∈ dg, isDig c = true) → rn.getD 0 = -(valD dg : Int) ∧ rn.isSome = decide (1 < s.size)) := fun h => by
        have := (HFIN2.out _).out h rfl
        simpa using this
      clear HFIN2
      go_enter Tryd.func38, Tryd.ntmps38
      go_wp2
      go_loop [6, 7] (fun n i => ∃ k : Nat, 1 ≤ k ∧ k ≤ s.size ∧ i = .int .i64 k ∧ n = .int .i64 (valD (dg.take (k - 1)) : Int) ∧ ∀ c ∈ dg.take (k - 1), isDig c = true) (fun _ i => s.size - (intOf i).toNat)
      case atStart => exact ⟨1, by omega, by omega, rfl, by simp [valD], by simp⟩
      case round =>
        obtain ⟨k, hk0, hk1, rfl, rfl, hall⟩ := hrel
        have HALL := Lib.hid hall
        clear hall
        by_cases hlt : k < s.size
        · have HDK1 := Lib.hid (HDK.out k hlt hk0)
          have hm := HVB.out (k - 1) (by omega) HALL.out
          have HN1 : Hid (valD (dg.take (k + 1 - 1)) = 10 * valD (dg.take (k - 1)) + ((s[k]'hlt).toNat - 48)) := by
            show _ = _
            rw [HDK1.out, valD_snoc]
          generalize hmm : valD (dg.take (k - 1)) = m at *
          clear hmm
          by_cases hd : isDig (s[k]'hlt) = true
          · have HAL1 : Hid (∀ c ∈ dg.take (k + 1 - 1), isDig c = true) := by
              intro c hc
              rw [HDK1.out] at hc
              rcases List.mem_append.1 hc with hc | hc
              · exact HALL.out c hc
              · rw [List.mem_singleton.1 hc]; exact hd
            have hd2 : 48 ≤ (s[k]'hlt).toNat ∧ (s[k]'hlt).toNat ≤ 57 := by simpa [isDig] using hd
            have b1 : (48 : Int) ≤ ((s[k]'hlt).toNat : Int) := by omega
            have b2 : ((s[k]'hlt).toNat : Int) ≤ 57 := by omega
            clear hd hd2
            go_wp2
            all_goals first | (exfalso; omega) | exact ⟨⟨k + 1, by omega, by omega, by go_num, by rw [HN1.out]; congr 1; omega, HAL1.out⟩, by simp [intOf]; omega⟩
          · have HNO : Hid (rn = none) := by
              refine HBAD.out ⟨s[k]'hlt, ?_, by simpa using hd⟩
              have : s[k]'hlt ∈ dg.take (k + 1 - 1) := by rw [HDK1.out]; simp
              exact List.mem_of_mem_take this
            have hd2 : (s[k]'hlt).toNat < 48 ∨ 57 < (s[k]'hlt).toNat := by
              simp [isDig] at hd
              omega
            by_cases hd3 : (s[k]'hlt).toNat < 48
            · have b1 : ((s[k]'hlt).toNat : Int) < 48 := by omega
              clear hd hd2 hd3
              go_wp2
              all_goals
                go_ret2
                exact ⟨by rw [HNO.out]; rfl, rfl⟩
            · have b1 : (48 : Int) ≤ ((s[k]'hlt).toNat : Int) := by omega
              have b2 : (57 : Int) < ((s[k]'hlt).toNat : Int) := by omega
              clear hd hd2 hd3
              go_wp2
              all_goals
                go_ret2
                exact ⟨by rw [HNO.out]; rfl, rfl⟩
        · have hk : k = s.size := by omega
          subst hk
          have htk : dg.take (s.size - 1) = dg := List.take_of_length_le (by have := HDL.out; omega)
          rw [htk] at HALL ⊢
          have hm : valD dg < 1000000000000 := by
            have := HVB.out 12 (by omega) (fun c hc => HALL.out c (List.mem_of_mem_take hc))
            rw [List.take_of_length_le (by have := HDL.out; omega)] at this
            exact this
          have HF := Lib.hid (HF0.out HALL.out)
          clear htk hlt
          generalize valD dg = m at *
          go_wp2
          go_ret2
          exact ⟨ret_num (by rw [HF.out.1]) (by rw [HF.out.2]; simp; omega), rfl⟩

/-- The strings' cells of words. -/
def strs (ws : List (List UInt8)) : List Value := ws.map fun x => Value.string ⟨x.toArray⟩
theorem string_info : (Tryd.prog.info? 9).map (fun i => (i.zero, i.size, i.bytes)) = some (some (.string ⟨#[]⟩), 1, 16) := by kernel_rfl
def WordsPost (ws : List (List UInt8)) (w : World) (r : Ending) (w' : World) : Prop :=
  ∃ v, r = .returned v ∧ w'.ownsRow w.heap.size 9 1 v ws.length (strs ws) ∧ Below w.heap.size w w'
/-- Where the loop of words stands: at k, the words D are done, one began at f. -/
def WdAt (l : List UInt8) (k : Nat) (fr : Value) (D : List (List UInt8)) : Prop :=
  (k ≤ l.length ∧ ∃ f : Nat, fr = .int .i64 f ∧ f ≤ k ∧ wordsOf (l.take k) = D ++ [(l.take k).drop f]) ∨ (k = l.length + 1 ∧ D = wordsOf l)

set_option maxHeartbeats 1000000 in
set_option maxRecDepth 100000 in
theorem words_any (s : ByteArray) (w : World) (hs : s.size ≤ 16777216) : Calls Tryd.prog 37 #[.string s] w (WordsPost (wordsOf s.data.toList) w) := by
  obtain ⟨i0, hi, hz0, hz1, hz2⟩ := info_parts string_info
  have hl : s.data.toList.length = s.size := by simp
  have HL := Lib.hid hl
  have HCNT : Hid ((wordsOf s.data.toList).length ≤ s.size + 1) := by
    show _ ≤ _
    rw [words_count, Lib.count_one]
    have := List.count_le_length (a := (32 : UInt8)) (l := s.data.toList)
    omega
  have HPRE : Hid (∀ k D u, wordsOf (s.data.toList.take k) = D ++ [u] → D.length ≤ s.size) := by
    intro k D u h
    have h1 := congrArg List.length h
    rw [words_count, Lib.count_one] at h1
    have h2 := List.count_le_length (a := (32 : UInt8)) (l := s.data.toList.take k)
    have h3 : (s.data.toList.take k).length ≤ s.size := by rw [List.length_take]; omega
    simp at h1
    omega
  clear hl
  go_enter Tryd.func37, Tryd.ntmps37
  go_wp2
  go_loopw [3, 4, 5] (fun v fr i wr => ∃ (k : Nat) (D : List (List UInt8)), i = .int .i64 k ∧ k ≤ s.size + 1 ∧ WdAt s.data.toList k fr D ∧ wr.ownsRow w.heap.size 9 1 v D.length (strs D) ∧ Below w.heap.size w wr) (fun _ _ i _ => s.size + 1 - (intOf i).toNat)
  case atStart => exact ⟨0, [], rfl, by omega, .inl ⟨by omega, 0, rfl, by omega, rfl⟩, World.ownsRow_nil _ _ _ _, Below.refl _ _⟩
  case round =>
    obtain ⟨k, D, rfl, hk, hat, hown, hbr⟩ := hrel
    have hsr := hbr.size
    rcases hat with ⟨hkl, f, rfl, hf, hw⟩ | ⟨hkl, hD⟩
    · have hks : k ≤ s.size := by have := HL.out; omega
      have hDl := HPRE.out k D _ hw
      have HW := Lib.hid hw
      have hle : (k : Int) ≤ (s.size : Int) := by omega
      have hxd : (s.extract f k).data.toList = (s.data.toList.take k).drop f := by
        rw [Lib.extract_data, List.drop_take]
      have HXD := Lib.hid hxd
      clear hw hkl hxd
      by_cases hend : k = s.size
      · have he : ((k : Int) == (s.size : Int)) = true := by simp; omega
        have HDW : Hid (strs (wordsOf s.data.toList) = strs D ++ [.string (s.extract f k)] ∧ (wordsOf s.data.toList).length = D.length + 1) := by
          have h1 := HW.out
          rw [List.take_of_length_le (by have := HL.out; omega)] at h1
          have h2 : ByteArray.mk ((s.data.toList).drop f).toArray = s.extract f k := ba_ext (by rw [HXD.out, List.take_of_length_le (by have := HL.out; omega)])
          rw [h1]
          refine ⟨?_, by simp⟩
          simp [strs, h2]
        have hfk : (f : Int) ≤ (k : Int) := by omega
        have hge : s.size ≤ k := by omega
        clear hend
        go_wp2_with (at_builtin; refine wpList_append_own _ rfl _ _ 77 rfl w.heap.size 9 i0 (.string ⟨#[]⟩) 1 16 Tryd.underlying77 hi hz0 hz1 hz2 rfl (by decide) _ _ _ rfl (hown.alloc _) ⟨wr.heap.size, 0, none⟩ 1 1 [.string (s.extract f k)] rfl rfl (cell_one_new _ _ _) (by intro u hu; simp at hu; subst hu; rfl) (by unfold maxLen; omega) (by omega) (by simp; omega) ?_)
        intro v3 w3 hown3 hg3 _
        have HO3 : Hid (w3.ownsRow w.heap.size 9 1 v3 (wordsOf s.data.toList).length (strs (wordsOf s.data.toList))) := by
          rw [HDW.out.1, HDW.out.2]; exact hown3
        have HB3 : Hid (Below w.heap.size w w3) := (hbr.alloc hsr _).grown hg3 (by simp; omega) (fun j hj => (hown.lt j hj).1)
        have HWA : ∀ v, Hid (WdAt s.data.toList (k + 1) v (wordsOf s.data.toList)) := fun v => .inr ⟨by have := HL.out; have := hks; omega, rfl⟩
        clear hown3 hg3 hown hbr
        go_wp2
        go_roundw
        case rel => exact ⟨k + 1, wordsOf s.data.toList, by go_num, by omega, (HWA _).out, HO3.out, HB3.out⟩
        case measure => simp [intOf]; omega
      · have hlt : k < s.size := by omega
        have he : ((k : Int) == (s.size : Int)) = false := by rw [beq_eq_false_iff_ne]; omega
        have HTK : Hid (s.data.toList.take (k + 1) = s.data.toList.take k ++ [s[k]'hlt]) := by
          show _ = _
          rw [List.take_succ_eq_append_getElem (by have := HL.out; omega)]
          rfl
        have hfk : (f : Int) ≤ (k : Int) := by omega
        clear hend
        by_cases h32 : s[k]'hlt = 32
        · have hb : (((s[k]'hlt).toNat : Int) == 32) = true := by rw [h32]; rfl
          have HWA : Hid (WdAt s.data.toList (k + 1) (.int .i64 ((k : Int) + 1)) (D ++ [(s.data.toList.take k).drop f])) := by
            refine .inl ⟨by have := HL.out; omega, k + 1, by go_num, by omega, ?_⟩
            rw [HTK.out, h32, words_blank, HW.out]
            congr 1
            have : (s.data.toList.take k ++ [32]).drop (k + 1) = [] := List.drop_of_length_le (by simp; omega)
            rw [this]
          have HST : Hid (strs (D ++ [(s.data.toList.take k).drop f]) = strs D ++ [.string (s.extract f k)] ∧ (D ++ [(s.data.toList.take k).drop f]).length = D.length + 1) := by
            have h2 : ByteArray.mk ((s.data.toList.take k).drop f).toArray = s.extract f k := ba_ext (by rw [HXD.out])
            refine ⟨?_, by simp⟩
            simp [strs, h2]
          clear h32
          go_wp2_with (at_builtin; refine wpList_append_own _ rfl _ _ 77 rfl w.heap.size 9 i0 (.string ⟨#[]⟩) 1 16 Tryd.underlying77 hi hz0 hz1 hz2 rfl (by decide) _ _ _ rfl (hown.alloc _) ⟨wr.heap.size, 0, none⟩ 1 1 [.string (s.extract f k)] rfl rfl (cell_one_new _ _ _) (by intro u hu; simp at hu; subst hu; rfl) (by unfold maxLen; omega) (by omega) (by simp; omega) ?_)
          intro v3 w3 hown3 hg3 _
          have HO3 : Hid (w3.ownsRow w.heap.size 9 1 v3 (D ++ [(s.data.toList.take k).drop f]).length (strs (D ++ [(s.data.toList.take k).drop f]))) := by
            rw [HST.out.1, HST.out.2]; exact hown3
          have HB3 : Hid (Below w.heap.size w w3) := (hbr.alloc hsr _).grown hg3 (by simp; omega) (fun j hj => (hown.lt j hj).1)
          clear hown3 hg3 hown hbr
          go_wp2
          go_roundw
          case rel => exact ⟨k + 1, _, by go_num, by omega, HWA.out, HO3.out, HB3.out⟩
          case measure => simp [intOf]; omega
        · have hb : (((s[k]'hlt).toNat : Int) == 32) = false := by
            rw [beq_eq_false_iff_ne]
            intro h
            exact h32 (UInt8.toNat_inj.1 (by show _ = 32; omega))
          have HWA : Hid (WdAt s.data.toList (k + 1) (.int .i64 (f : Int)) D) := by
            refine .inl ⟨by have := HL.out; omega, f, rfl, by omega, ?_⟩
            rw [HTK.out, words_more _ _ h32 D _ HW.out]
            congr 2
            rw [List.drop_append_of_le_length (by rw [List.length_take]; have := HL.out; omega)]
          clear h32
          go_wp2
          go_roundw
          case rel => exact ⟨k + 1, D, by go_num, by omega, HWA.out, hown, hbr⟩
          case measure => simp [intOf]; omega
    · have hk' : k = s.size + 1 := by have := HL.out; omega
      subst hk'
      subst hD
      have hgt : ¬ ((s.size : Int) + 1 ≤ (s.size : Int)) := by omega
      clear hkl
      go_wp2
      go_ret
      exact ⟨_, rfl, hown, hbr⟩
end Go.Proofs.YtlgepoiaolhajaaDoor
