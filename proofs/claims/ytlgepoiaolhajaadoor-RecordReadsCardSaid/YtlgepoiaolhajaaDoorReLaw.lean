/-
  Plain laws of entries and their lines, of a text and its lines: no program is walked here.
-/
import Derived.Test.YtlgepoiaolhajaaDoorReEntry
namespace Go.Proofs.YtlgepoiaolhajaaDoor

theorem hexD_hv (c : UInt8) (h : 0 ≤ hv c) : hexD (hv c).toNat = c := by
  have H : ∀ n : Fin 256, 0 ≤ hv (UInt8.ofNat n.val) → hexD (hv (UInt8.ofNat n.val)).toNat = UInt8.ofNat n.val := by decide +kernel
  have := H ⟨c.toNat, c.toNat_lt⟩
  simp only [UInt8.ofNat_toNat] at this
  exact this h
theorem hv_hexD (n : Nat) (h : n < 16) : hv (hexD n) = (n : Int) := by
  have H : ∀ n : Fin 16, hv (hexD n.val) = (n.val : Int) := by decide +kernel
  exact H ⟨n, h⟩
theorem nib (x y : Nat) (hx : x < 16) (hy : y < 16) : (UInt8.ofNat (16 * x + y)).toNat / 16 = x ∧ (UInt8.ofNat (16 * x + y)).toNat % 16 = y := by
  have : (UInt8.ofNat (16 * x + y)).toNat = 16 * x + y := by simp; omega
  rw [this]; omega
theorem hexOf_append (a b : List UInt8) : hexOf (a ++ b) = hexOf a ++ hexOf b := by unfold hexOf; rw [List.flatMap_append]
theorem hexOf_pairs (l : List UInt8) : ∀ k, 2 * k ≤ l.length → okTo l k → hexOf (pairs l k) = l.take (2 * k) := by
  intro k
  induction k with
  | zero => intro _ _; simp [pairs, hexOf]
  | succ k ih =>
    intro hk hok
    obtain ⟨h1, h2⟩ := hok k (by omega)
    rw [pairs_snoc, hexOf_append, ih (by omega) (fun i hi => hok i (by omega)), show 2 * (k + 1) = 2 * k + 1 + 1 from by omega]
    have et : l.take (2 * k + 1 + 1) = l.take (2 * k) ++ [l[2 * k], l[2 * k + 1]] := by
      rw [List.take_succ_eq_append_getElem (by omega : 2 * k + 1 < l.length), List.take_succ_eq_append_getElem (by omega : 2 * k < l.length), List.append_assoc]
      rfl
    have e1 : l.getD (2 * k) 0 = l[2 * k] := by rw [List.getD_eq_getElem?_getD, List.getElem?_eq_getElem (by omega)]; rfl
    have e2 : l.getD (2 * k + 1) 0 = l[2 * k + 1] := by rw [List.getD_eq_getElem?_getD, List.getElem?_eq_getElem (by omega)]; rfl
    rw [e1] at h1 ⊢
    rw [e2] at h2 ⊢
    have b1 := hv_lt l[2 * k]
    have b2 := hv_lt l[2 * k + 1]
    obtain ⟨n1, n2⟩ := nib (hv l[2 * k]).toNat (hv l[2 * k + 1]).toNat (by omega) (by omega)
    have : hexOf [UInt8.ofNat (16 * (hv l[2 * k]).toNat + (hv l[2 * k + 1]).toNat)] = [l[2 * k], l[2 * k + 1]] := by
      simp only [hexOf, List.flatMap_cons, List.flatMap_nil, List.append_nil, n1, n2, hexD_hv _ h1, hexD_hv _ h2]
    rw [this, et]
theorem hexed_of_unhex {l b : List UInt8} (h : unhexP l = some b) : hexed b = l := by
  unfold unhexP at h
  split at h
  · next h1 => injection h with h; subst h; rw [h1]; rfl
  · split at h
    · cases h
    · next h2 =>
      simp only [not_or, Decidable.not_not] at h2
      split at h
      · next h3 =>
        injection h with h
        subst h
        have hp := List.length_pos_iff.2 h2.1
        unfold hexed
        rw [if_neg (by intro he; have := congrArg List.length he; rw [pairs_length] at this; simp at this; omega), hexOf_pairs l _ (by omega) h3, List.take_of_length_le (by omega)]
      · cases h
theorem hexOf_get (b : List UInt8) : ∀ i, i < b.length → (hexOf b).getD (2 * i) 0 = hexD ((b.getD i 0).toNat / 16) ∧ (hexOf b).getD (2 * i + 1) 0 = hexD ((b.getD i 0).toNat % 16) := by
  induction b with
  | nil => intro i h; simp at h
  | cons c r ih =>
    intro i hi
    have e : hexOf (c :: r) = hexD (c.toNat / 16) :: hexD (c.toNat % 16) :: hexOf r := by simp [hexOf]
    rw [e]
    cases i with
    | zero => simp
    | succ j =>
      have := ih j (by simp at hi; omega)
      rw [show 2 * (j + 1) = 2 * j + 1 + 1 from by omega, List.getD_cons_succ, List.getD_cons_succ, List.getD_cons_succ, show 2 * j + 1 + 1 + 1 = (2 * j + 1) + 1 + 1 from rfl, List.getD_cons_succ, List.getD_cons_succ]
      exact this
theorem unhex_hexed (b : List UInt8) : unhexP (hexed b) = some b := by
  by_cases hb : b = []
  · subst hb; rfl
  · have hp := List.length_pos_iff.2 hb
    have hl := hexOf_length b
    unfold hexed unhexP
    rw [if_neg hb, if_neg (by intro h; have := congrArg List.length h; rw [hl] at this; simp at this; omega), if_neg (by rintro (h | h); (have := congrArg List.length h; rw [hl] at this; simp at this; omega); exact h (by omega)), hl, show 2 * b.length / 2 = b.length from by omega]
    have hx : ∀ i, i < b.length → hv ((hexOf b).getD (2 * i) 0) = (((b.getD i 0).toNat / 16 : Nat) : Int) ∧ hv ((hexOf b).getD (2 * i + 1) 0) = (((b.getD i 0).toNat % 16 : Nat) : Int) := by
      intro i hi
      obtain ⟨g1, g2⟩ := hexOf_get b i hi
      have := (b.getD i 0).toNat_lt
      rw [g1, g2]
      exact ⟨hv_hexD _ (by omega), hv_hexD _ (by omega)⟩
    have hok : okTo (hexOf b) b.length := fun i hi => by
      obtain ⟨g1, g2⟩ := hx i hi
      rw [g1, g2]
      omega
    rw [if_pos hok]
    congr 1
    apply List.ext_getElem
    · rw [pairs_length]
    · intro i h1 h2
      obtain ⟨g1, g2⟩ := hx i h2
      simp only [pairs, List.getElem_map, List.getElem_range, g1, g2, Int.toNat_natCast]
      have e : b.getD i 0 = b[i] := by rw [List.getD_eq_getElem?_getD, List.getElem?_eq_getElem h2]; rfl
      rw [e]
      have hlt := b[i].toNat_lt
      rw [show 16 * (b[i].toNat / 16) + b[i].toNat % 16 = b[i].toNat from by omega, UInt8.ofNat_toNat]

/-- Words, with blanks between them. -/
def unwords : List (List UInt8) → List UInt8
  | [] => []
  | u :: r => u ++ r.flatMap fun v => 32 :: v
theorem unwords_words (l : List UInt8) : unwords (wordsOf l) = l := by
  induction l with
  | nil => rfl
  | cons c r ih =>
    unfold wordsOf
    cases hw : wordsOf r with
    | nil => exact absurd hw (wordsOf_ne r)
    | cons h t =>
      rw [hw] at ih
      split
      · next hc =>
        subst hc
        simp only [unwords, List.flatMap_cons, List.nil_append] at ih ⊢
        rw [← ih]; rfl
      · simp only [unwords] at ih ⊢
        rw [← ih]; rfl
theorem wordsOf_unwords (us : List (List UInt8)) : ∀ u, (∀ v ∈ u :: us, (32 : UInt8) ∉ v) → wordsOf (unwords (u :: us)) = u :: us := by
  induction us with
  | nil => intro u h; simp only [unwords, List.flatMap_nil, List.append_nil]; exact wordsOf_none u (h u (by simp))
  | cons v r ih =>
    intro u h
    have e : unwords (u :: v :: r) = u ++ 32 :: unwords (v :: r) := by simp [unwords]
    rw [e, wordsOf_cons u _ (h u (by simp)), ih v (fun x hx => h x (List.mem_cons_of_mem _ hx))]
theorem num_itoa (v : Int) (h0 : -9223372036854775808 ≤ v) (h1 : v ≤ 9223372036854775807) : num? (Lib.itoa v) = some v := (num_iff _ _).2 ⟨rfl, h0, h1⟩
theorem itoa_no (v : Int) (c : UInt8) (h1 : c ≠ 45) (h2 : c.toNat < 48) : c ∉ Lib.itoa v := by
  intro h
  rcases itoa_bytes v c h with h | h
  · exact h1 h
  · omega
theorem itoa_one : Lib.itoa 1 = [49] := by unfold Lib.itoa; rw [if_neg (by omega)]; exact Lib.decDigits_one (by decide)
theorem hexed_no (l : List UInt8) (c : UInt8) (h1 : c ≠ 45) (h2 : c.toNat < 48) : c ∉ hexed l := by
  unfold hexed
  split
  · simp; exact h1
  · unfold hexOf
    intro h
    obtain ⟨x, _, hx⟩ := List.mem_flatMap.1 h
    have hd : ∀ n, n < 16 → c ≠ hexD n := by
      intro n hn he
      subst he
      have H : ∀ n : Fin 16, 48 ≤ (hexD n.val).toNat := by decide +kernel
      have := H ⟨n, hn⟩
      simp only at this
      omega
    have := x.toNat_lt
    simp only [List.mem_cons, List.not_mem_nil, or_false] at hx
    rcases hx with hx | hx
    · exact hd _ (by omega) hx
    · exact hd _ (by omega) hx

/-- An entry that may be: its parts. -/
theorem wrong_parts {e : En} (h : e.wrong = 0) : (e.kind ≠ 1 → e.bytes.data.toList = []) ∧ (e.kind ≠ 2 → e.ik = 0 ∧ e.code = 0 ∧ e.x = 0 ∧ e.y = 0 ∧ e.time = 0 ∧ e.count = 0) ∧ (e.kind = 0 ∨ e.kind = 2 → e.client = 0) := by
  unfold En.wrong at h
  split at h
  · simp at h
  · split at h
    · simp at h
    · next h2 =>
      split at h
      · simp at h
      · split at h
        · simp at h
        · next h4 =>
          simp [En.noInput, Go.ByteArray.toList_eq] at h4
          simp [En.ofClient] at h2
          refine ⟨fun hk => ?_, fun hk => ?_, fun hk => ?_⟩
          · have := h4.1 hk
            simpa using this
          · obtain ⟨⟨⟨⟨⟨q1, q2⟩, q3⟩, q4⟩, q5⟩, q6⟩ := h4.2 hk; exact ⟨q1, q2, q3, q4, q5, q6⟩
          · exact h2.2 (by omega) (by omega) (by omega)
theorem ba_ext {a b : ByteArray} (h : a.data.toList = b.data.toList) : a = b := by
  cases a with | mk a => cases b with | mk b => cases a; cases b; simp at h; rw [h]
theorem ifRight_some {e f : En} (h : ifRight e = some f) : e = f ∧ f.wrong = 0 := by
  unfold ifRight at h
  split at h
  · next h0 => injection h with h; subst h; exact ⟨rfl, h0⟩
  · cases h

def OkLine (l : List UInt8) (e : En) : Prop := e.wrong = 0 ∧ e.line = l ++ [10] ∧ 0 ≤ e.time

theorem line_of_entry {l : List UInt8} {e : En} (h : recEntry l = some e) : OkLine l e := by
  unfold recEntry at h
  have hl := unwords_words l
  have hne := wordsOf_ne l
  generalize wordsOf l = ws at h hl hne
  split at h
  case isFalse => cases h
  next hall =>
  have hnum : ∀ u ∈ numWords ws, Lib.itoa ((num? u).getD 0) = u := by
    intro u hu
    have := hall u hu
    cases hn : num? u with
    | none => rw [hn] at this; cases this
    | some v => exact ((num_iff u v).1 hn).1
  clear hall
  by_cases hA : ws.getD 0 [] = [49] ∧ ws.length = 3
  · have e1 : numWords ws = ws.take 2 := by unfold numWords; rw [if_pos hA]
    have e2 : textWord ws = ws.getD 2 [] := by unfold textWord; rw [if_pos hA]
    rw [e1] at hnum h
    rw [e2] at h
    obtain ⟨h0, h3⟩ := hA
    obtain ⟨a, c, t, rfl⟩ : ∃ a c t, ws = [a, c, t] := by
      match ws, h3 with
      | [a, c, t], _ => exact ⟨a, c, t, rfl⟩
    simp only [List.getD_cons_zero] at h0
    subst h0
    have i0 := hnum [49] (by simp)
    have i1 := hnum c (by simp)
    have n1 : num? [49] = some 1 := by rw [← itoa_one]; exact num_itoa 1 (by omega) (by omega)
    unfold finish numsOf at h
    simp only [List.take_succ_cons, List.take_zero, List.map_cons, List.map_nil, List.getD_cons_zero, List.getD_cons_succ, n1, Option.getD_some, if_true] at h
    cases hu : unhexP t with
    | none => rw [hu] at h; cases h
    | some b =>
      rw [hu] at h
      simp only [List.length_cons, List.length_nil, if_true] at h
      obtain ⟨he, hw⟩ := ifRight_some h
      subst he
      refine ⟨hw, ?_, by simp⟩
      have hb := hexed_of_unhex hu
      rw [← hl]
      simp only [En.line, En.ofClient, unwords, blanked, itoa_one, i1, hb]
      simp [i1]
  · have e1 : numWords ws = ws := by unfold numWords; rw [if_neg hA]
    have e2 : textWord ws = [] := by unfold textWord; rw [if_neg hA]
    rw [e1] at hnum h
    rw [e2] at h
    cases ws with
    | nil => exact absurd rfl hne
    | cons a r =>
    have i0 := hnum a (by simp)
    unfold finish at h
    have eu : unhexP [] = none := rfl
    simp only [numsOf, List.map_cons, List.getD_cons_zero, List.length_cons, List.length_map, eu] at h
    generalize hk : (num? a).getD 0 = k at h i0
    split at h
    · cases h
    · next hk1 =>
      split at h
      · next hk34 =>
        split at h
        · next hlen =>
          obtain ⟨he, hw⟩ := ifRight_some h
          subst he
          refine ⟨hw, ?_, by simp⟩
          obtain ⟨c, rfl⟩ : ∃ c, r = [c] := by
            match r, hlen with
            | [c], _ => exact ⟨c, rfl⟩
          have i1 := hnum c (by simp)
          rw [← hl]
          rcases hk34 with rfl | rfl
          · simp [En.line, En.ofClient, unwords, blanked, i0, i1]
          · simp [En.line, En.ofClient, unwords, blanked, i0, i1]
        · cases h
      · next hk34 =>
        split at h
        · next hk2 =>
          split at h
          · next hlen =>
            split at h
            · cases h
            · next ht =>
              obtain ⟨he, hw⟩ := ifRight_some h
              subst he
              refine ⟨hw, ?_, by simp only; omega⟩
              obtain ⟨c1, c2, c3, c4, c5, rfl⟩ : ∃ c1 c2 c3 c4 c5, r = [c1, c2, c3, c4, c5] := by
                match r, hlen with
                | [c1, c2, c3, c4, c5], _ => exact ⟨c1, c2, c3, c4, c5, rfl⟩
              have i1 := hnum c1 (by simp)
              have i2 := hnum c2 (by simp)
              have i3 := hnum c3 (by simp)
              have i4 := hnum c4 (by simp)
              have i5 := hnum c5 (by simp)
              subst hk2
              rw [← hl]
              simp [En.line, En.ofClient, unwords, blanked, i0, i1, i2, i3, i4, i5]
          · cases h
        · next hk2 =>
          split at h
          · next hlen =>
            obtain ⟨he, hw⟩ := ifRight_some h
            subst he
            refine ⟨hw, ?_, by simp⟩
            have hr : r = [] := List.eq_nil_of_length_eq_zero (by omega)
            subst hr
            rw [← hl]
            simp [En.line, En.ofClient, unwords, blanked, i0, hk1, hk2]
            simp only [not_or] at hk34
            simp [hk34.1, hk34.2]
          · cases h

theorem entry_of_line {l : List UInt8} {e : En} (h : OkLine l e) : recEntry l = some e := by
  obtain ⟨hw, hline, ht⟩ := h
  obtain ⟨a1, a2, a3, a4, a5, a6⟩ := wrong_zero hw
  obtain ⟨p1, p2, p3⟩ := wrong_parts hw
  have b32 : ∀ v : Int, (32 : UInt8) ∉ Lib.itoa v := fun v => itoa_no v 32 (by decide) (by decide)
  have hfin : ∀ (us : List (List UInt8)) (zs : List Int), us = zs.map Lib.itoa → (∀ z ∈ zs, -9223372036854775808 ≤ z ∧ z ≤ 9223372036854775807) → (∀ u ∈ us, (num? u).isSome = true) ∧ numsOf us = zs := by
    intro us zs hu hz
    subst hu
    refine ⟨fun u hu => ?_, ?_⟩
    · obtain ⟨z, hzm, rfl⟩ := List.mem_map.1 hu
      rw [num_itoa z (hz z hzm).1 (hz z hzm).2]; rfl
    · unfold numsOf
      rw [List.map_map]
      conv => rhs; rw [← List.map_id zs]
      apply List.map_congr_left
      intro z hzm
      simp only [Function.comp_apply, num_itoa z (hz z hzm).1 (hz z hzm).2, Option.getD_some, id]
  have h49 : ∀ v : Int, 0 ≤ v → v ≤ 4 → v ≠ 1 → Lib.itoa v ≠ [49] := by
    intro v h0 h1 h2 he
    rw [← itoa_one] at he
    exact h2 (itoa_inj he (by omega) (by omega))
  have hright : ifRight e = some e := by unfold ifRight; rw [if_pos hw]
  obtain ⟨kind, client, bytes, ik, code, x, y, time, count⟩ := e
  simp only at *
  have hkk : kind = 0 ∨ kind = 1 ∨ kind = 2 ∨ kind = 3 ∨ kind = 4 := by omega
  have cut10 : ∀ a : List UInt8, a ++ [10] = l ++ [10] → l = a := fun a h => (List.append_cancel_right h).symm
  rcases hkk with rfl | rfl | rfl | rfl | rfl
  · obtain ⟨rfl, rfl, rfl, rfl, rfl, rfl⟩ := p2 (by omega)
    obtain rfl := p3 (by omega)
    have hb : bytes = ⟨#[]⟩ := ba_ext (by simpa using p1 (by omega))
    subst hb
    have el : l = unwords [Lib.itoa 0] := by
      refine cut10 _ ?_
      rw [← hline]; simp [En.line, En.ofClient, unwords]
    have ew : wordsOf l = [Lib.itoa 0] := by rw [el]; exact wordsOf_unwords _ _ (by intro v hv; simp at hv; subst hv; exact b32 _)
    obtain ⟨f1, f2⟩ := hfin [Lib.itoa 0] [0] rfl (by intro z hz; simp at hz; omega)
    have e1 : numWords [Lib.itoa 0] = [Lib.itoa 0] := by unfold numWords; rw [if_neg (by simp)]
    have e2 : textWord [Lib.itoa 0] = [] := by unfold textWord; rw [if_neg (by simp)]
    unfold recEntry
    rw [ew, e1, e2, if_pos f1, f2]
    exact hright
  · obtain ⟨rfl, rfl, rfl, rfl, rfl, rfl⟩ := p2 (by omega)
    have el : l = unwords [Lib.itoa 1, Lib.itoa client, hexed bytes.data.toList] := by
      refine cut10 _ ?_
      rw [← hline]; simp [En.line, En.ofClient, unwords, blanked]
    have ew : wordsOf l = [Lib.itoa 1, Lib.itoa client, hexed bytes.data.toList] := by
      rw [el]
      refine wordsOf_unwords _ _ ?_
      intro v hv
      simp at hv
      rcases hv with rfl | rfl | rfl
      · exact b32 _
      · exact b32 _
      · exact hexed_no _ 32 (by decide) (by decide)
    obtain ⟨f1, f2⟩ := hfin [Lib.itoa 1, Lib.itoa client] [1, client] rfl (by intro z hz; simp at hz; omega)
    have e1 : numWords [Lib.itoa 1, Lib.itoa client, hexed bytes.data.toList] = [Lib.itoa 1, Lib.itoa client] := by unfold numWords; rw [if_pos ⟨itoa_one, rfl⟩]; rfl
    have e2 : textWord [Lib.itoa 1, Lib.itoa client, hexed bytes.data.toList] = hexed bytes.data.toList := by unfold textWord; rw [if_pos ⟨itoa_one, rfl⟩]; rfl
    unfold recEntry
    rw [ew, e1, e2, if_pos f1, f2]
    unfold finish
    simp only [List.getD_cons_zero, List.getD_cons_succ, if_true, unhex_hexed, List.length_cons, List.length_nil]
    exact hright
  · have := a6 rfl
    obtain rfl := p3 (by omega)
    have hb : bytes = ⟨#[]⟩ := ba_ext (by simpa using p1 (by omega))
    subst hb
    have el : l = unwords [Lib.itoa 2, Lib.itoa ik, Lib.itoa code, Lib.itoa x, Lib.itoa y, Lib.itoa time] := by
      refine cut10 _ ?_
      rw [← hline]; simp [En.line, En.ofClient, unwords, blanked]
    have ew : wordsOf l = [Lib.itoa 2, Lib.itoa ik, Lib.itoa code, Lib.itoa x, Lib.itoa y, Lib.itoa time] := by
      rw [el]
      refine wordsOf_unwords _ _ ?_
      intro v hv
      simp at hv
      rcases hv with rfl | rfl | rfl | rfl | rfl | rfl <;> exact b32 _
    obtain ⟨f1, f2⟩ := hfin [Lib.itoa 2, Lib.itoa ik, Lib.itoa code, Lib.itoa x, Lib.itoa y, Lib.itoa time] [2, ik, code, x, y, time] rfl (by intro z hz; simp at hz; omega)
    have e1 : numWords [Lib.itoa 2, Lib.itoa ik, Lib.itoa code, Lib.itoa x, Lib.itoa y, Lib.itoa time] = [Lib.itoa 2, Lib.itoa ik, Lib.itoa code, Lib.itoa x, Lib.itoa y, Lib.itoa time] := by unfold numWords; rw [if_neg (by simp)]
    have e2 : textWord [Lib.itoa 2, Lib.itoa ik, Lib.itoa code, Lib.itoa x, Lib.itoa y, Lib.itoa time] = [] := by unfold textWord; rw [if_neg (by simp)]
    unfold recEntry
    rw [ew, e1, e2, if_pos f1, f2]
    unfold finish
    simp only [List.getD_cons_zero, List.getD_cons_succ, List.length_cons, List.length_nil]
    obtain ⟨_, _, _, _, _, _, _, _, _, rfl⟩ := this
    rw [if_neg (by omega), if_neg (by omega), if_pos trivial, if_pos trivial, if_neg (by omega)]
    exact hright
  · obtain ⟨rfl, rfl, rfl, rfl, rfl, rfl⟩ := p2 (by omega)
    have hb : bytes = ⟨#[]⟩ := ba_ext (by simpa using p1 (by omega))
    subst hb
    have el : l = unwords [Lib.itoa 3, Lib.itoa client] := by
      refine cut10 _ ?_
      rw [← hline]; simp [En.line, En.ofClient, unwords, blanked]
    have ew : wordsOf l = [Lib.itoa 3, Lib.itoa client] := by
      rw [el]
      refine wordsOf_unwords _ _ ?_
      intro v hv
      simp at hv
      rcases hv with rfl | rfl <;> exact b32 _
    obtain ⟨f1, f2⟩ := hfin [Lib.itoa 3, Lib.itoa client] [3, client] rfl (by intro z hz; simp at hz; omega)
    have e1 : numWords [Lib.itoa 3, Lib.itoa client] = [Lib.itoa 3, Lib.itoa client] := by unfold numWords; rw [if_neg (by simp)]
    have e2 : textWord [Lib.itoa 3, Lib.itoa client] = [] := by unfold textWord; rw [if_neg (by simp)]
    unfold recEntry
    rw [ew, e1, e2, if_pos f1, f2]
    exact hright
  · obtain ⟨rfl, rfl, rfl, rfl, rfl, rfl⟩ := p2 (by omega)
    have hb : bytes = ⟨#[]⟩ := ba_ext (by simpa using p1 (by omega))
    subst hb
    have el : l = unwords [Lib.itoa 4, Lib.itoa client] := by
      refine cut10 _ ?_
      rw [← hline]; simp [En.line, En.ofClient, unwords, blanked]
    have ew : wordsOf l = [Lib.itoa 4, Lib.itoa client] := by
      rw [el]
      refine wordsOf_unwords _ _ ?_
      intro v hv
      simp at hv
      rcases hv with rfl | rfl <;> exact b32 _
    obtain ⟨f1, f2⟩ := hfin [Lib.itoa 4, Lib.itoa client] [4, client] rfl (by intro z hz; simp at hz; omega)
    have e1 : numWords [Lib.itoa 4, Lib.itoa client] = [Lib.itoa 4, Lib.itoa client] := by unfold numWords; rw [if_neg (by simp)]
    have e2 : textWord [Lib.itoa 4, Lib.itoa client] = [] := by unfold textWord; rw [if_neg (by simp)]
    unfold recEntry
    rw [ew, e1, e2, if_pos f1, f2]
    exact hright
theorem entry_iff (l : List UInt8) (e : En) : recEntry l = some e ↔ OkLine l e := ⟨line_of_entry, entry_of_line⟩
end Go.Proofs.YtlgepoiaolhajaaDoor
