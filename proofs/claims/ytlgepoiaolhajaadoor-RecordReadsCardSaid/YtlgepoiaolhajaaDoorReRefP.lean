/-
  The reference's reading of a line, as plain functions, and that it is the record layer's: no program is walked here.
-/
import Derived.Test.YtlgepoiaolhajaaDoorReRd
namespace Go.Proofs.YtlgepoiaolhajaaDoor

/-- The number that digits spell. -/
def valD (l : List UInt8) : Nat := l.foldl (fun n c => 10 * n + (c.toNat - 48)) 0
theorem valD_snoc (a : List UInt8) (c : UInt8) : valD (a ++ [c]) = 10 * valD a + (c.toNat - 48) := by simp [valD]
def isDig (c : UInt8) : Bool := 48 ≤ c.toNat && c.toNat ≤ 57
theorem valD_lt (l : List UInt8) : (∀ c ∈ l, isDig c = true) → valD l < 10 ^ l.length := by
  have H : ∀ n, ∀ l : List UInt8, l.length = n → (∀ c ∈ l, isDig c = true) → valD l < 10 ^ n := by
    intro n
    induction n with
    | zero => intro l hl _; have : l = [] := List.eq_nil_of_length_eq_zero hl; subst this; simp [valD]
    | succ n ih =>
      intro l hl h
      have hne : l ≠ [] := by intro e; subst e; simp at hl
      have e := (List.dropLast_concat_getLast hne).symm
      have h1 := ih l.dropLast (by simp [hl]) (fun c hc => h c (List.dropLast_subset l hc))
      have h2 := h (l.getLast hne) (List.getLast_mem hne)
      rw [e, valD_snoc]
      simp [isDig] at h2
      rw [Nat.pow_succ]
      omega
  exact H _ l rfl
/-- The digits of a numeral, and its sign. -/
def minus (l : List UInt8) : Bool := l.head? == some 45
def digitsOf (l : List UInt8) : List UInt8 := if minus l then l.tail else l
/-- The reference's number. -/
def numR (l : List UInt8) : Option Int :=
  if l = [] ∨ 12 < l.length then none
  else if digitsOf l = [] then none
  else if (digitsOf l).all isDig then some (if minus l then -(valD (digitsOf l) : Int) else (valD (digitsOf l) : Int)) else none

theorem valD_dec (n : Nat) : valD (Lib.decDigits n) = n := by
  induction n using Nat.strongRecOn with
  | ind n ih =>
    by_cases h : n < 10
    · rw [Lib.decDigits_one h]
      have hd : (UInt8.ofNat (48 + n)).toNat = 48 + n := by simp; omega
      simp only [valD, List.foldl_cons, List.foldl_nil, hd]
      omega
    · have hdec : Lib.decDigits n = Lib.decDigits (n / 10) ++ [UInt8.ofNat (48 + n % 10)] := by rw [Lib.decDigits, dif_neg h]
      have hd : (UInt8.ofNat (48 + n % 10)).toNat = 48 + n % 10 := by simp; omega
      rw [hdec, valD_snoc, ih (n / 10) (by omega), hd]
      omega
theorem dec_all (n : Nat) : (Lib.decDigits n).all isDig = true := by
  rw [List.all_eq_true]
  intro c hc
  have := dec_digit n c hc
  simp [isDig]; omega
theorem dec_len (n : Nat) : ∀ k, 0 < k → n < 10 ^ k → (Lib.decDigits n).length ≤ k := by
  induction n using Nat.strongRecOn with
  | ind n ih =>
    intro k hk hn
    by_cases h : n < 10
    · rw [Lib.decDigits_one h]; simp; omega
    · have hdec : Lib.decDigits n = Lib.decDigits (n / 10) ++ [UInt8.ofNat (48 + n % 10)] := by rw [Lib.decDigits, dif_neg h]
      rw [hdec, List.length_append, List.length_singleton]
      cases k with
      | zero => omega
      | succ k =>
        rw [Nat.pow_succ] at hn
        have hk0 : 0 < k := by
          rcases Nat.eq_zero_or_pos k with e | e
          · subst e; simp at hn; omega
          · exact e
        have := ih (n / 10) (by omega) k hk0 (by omega)
        omega
theorem numR_itoa (v : Int) (h0 : -10000000000 < v) (h1 : v < 10000000000) : numR (Lib.itoa v) = some v := by
  by_cases hn : v < 0
  · have e : Lib.itoa v = 45 :: Lib.decDigits v.natAbs := by unfold Lib.itoa; rw [if_pos hn]
    have hl := dec_len v.natAbs 10 (by decide) (by omega)
    have hm : minus (45 :: Lib.decDigits v.natAbs) = true := rfl
    have hd : digitsOf (45 :: Lib.decDigits v.natAbs) = Lib.decDigits v.natAbs := by unfold digitsOf; rw [hm]; rfl
    unfold numR
    rw [e, if_neg (by simp; omega), hd, if_neg (dec_ne_nil _), if_pos (dec_all _), hm, if_pos rfl, valD_dec]
    congr 1
    omega
  · have e : Lib.itoa v = Lib.decDigits v.toNat := by unfold Lib.itoa; rw [if_neg hn]
    have hl := dec_len v.toNat 10 (by decide) (by omega)
    have hm : minus (Lib.decDigits v.toNat) = false := by
      unfold minus
      cases h : Lib.decDigits v.toNat with
      | nil => rfl
      | cons c r =>
        have := dec_digit v.toNat c (by rw [h]; simp)
        simp
        intro hc
        subst hc
        simp at this
    have hd : digitsOf (Lib.decDigits v.toNat) = Lib.decDigits v.toNat := by unfold digitsOf; rw [hm]; rfl
    unfold numR
    rw [e, if_neg (by rintro (h | h); exact dec_ne_nil _ h; omega), hd, if_neg (dec_ne_nil _), if_pos (dec_all _), hm, if_neg (by simp), valD_dec]
    congr 1
    omega

/-- The words of a text, one byte more. -/
theorem words_blank (a : List UInt8) : wordsOf (a ++ [32]) = wordsOf a ++ [[]] := by
  induction a with
  | nil => rfl
  | cons c r ih =>
    rw [List.cons_append, wordsOf, wordsOf]
    by_cases h : c = 32
    · rw [if_pos h, if_pos h, ih]; rfl
    · rw [if_neg h, if_neg h, ih]
      cases hw : wordsOf r with
      | nil => exact absurd hw (wordsOf_ne r)
      | cons x y => rfl
theorem words_more (a : List UInt8) (c : UInt8) (hc : c ≠ 32) : ∀ D u, wordsOf a = D ++ [u] → wordsOf (a ++ [c]) = D ++ [u ++ [c]] := by
  induction a with
  | nil =>
    intro D u h
    have : D = [] ∧ u = [] := by
      cases D with
      | nil => simp [wordsOf] at h; exact ⟨rfl, h⟩
      | cons x y => simp [wordsOf] at h
    obtain ⟨rfl, rfl⟩ := this
    simp [wordsOf, hc]
  | cons d r ih =>
    intro D u h
    rw [List.cons_append, wordsOf]
    rw [wordsOf] at h
    by_cases hd : d = 32
    · rw [if_pos hd] at h ⊢
      cases D with
      | nil =>
        simp at h
        exact absurd h.2 (wordsOf_ne r)
      | cons x y =>
        simp only [List.cons_append, List.cons.injEq] at h
        rw [ih y u h.2, ← h.1]; rfl
    · rw [if_neg hd] at h ⊢
      cases hw : wordsOf r with
      | nil => exact absurd hw (wordsOf_ne r)
      | cons x y =>
        rw [hw] at h
        simp only at h
        cases y with
        | nil =>
          have hDu : D = [] ∧ u = d :: x := by
            cases D with
            | nil => simp at h; exact ⟨rfl, h.symm⟩
            | cons p q => simp at h
          obtain ⟨rfl, rfl⟩ := hDu
          rw [ih [] x (by rw [hw]; rfl)]
          rfl
        | cons y1 y2 =>
          cases D with
          | nil => simp at h
          | cons p q =>
            simp only [List.cons_append, List.cons.injEq] at h
            have := ih (x :: q) u (by rw [hw, List.cons_append, ← h.2])
            rw [this]
            simp only [List.cons_append, ← h.1]

/-- A word that is a number, or the bytes' word of an entry of kind 1. -/
def okAt (ws : List (List UInt8)) (i : Nat) : Bool := (numR (ws.getD i [])).isSome || (i == 2 && ws.getD 0 [] == [49])
def nsR (ws : List (List UInt8)) : List Int := ws.map fun u => (numR u).getD 0
/-- The entry that the words would be. -/
def refCand (ws : List (List UInt8)) : Option En :=
  let ns := nsR ws
  let k := ns.getD 0 0
  if k = 2 then if ws.length = 6 then if ns.getD 5 0 < 0 ∨ 4294967295 < ns.getD 5 0 then none else some ⟨2, 0, ⟨#[]⟩, ns.getD 1 0, ns.getD 2 0, ns.getD 3 0, ns.getD 4 0, ns.getD 5 0, 0⟩ else none
  else if k = 1 then if ws.length = 3 then if ws.getD 2 [] = [45] then some ⟨1, ns.getD 1 0, ⟨#[]⟩, 0, 0, 0, 0, 0, 0⟩ else if okTo (ws.getD 2 []) ((ws.getD 2 []).length / 2) then some ⟨1, ns.getD 1 0, ⟨(pairs (ws.getD 2 []) ((ws.getD 2 []).length / 2)).toArray⟩, 0, 0, 0, 0, 0, 0⟩ else none else some ⟨1, 0, ⟨#[]⟩, 0, 0, 0, 0, 0, 0⟩
  else if (k = 3 ∨ k = 4) ∧ ws.length = 2 then some ⟨k, ns.getD 1 0, ⟨#[]⟩, 0, 0, 0, 0, 0, 0⟩
  else some ⟨k, 0, ⟨#[]⟩, 0, 0, 0, 0, 0, 0⟩
def ifLine (l : List UInt8) (e : En) : Option En := if e.wrong = 0 ∧ e.line = l ++ [10] then some e else none
def refEntry (l : List UInt8) : Option En :=
  if ∀ i, i < (wordsOf l).length → okAt (wordsOf l) i = true then match refCand (wordsOf l) with | none => none | some e => ifLine l e else none

theorem refCand_time {ws : List (List UInt8)} {e : En} (h : refCand ws = some e) : 0 ≤ e.time := by
  unfold refCand at h
  simp only at h
  split at h
  · split at h
    · split at h
      · cases h
      · next ht => injection h with h; subst h; simp only; omega
    · cases h
  · split at h
    · split at h
      · split at h
        · injection h with h; subst h; simp
        · split at h
          · injection h with h; subst h; simp
          · cases h
      · injection h with h; subst h; simp
    · split at h
      · injection h with h; subst h; simp
      · injection h with h; subst h; simp

theorem okAt_num {ws : List (List UInt8)} {i : Nat} {v : Int} (h : ws.getD i [] = Lib.itoa v) (h0 : -10000000000 < v) (h1 : v < 10000000000) : okAt ws i = true := by
  unfold okAt
  rw [h, numR_itoa v h0 h1]
  rfl

theorem refEntry_of_ok {l : List UInt8} {e : En} (h : OkLine l e) : refEntry l = some e := by
  obtain ⟨hw, hline, ht⟩ := h
  obtain ⟨a1, a2, a3, a4, a5, a6⟩ := wrong_zero hw
  obtain ⟨p1, p2, p3⟩ := wrong_parts hw
  have b32 : ∀ v : Int, (32 : UInt8) ∉ Lib.itoa v := fun v => itoa_no v 32 (by decide) (by decide)
  have hif : ifLine l e = some e := by unfold ifLine; rw [if_pos ⟨hw, hline⟩]
  have key : ∀ ws, wordsOf l = ws → (∀ i, i < ws.length → okAt ws i = true) → refCand ws = some e → refEntry l = some e := by
    intro ws h1 h2 h3
    unfold refEntry
    rw [h1, if_pos h2, h3]
    exact hif
  clear hif
  obtain ⟨kind, client, bytes, ik, code, x, y, time, count⟩ := e
  simp only at *
  have hkk : kind = 0 ∨ kind = 1 ∨ kind = 2 ∨ kind = 3 ∨ kind = 4 := by omega
  have cut10 : ∀ a : List UInt8, a ++ [10] = l ++ [10] → l = a := fun a h => (List.append_cancel_right h).symm
  have n0 : numR (Lib.itoa 0) = some 0 := numR_itoa 0 (by omega) (by omega)
  have n1 : numR (Lib.itoa 1) = some 1 := numR_itoa 1 (by omega) (by omega)
  have n2 : numR (Lib.itoa 2) = some 2 := numR_itoa 2 (by omega) (by omega)
  have n3 : numR (Lib.itoa 3) = some 3 := numR_itoa 3 (by omega) (by omega)
  have n4 : numR (Lib.itoa 4) = some 4 := numR_itoa 4 (by omega) (by omega)
  have nc : numR (Lib.itoa client) = some client := numR_itoa client (by omega) (by omega)
  rcases hkk with rfl | rfl | rfl | rfl | rfl
  · obtain ⟨rfl, rfl, rfl, rfl, rfl, rfl⟩ := p2 (by omega)
    obtain rfl := p3 (by omega)
    have hb : bytes = ⟨#[]⟩ := ba_ext (by simpa using p1 (by omega))
    subst hb
    have el : l = unwords [Lib.itoa 0] := by
      refine cut10 _ ?_
      rw [← hline]; simp [En.line, En.ofClient, unwords]
    refine key [Lib.itoa 0] ?_ ?_ ?_
    · rw [el]; exact wordsOf_unwords _ _ (by intro v hv; simp at hv; subst hv; exact b32 _)
    · intro i hi
      obtain rfl : i = 0 := by simp at hi; omega
      exact okAt_num (v := 0) rfl (by omega) (by omega)
    · simp [refCand, nsR, n0]
  · obtain ⟨rfl, rfl, rfl, rfl, rfl, rfl⟩ := p2 (by omega)
    have el : l = unwords [Lib.itoa 1, Lib.itoa client, hexed bytes.data.toList] := by
      refine cut10 _ ?_
      rw [← hline]; simp [En.line, En.ofClient, unwords, blanked]
    refine key [Lib.itoa 1, Lib.itoa client, hexed bytes.data.toList] ?_ ?_ ?_
    · rw [el]
      refine wordsOf_unwords _ _ ?_
      intro v hv
      simp at hv
      rcases hv with rfl | rfl | rfl
      · exact b32 _
      · exact b32 _
      · exact hexed_no _ 32 (by decide) (by decide)
    · intro i hi
      have : i = 0 ∨ i = 1 ∨ i = 2 := by simp at hi; omega
      rcases this with rfl | rfl | rfl
      · exact okAt_num (v := 1) rfl (by omega) (by omega)
      · exact okAt_num (v := client) rfl (by omega) (by omega)
      · unfold okAt
        simp [itoa_one]
    · have hu := unhex_hexed bytes.data.toList
      simp only [refCand, nsR, List.map_cons, List.map_nil, n1, nc, Option.getD_some, List.getD_cons_zero, List.getD_cons_succ, List.length_cons, List.length_nil]
      rw [if_neg (by omega), if_pos trivial, if_pos trivial]
      unfold unhexP at hu
      split at hu
      · next h45 =>
        injection hu with hu
        rw [if_pos h45]
        have hb : bytes = ⟨#[]⟩ := ba_ext (by simpa using hu.symm)
        rw [hb]
      · next h45 =>
        rw [if_neg h45]
        split at hu
        · cases hu
        · split at hu
          · next hok =>
            injection hu with hu
            rw [if_pos hok, hu]
          · cases hu
  · have h6 := a6 rfl
    obtain rfl := p3 (by omega)
    have hb : bytes = ⟨#[]⟩ := ba_ext (by simpa using p1 (by omega))
    subst hb
    have el : l = unwords [Lib.itoa 2, Lib.itoa ik, Lib.itoa code, Lib.itoa x, Lib.itoa y, Lib.itoa time] := by
      refine cut10 _ ?_
      rw [← hline]; simp [En.line, En.ofClient, unwords, blanked]
    obtain ⟨g1, g2, g3, g4, g5, g6, g7, g8, g9, rfl⟩ := h6
    refine key [Lib.itoa 2, Lib.itoa ik, Lib.itoa code, Lib.itoa x, Lib.itoa y, Lib.itoa time] ?_ ?_ ?_
    · rw [el]
      refine wordsOf_unwords _ _ ?_
      intro v hv
      simp at hv
      rcases hv with rfl | rfl | rfl | rfl | rfl | rfl <;> exact b32 _
    · intro i hi
      have : i = 0 ∨ i = 1 ∨ i = 2 ∨ i = 3 ∨ i = 4 ∨ i = 5 := by simp at hi; omega
      rcases this with rfl | rfl | rfl | rfl | rfl | rfl
      · exact okAt_num (v := 2) rfl (by omega) (by omega)
      · exact okAt_num (v := ik) rfl (by omega) (by omega)
      · exact okAt_num (v := code) rfl (by omega) (by omega)
      · exact okAt_num (v := x) rfl (by omega) (by omega)
      · exact okAt_num (v := y) rfl (by omega) (by omega)
      · exact okAt_num (v := time) rfl (by omega) (by omega)
    · have m1 : numR (Lib.itoa ik) = some ik := numR_itoa ik (by omega) (by omega)
      have m2 : numR (Lib.itoa code) = some code := numR_itoa code (by omega) (by omega)
      have m3 : numR (Lib.itoa x) = some x := numR_itoa x (by omega) (by omega)
      have m4 : numR (Lib.itoa y) = some y := numR_itoa y (by omega) (by omega)
      have m5 : numR (Lib.itoa time) = some time := numR_itoa time (by omega) (by omega)
      simp only [refCand, nsR, List.map_cons, List.map_nil, n2, m1, m2, m3, m4, m5, Option.getD_some, List.getD_cons_zero, List.getD_cons_succ, List.length_cons, List.length_nil]
      rw [if_pos trivial, if_pos trivial, if_neg (by omega)]
  · obtain ⟨rfl, rfl, rfl, rfl, rfl, rfl⟩ := p2 (by omega)
    have hb : bytes = ⟨#[]⟩ := ba_ext (by simpa using p1 (by omega))
    subst hb
    have el : l = unwords [Lib.itoa 3, Lib.itoa client] := by
      refine cut10 _ ?_
      rw [← hline]; simp [En.line, En.ofClient, unwords, blanked]
    refine key [Lib.itoa 3, Lib.itoa client] ?_ ?_ ?_
    · rw [el]
      refine wordsOf_unwords _ _ ?_
      intro v hv
      simp at hv
      rcases hv with rfl | rfl <;> exact b32 _
    · intro i hi
      have : i = 0 ∨ i = 1 := by simp at hi; omega
      rcases this with rfl | rfl
      · exact okAt_num (v := 3) rfl (by omega) (by omega)
      · exact okAt_num (v := client) rfl (by omega) (by omega)
    · simp [refCand, nsR, n3, nc]
  · obtain ⟨rfl, rfl, rfl, rfl, rfl, rfl⟩ := p2 (by omega)
    have hb : bytes = ⟨#[]⟩ := ba_ext (by simpa using p1 (by omega))
    subst hb
    have el : l = unwords [Lib.itoa 4, Lib.itoa client] := by
      refine cut10 _ ?_
      rw [← hline]; simp [En.line, En.ofClient, unwords, blanked]
    refine key [Lib.itoa 4, Lib.itoa client] ?_ ?_ ?_
    · rw [el]
      refine wordsOf_unwords _ _ ?_
      intro v hv
      simp at hv
      rcases hv with rfl | rfl <;> exact b32 _
    · intro i hi
      have : i = 0 ∨ i = 1 := by simp at hi; omega
      rcases this with rfl | rfl
      · exact okAt_num (v := 4) rfl (by omega) (by omega)
      · exact okAt_num (v := client) rfl (by omega) (by omega)
    · simp [refCand, nsR, n4, nc]

theorem refEntry_eq (l : List UInt8) : refEntry l = recEntry l := by
  cases hr : recEntry l with
  | some e => exact refEntry_of_ok ((entry_iff l e).1 hr)
  | none =>
    unfold refEntry
    split
    · cases hc : refCand (wordsOf l) with
      | none => rfl
      | some e =>
        simp only [ifLine]
        split
        · next h =>
          have := (entry_iff l e).2 ⟨h.1, h.2, refCand_time hc⟩
          rw [hr] at this
          cases this
        · rfl
    · rfl
theorem hv_eq (c : UInt8) : hv c = if 48 ≤ (c.toNat : Int) ∧ (c.toNat : Int) ≤ 57 then (c.toNat : Int) - 48 else if 97 ≤ (c.toNat : Int) ∧ (c.toNat : Int) ≤ 102 then (c.toNat : Int) - 87 else -1 := by
  have H : ∀ n : Fin 256, hv (UInt8.ofNat n.val) = if 48 ≤ (n.val : Int) ∧ (n.val : Int) ≤ 57 then (n.val : Int) - 48 else if 97 ≤ (n.val : Int) ∧ (n.val : Int) ≤ 102 then (n.val : Int) - 87 else -1 := by decide +kernel
  have := H ⟨c.toNat, c.toNat_lt⟩
  simpa using this
end Go.Proofs.YtlgepoiaolhajaaDoor
