/-
  What is read of a text: plain laws; no program is walked here.
-/
import Derived.Test.YtlgepoiaolhajaaDoorReLaw
namespace Go.Proofs.YtlgepoiaolhajaaDoor

/-- What Read answers: the entries; or the line that isn't one's, and the code. -/
inductive Rs where
  | good (es : List En)
  | bad (line : Nat) (code : Int)
deriving DecidableEq

def Rs.onto (e : En) : Rs → Rs
  | .good es => .good (e :: es)
  | .bad n c => .bad n c
def Rs.behind (es : List En) : Rs → Rs
  | .good fs => .good (es ++ fs)
  | .bad n c => .bad n c
theorem behind_onto (es : List En) (e : En) (r : Rs) : Rs.behind es (Rs.onto e r) = Rs.behind (es ++ [e]) r := by
  cases r with
  | good fs => simp [Rs.behind, Rs.onto]
  | bad n c => rfl
theorem behind_nil (r : Rs) : Rs.behind [] r = r := by cases r <;> rfl

/-- The lines of a text that end, and what is behind the last one. -/
def linesOf : List UInt8 → List (List UInt8) × List UInt8
  | [] => ([], [])
  | c :: r => if c = 10 then ([] :: (linesOf r).1, (linesOf r).2) else match (linesOf r).1 with | [] => ([], c :: (linesOf r).2) | h :: t => ((c :: h) :: t, (linesOf r).2)
theorem linesOf_none (a : List UInt8) (h : (10 : UInt8) ∉ a) : linesOf a = ([], a) := by
  induction a with
  | nil => rfl
  | cons c r ih =>
    simp only [List.mem_cons, not_or] at h
    unfold linesOf
    rw [if_neg (fun e => h.1 e.symm), ih h.2]
theorem linesOf_cons (a b : List UInt8) (h : (10 : UInt8) ∉ a) : linesOf (a ++ 10 :: b) = (a :: (linesOf b).1, (linesOf b).2) := by
  induction a with
  | nil => simp [linesOf]
  | cons c r ih =>
    simp only [List.mem_cons, not_or] at h
    rw [List.cons_append, linesOf, if_neg (fun e => h.1 e.symm), ih h.2]

def rdL : Nat → List (List UInt8) → List UInt8 → Rs
  | k, [], t => if t = [] then .good [] else .bad (k + 1) 2
  | k, a :: r, t => match recEntry a with | none => .bad (k + 1) 2 | some e => if 8192 < k + 1 then .bad (k + 1) 12 else Rs.onto e (rdL (k + 1) r t)
/-- What is read of a text behind k lines. -/
def rdFrom (k : Nat) (l : List UInt8) : Rs := rdL k (linesOf l).1 (linesOf l).2
theorem rdFrom_nil (k : Nat) : rdFrom k [] = .good [] := rfl
theorem rdFrom_none (k : Nat) (l : List UInt8) (h : (10 : UInt8) ∉ l) (h0 : l ≠ []) : rdFrom k l = .bad (k + 1) 2 := by
  unfold rdFrom
  rw [linesOf_none l h]
  simp only [rdL, if_neg h0]
theorem rdFrom_cons (k : Nat) (a b : List UInt8) (h : (10 : UInt8) ∉ a) : rdFrom k (a ++ 10 :: b) = match recEntry a with | none => .bad (k + 1) 2 | some e => if 8192 < k + 1 then .bad (k + 1) 12 else Rs.onto e (rdFrom (k + 1) b) := by
  unfold rdFrom
  rw [linesOf_cons a b h]
  simp only [rdL]

/-- An entry's line, without its end. -/
theorem line_body {e : En} (h : e.wrong = 0) (ht : 0 ≤ e.time) : ∃ a, e.line = a ++ [10] ∧ (10 : UInt8) ∉ a ∧ recEntry a = some e := by
  refine ⟨Lib.itoa e.kind ++ (if e.ofClient then blanked [e.client] else []) ++ (if e.kind = 1 then 32 :: hexed e.bytes.data.toList else if e.kind = 2 then blanked [e.ik, e.code, e.x, e.y, e.time] else []), rfl, ?_, entry_of_line ⟨h, rfl, ht⟩⟩
  have b10 : ∀ v : Int, (10 : UInt8) ∉ Lib.itoa v := fun v => itoa_no v 10 (by decide) (by decide)
  have bb : ∀ zs : List Int, (10 : UInt8) ∉ blanked zs := by
    intro zs hm
    unfold blanked at hm
    obtain ⟨z, _, hz⟩ := List.mem_flatMap.1 hm
    rcases List.mem_cons.1 hz with hz | hz
    · exact absurd hz (by decide)
    · exact b10 z hz
  have bh := hexed_no e.bytes.data.toList 10 (by decide) (by decide)
  simp only [List.mem_append, not_or]
  refine ⟨⟨b10 _, ?_⟩, ?_⟩
  · split
    · exact bb _
    · simp
  · split
    · simp only [List.mem_cons, not_or]; exact ⟨by decide, bh⟩
    · split
      · exact bb _
      · simp

theorem rd_text (es : List En) : ∀ k, k + es.length ≤ 8192 → (∀ e ∈ es, e.wrong = 0 ∧ 0 ≤ e.time) → rdFrom k (textOf es) = .good es := by
  induction es with
  | nil => intro k _ _; rfl
  | cons e r ih =>
    intro k hk hes
    obtain ⟨a, ha, hn, hr⟩ := line_body (hes e (by simp)).1 (hes e (by simp)).2
    have ht : textOf (e :: r) = a ++ 10 :: textOf r := by unfold textOf; rw [List.flatMap_cons, ha]; simp
    simp only [List.length_cons] at hk
    rw [ht, rdFrom_cons k a _ hn, hr]
    simp only []
    rw [if_neg (by omega), ih (k + 1) (by omega) (fun x hx => hes x (by simp [hx]))]
    rfl

/-- A text of entries, cut. -/
theorem rd_cut (es : List En) : ∀ k j, k + es.length ≤ 8192 → (∀ e ∈ es, e.wrong = 0 ∧ 0 ≤ e.time) → j ≤ (textOf es).length →
    ((j = 0 ∨ (textOf es)[j - 1]? = some 10) → ∃ n, n ≤ es.length ∧ rdFrom k ((textOf es).take j) = .good (es.take n)) ∧
    (¬ (j = 0 ∨ (textOf es)[j - 1]? = some 10) → ∃ n, rdFrom k ((textOf es).take j) = .bad (n + 1) 2) := by
  induction es with
  | nil =>
    intro k j _ _ hj
    have : j = 0 := by simpa [textOf] using hj
    subst this
    exact ⟨fun _ => ⟨0, by simp, rfl⟩, fun h => absurd (.inl rfl) h⟩
  | cons e r ih =>
    intro k j hk hes hj
    obtain ⟨a, ha, hn, hr⟩ := line_body (hes e (by simp)).1 (hes e (by simp)).2
    have ht : textOf (e :: r) = a ++ 10 :: textOf r := by unfold textOf; rw [List.flatMap_cons, ha]; simp
    simp only [List.length_cons] at hk
    rw [ht] at hj ⊢
    simp only [List.length_append, List.length_cons] at hj
    by_cases hlt : a.length < j
    · obtain ⟨i, rfl⟩ : ∃ i, j = a.length + 1 + i := ⟨j - a.length - 1, by omega⟩
      have et : (a ++ 10 :: textOf r).take (a.length + 1 + i) = a ++ 10 :: (textOf r).take i := by
        rw [List.take_append, List.take_of_length_le (by omega), show a.length + 1 + i - a.length = i + 1 from by omega, List.take_succ_cons]
      obtain ⟨ih1, ih2⟩ := ih (k + 1) i (by omega) (fun x hx => hes x (by simp [hx])) (by omega)
      have eg : (a.length + 1 + i = 0 ∨ (a ++ 10 :: textOf r)[a.length + 1 + i - 1]? = some 10) ↔ (i = 0 ∨ (textOf r)[i - 1]? = some 10) := by
        rw [List.getElem?_append_right (by omega), show a.length + 1 + i - 1 - a.length = i from by omega]
        cases i with
        | zero => simp
        | succ i => simp
      rw [et, rdFrom_cons k a _ hn, hr, eg]
      simp only []
      rw [if_neg (by omega)]
      refine ⟨fun h => ?_, fun h => ?_⟩
      · obtain ⟨n, hn', e1⟩ := ih1 h
        exact ⟨n + 1, by simp; omega, by rw [e1]; rfl⟩
      · obtain ⟨n, e1⟩ := ih2 h
        exact ⟨n, by rw [e1]; rfl⟩
    · have et : (a ++ 10 :: textOf r).take j = a.take j := by rw [List.take_append_of_le_length (by omega)]
      have hn' : (10 : UInt8) ∉ a.take j := fun h => hn (List.mem_of_mem_take h)
      rw [et]
      cases j with
      | zero => exact ⟨fun _ => ⟨0, by simp, rfl⟩, fun h => absurd (.inl rfl) h⟩
      | succ i =>
        have hai : i < a.length := by omega
        refine ⟨fun h => ?_, fun _ => ⟨k, rdFrom_none k _ hn' ?_⟩⟩
        · rcases h with h | h
          · omega
          · rw [Nat.add_sub_cancel, List.getElem?_append_left hai] at h
            exact absurd (List.mem_of_getElem? h) hn
        · intro h
          have := congrArg List.length h
          rw [List.length_take, List.length_nil] at this
          omega

/-- Too many lines. -/
theorem rd_full (e : En) (hw : e.wrong = 0) (ht : 0 ≤ e.time) (b : List UInt8) : ∀ m k, k + m = 8192 → rdFrom k (textOf (List.replicate m e) ++ (e.line ++ b)) = .bad 8193 12 := by
  obtain ⟨a, ha, hn, hr⟩ := line_body hw ht
  intro m
  induction m with
  | zero =>
    intro k hk
    simp only [List.replicate_zero, textOf, List.flatMap_nil, List.nil_append]
    rw [ha, List.append_assoc, List.singleton_append, rdFrom_cons k a _ hn, hr]
    simp only []
    rw [if_pos (by omega)]
    congr 1
    omega
  | succ m ih =>
    intro k hk
    have et : textOf (List.replicate (m + 1) e) ++ (e.line ++ b) = a ++ 10 :: (textOf (List.replicate m e) ++ (e.line ++ b)) := by
      rw [List.replicate_succ]
      unfold textOf
      rw [List.flatMap_cons, ha]
      simp
    rw [et, rdFrom_cons k a _ hn, hr]
    simp only []
    rw [if_neg (by omega), ih (k + 1) (by omega)]
    rfl

/-- What is read has just that text; each entry may be. -/
theorem rd_back (n : Nat) : ∀ k l es, l.length ≤ n → rdFrom k l = .good es → textOf es = l ∧ (∀ e ∈ es, e.wrong = 0 ∧ 0 ≤ e.time) ∧ k + es.length ≤ max k 8192 := by
  induction n with
  | zero =>
    intro k l es hl h
    have : l = [] := List.eq_nil_of_length_eq_zero (by omega)
    subst this
    rw [rdFrom_nil] at h
    injection h with h
    subst h
    exact ⟨rfl, by simp, by simp; omega⟩
  | succ n ih =>
    intro k l es hl h
    by_cases h10 : (10 : UInt8) ∈ l
    · obtain ⟨a, b, rfl, hn⟩ := first_of 10 l h10
      rw [rdFrom_cons k a b hn] at h
      cases hr : recEntry a with
      | none => rw [hr] at h; cases h
      | some e =>
        rw [hr] at h
        simp only [] at h
        split at h
        · cases h
        · next hk =>
          cases hf : rdFrom (k + 1) b with
          | bad n c => rw [hf] at h; cases h
          | good fs =>
            rw [hf] at h
            simp only [Rs.onto] at h
            injection h with h
            subst h
            obtain ⟨i1, i2, i3⟩ := ih (k + 1) b fs (by simp at hl; omega) hf
            obtain ⟨o1, o2, o3⟩ := line_of_entry hr
            refine ⟨?_, ?_, ?_⟩
            · unfold textOf at i1 ⊢
              rw [List.flatMap_cons, i1, o2]; simp
            · intro x hx
              rcases List.mem_cons.1 hx with rfl | hx
              · exact ⟨o1, o3⟩
              · exact i2 x hx
            · simp only [List.length_cons]; omega
    · by_cases h0 : l = []
      · subst h0
        rw [rdFrom_nil] at h
        injection h with h
        subst h
        exact ⟨rfl, by simp, by simp; omega⟩
      · rw [rdFrom_none k l h10 h0] at h
        cases h
end Go.Proofs.YtlgepoiaolhajaaDoor
