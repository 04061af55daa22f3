/-
  Plain laws of numerals and words: no program is walked here.
-/
import Derived.Test.YtlgepoiaolhajaaDoorReUnhex
import Derived.Test.YtlgepoiaolhajaaDoorReTxt
import Derived.Lib.AtoiAll
import Derived.Lib.AtoiAllCases
import Derived.Lib.Split
namespace Go.Proofs.YtlgepoiaolhajaaDoor

/-- Digits spell a number. -/
theorem parse_dec (n : Nat) : ∀ (acc : Nat) (r : List UInt8), n < 18446744073709551616 →
    acc * 10 ^ (Lib.decDigits n).length + n < 18446744073709551616 → Lib.parseUint10 acc (Lib.decDigits n ++ r) = Lib.parseUint10 (acc * 10 ^ (Lib.decDigits n).length + n) r := by
  induction n using Nat.strongRecOn with
  | ind n ih =>
    intro acc r hn hb
    by_cases h10 : n < 10
    · rw [Lib.decDigits_one h10] at hb ⊢
      simp only [List.length_singleton, Nat.pow_one, List.singleton_append] at hb ⊢
      have hd : (UInt8.ofNat (48 + n)).toNat = 48 + n := by simp; omega
      simp only [Lib.parseUint10, hd]
      rw [if_pos (by omega), if_neg (by omega), if_neg (by omega)]
      congr 1
      omega
    · have hdec : Lib.decDigits n = Lib.decDigits (n / 10) ++ [UInt8.ofNat (48 + n % 10)] := by rw [Lib.decDigits, dif_neg h10]
      rw [hdec] at hb ⊢
      rw [List.length_append, List.length_singleton, Nat.pow_succ] at hb ⊢
      have hmul : acc * (10 ^ (Lib.decDigits (n / 10)).length * 10) = acc * 10 ^ (Lib.decDigits (n / 10)).length * 10 := by rw [Nat.mul_assoc]
      rw [hmul] at hb ⊢
      rw [List.append_assoc, ih (n / 10) (by omega) acc _ (by omega) (by omega)]
      have hd : (UInt8.ofNat (48 + n % 10)).toNat = 48 + n % 10 := by simp; omega
      simp only [List.singleton_append, Lib.parseUint10, hd]
      rw [if_pos (by omega), if_neg (by omega), if_neg (by omega)]
      congr 1
      omega

theorem dec_ne_nil (n : Nat) : Lib.decDigits n ≠ [] := by
  rw [Lib.decDigits]
  split <;> simp
/-- Every byte of a decimal numeral is a digit. -/
theorem dec_digit (n : Nat) : ∀ c ∈ Lib.decDigits n, 48 ≤ c.toNat ∧ c.toNat ≤ 57 := by
  induction n using Nat.strongRecOn with
  | ind n ih =>
    intro c hc
    rw [Lib.decDigits] at hc
    split at hc
    · next h =>
      simp only [List.mem_singleton] at hc
      subst hc
      have : (UInt8.ofNat (48 + n)).toNat = 48 + n := by simp; omega
      omega
    · next h =>
      rcases List.mem_append.1 hc with h1 | h1
      · exact ih (n / 10) (by omega) c h1
      · simp only [List.mem_singleton] at h1
        subst h1
        have : (UInt8.ofNat (48 + n % 10)).toNat = 48 + n % 10 := by simp; omega
        omega

theorem mag_dec (n : Nat) (h : n < 18446744073709551616) : Lib.parseMag (Lib.decDigits n) = .ok n := by
  unfold Lib.parseMag
  rw [if_neg (dec_ne_nil n)]
  have := parse_dec n 0 [] h (by omega)
  rw [List.append_nil, Nat.zero_mul, Nat.zero_add] at this
  rw [this]
  rfl

/-- A numeral is read as its number. -/
theorem atoi_itoa (v : Int) (h0 : -9223372036854775808 ≤ v) (h1 : v ≤ 9223372036854775807) : Lib.atoiAll (Lib.itoa v) = .ok v := by
  by_cases hn : v < 0
  · have e : Lib.itoa v = 45 :: Lib.decDigits v.natAbs := by unfold Lib.itoa; rw [if_pos hn]
    rw [e]
    simp only [Lib.atoiAll]
    have h45 : (45 : UInt8).toNat = 45 := rfl
    rw [h45, if_pos (by omega), mag_dec _ (by omega)]
    simp only []
    rw [if_neg (by simp), if_neg (by omega), if_pos trivial]
    congr 1
    omega
  · have e : Lib.itoa v = Lib.decDigits v.toNat := by unfold Lib.itoa; rw [if_neg hn]
    rw [e]
    obtain ⟨c, r, hcr⟩ : ∃ c r, Lib.decDigits v.toNat = c :: r := by
      cases h : Lib.decDigits v.toNat with
      | nil => exact absurd h (dec_ne_nil _)
      | cons c r => exact ⟨c, r, rfl⟩
    have hc := dec_digit v.toNat c (by rw [hcr]; simp)
    have hm := mag_dec v.toNat (by omega)
    rw [hcr] at hm ⊢
    simp only [Lib.atoiAll]
    rw [if_neg (by omega), hm]
    simp only []
    rw [if_neg (by omega), if_neg (by omega), if_neg (by omega)]
    congr 1
    omega

/-- The number of which a word is the numeral, if it is one's. -/
def num? (l : List UInt8) : Option Int := match Lib.atoiAll l with | .ok v => if Lib.itoa v = l then some v else none | _ => none
theorem atoi_bounds {l : List UInt8} {v : Int} (h : Lib.atoiAll l = .ok v) : -9223372036854775808 ≤ v ∧ v ≤ 9223372036854775807 := Lib.atoiAll_bounds h
theorem num_iff (l : List UInt8) (v : Int) : num? l = some v ↔ Lib.itoa v = l ∧ -9223372036854775808 ≤ v ∧ v ≤ 9223372036854775807 := by
  constructor
  · intro h
    unfold num? at h
    split at h
    · next u hu =>
      split at h
      · next he =>
        injection h with h
        subst h
        exact ⟨he, atoi_bounds hu⟩
      · cases h
    · cases h
  · rintro ⟨rfl, h0, h1⟩
    unfold num?
    rw [atoi_itoa v h0 h1]
    simp
theorem itoa_inj {a b : Int} (h : Lib.itoa a = Lib.itoa b) (ha : -9223372036854775808 ≤ a ∧ a ≤ 9223372036854775807) (hb : -9223372036854775808 ≤ b ∧ b ≤ 9223372036854775807) : a = b := by
  have h1 := atoi_itoa a ha.1 ha.2
  rw [h, atoi_itoa b hb.1 hb.2] at h1
  injection h1 with h1
  exact h1.symm
theorem itoa_bytes (v : Int) : ∀ c ∈ Lib.itoa v, c = 45 ∨ (48 ≤ c.toNat ∧ c.toNat ≤ 57) := by
  intro c hc
  unfold Lib.itoa at hc
  split at hc
  · rcases List.mem_cons.1 hc with h | h
    · exact .inl h
    · exact .inr (dec_digit _ c h)
  · exact .inr (dec_digit _ c hc)
theorem itoa_ne_nil (v : Int) : Lib.itoa v ≠ [] := by
  unfold Lib.itoa
  split
  · simp
  · exact dec_ne_nil _
end Go.Proofs.YtlgepoiaolhajaaDoor
