/-
  The reference's digits: the number in tens.
-/
import Derived.Test.YtlgepoiaolhajaaDoorReTxt
import Derived.Deep.RegionWith
import Derived.Laws.IdiomStrings
namespace Go.Proofs.YtlgepoiaolhajaaDoor
open Go.RowKit

def StrP (s : ByteArray) (w : World) (e : Ending) (w' : World) : Prop := e = .returned (.string s) ∧ Below w.heap.size w w'

theorem str_append (a b : List UInt8) : (ByteArray.mk a.toArray) ++ (ByteArray.mk b.toArray) = ByteArray.mk (a ++ b).toArray := by
  apply ByteArray.ext
  rw [ByteArray.data_append]
  simp
theorem ret_str {x y : ByteArray} (h : x = y) : Ending.returned (.string x) = .returned (.string y) := by rw [h]

theorem conv_byte (W : World) (g : Nat) (m : Nat) (hm : m < 256) (h : W.cell? ⟨g, 0, none⟩ = some (.int .u8 (m : Int))) :
    (convert 50 9 (.slice (some ⟨g, 0, none⟩) 1 1)).run Tryd.prog W = .ok (.string ⟨#[UInt8.ofNat m]⟩) W := by
  refine run_convert_bytes_back W _ _ 5 ⟨g, 0, none⟩ 1 [UInt8.ofNat m] Tryd.underlying50 Tryd.underlying5 Tryd.underlying9 ?_
  intro j hj
  obtain rfl : j = 0 := by simp at hj; exact hj
  have : (UInt8.ofNat m).toNat = m := by simp; omega
  simp only [List.getElem_cons_zero]
  rw [this]
  simpa [Addr.add] using h

set_option maxHeartbeats 1000000 in
set_option maxRecDepth 100000 in
theorem digits_nat (k : Nat) : ∀ (a : Int) (w : World), 0 ≤ a → a ≤ k → a ≤ 5000000000 →
    Calls Tryd.prog 18 #[.int .i64 a] w (StrP ⟨(Lib.decDigits a.toNat).toArray⟩ w) := by
  induction k with
  | zero =>
    intro a w h0 hn hb
    obtain rfl : a = 0 := by omega
    have hcv : ∀ W g, W.cell? ⟨g, 0, none⟩ = some (.int .u8 (48 : Int)) → (convert 50 9 (.slice (some ⟨g, 0, none⟩) 1 1)).run Tryd.prog W = .ok (.string ⟨#[48]⟩) W := fun W g h => conv_byte W g 48 (by omega) h
    go_enter Tryd.func18, Tryd.ntmps18
    go_wp2_with fail
    go_ret
    have h0 : Lib.decDigits (0 : Int).toNat = [48] := by rw [Lib.decDigits_one (by decide)]; rfl
    exact ⟨by rw [h0]; rfl, (Below.refl _ _).alloc (Nat.le_refl _) _⟩
  | succ k ih =>
    intro a w h0 hn hb
    obtain ⟨n, rfl⟩ := Int.eq_ofNat_of_zero_le h0
    rw [Int.toNat_natCast]
    have IH := Lib.hid ih
    clear ih
    by_cases h10 : n < 10
    · have hcv : ∀ W g, W.cell? ⟨g, 0, none⟩ = some (.int .u8 (48 + (n : Int))) → (convert 50 9 (.slice (some ⟨g, 0, none⟩) 1 1)).run Tryd.prog W = .ok (.string ⟨#[UInt8.ofNat (48 + n)]⟩) W := fun W g h => conv_byte W g (48 + n) (by omega) (by rw [h]; rfl)
      have HD : Hid (Lib.decDigits n = [UInt8.ofNat (48 + n)]) := Lib.decDigits_one h10
      generalize UInt8.ofNat (48 + n) = ch at *
      go_enter Tryd.func18, Tryd.ntmps18
      go_wp2_with fail
      go_ret
      exact ⟨by rw [HD.out]; rfl, (Below.refl _ _).alloc (Nat.le_refl _) _⟩
    · have HD : Hid (Lib.decDigits n = Lib.decDigits (n / 10) ++ [UInt8.ofNat (48 + n % 10)]) := by
        show _ = _
        rw [Lib.decDigits, dif_neg h10]
      go_enter Tryd.func18, Tryd.ntmps18
      go_wp2_with fail
      have e1 : IntKind.i64.wrap ((n : Int) / 10) = (n : Int) / 10 := IntWalk.i64_in _ (by omega)
      have e2 : (n : Int).tmod 10 = (n : Int) % 10 := Int.tmod_eq_emod_of_nonneg (by omega)
      have e3 : IntKind.i64.wrap (48 + (n : Int) % 10) = 48 + (n : Int) % 10 := IntWalk.i64_in _ (by omega)
      have e4 : IntKind.u8.wrap (48 + (n : Int) % 10) = 48 + (n : Int) % 10 := by rw [IntKind.wrap_u8]; omega
      have hcv : ∀ W g, W.cell? ⟨g, 0, none⟩ = some (.int .u8 (48 + (n : Int) % 10)) → (convert 50 9 (.slice (some ⟨g, 0, none⟩) 1 1)).run Tryd.prog W = .ok (.string ⟨#[UInt8.ofNat (48 + n % 10)]⟩) W := fun W g h => conv_byte W g (48 + n % 10) (by omega) (by rw [h]; rfl)
      generalize UInt8.ofNat (48 + n % 10) = ch at *
      have hl : (Lib.decDigits (n / 10)).length ≤ 21 := by
        have := Lib.itoa_length_le ((n / 10 : Nat) : Int) (by omega) (by omega)
        rw [Lib.itoa_nonneg] at this
        exact this
      have HQ : Hid (Lib.decDigits ((n : Int) / 10).toNat = Lib.decDigits (n / 10)) := by
        show _ = _
        congr 1
      generalize Lib.decDigits (n / 10) = dl at *
      go_region_with (go_at_call 18; refine (IH.out ((n : Int) / 10) _ (by omega) (by omega) (by omega)).mono ?_; rintro e w1 ⟨rfl, hb1⟩; rw [HQ.out]; obtain ⟨bc1, bf1⟩ := bcell hb1)
      all_goals
        go_wp2
        go_ret
        rw [HD.out]
        refine ⟨?_, ?_⟩
        · exact ret_str (str_append dl [ch])
        · first
          | exact (((Below.refl _ _).drew.trans (hb1.mono (by simp))).alloc (by have := hb1.size; simp at this; omega) _)
          | exact (((Below.refl _ _).drew.alloc (by simp) _).trans (hb1.mono (by simp)))

set_option maxHeartbeats 1000000 in
set_option maxRecDepth 100000 in
/-- digits of any number that is not too great. -/
theorem digits_any (a : Int) (w : World) (h0 : -5000000000 ≤ a) (h1 : a ≤ 5000000000) :
    Calls Tryd.prog 18 #[.int .i64 a] w (StrP ⟨(Lib.itoa a).toArray⟩ w) := by
  by_cases hn : 0 ≤ a
  · have e : Lib.itoa a = Lib.decDigits a.toNat := by unfold Lib.itoa; rw [if_neg (by omega)]
    rw [e]
    exact digits_nat a.toNat a w hn (by omega) h1
  · have HE : Hid (Lib.itoa a = [45] ++ Lib.decDigits (-a).toNat) := by
      show _ = _
      unfold Lib.itoa
      rw [if_pos (by omega), show a.natAbs = (-a).toNat from by omega]
      rfl
    have HC := Lib.hid (digits_nat (-a).toNat (-a) w (by omega) (by omega) (by omega))
    have hl : (Lib.decDigits (-a).toNat).length ≤ 21 := by
      have := Lib.itoa_length_le (((-a).toNat : Nat) : Int) (by omega) (by omega)
      rw [Lib.itoa_nonneg] at this
      exact this
    generalize Lib.decDigits (-a).toNat = dl at *
    have hneg : a < 0 := by omega
    go_enter Tryd.func18, Tryd.ntmps18
    go_wp2_with (go_at_call 18; refine HC.out.mono ?_; rintro e w1 ⟨rfl, hb1⟩)
    go_ret
    rw [HE.out]
    exact ⟨ret_str (str_append [45] dl), hb1⟩
end Go.Proofs.YtlgepoiaolhajaaDoor
