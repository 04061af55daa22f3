/-
  The helper hex: bytes as digits of base 16 onto a Builder.
-/
import Derived.Test.YtlgepoiaolhajaaDoorReText
namespace Go.Proofs.YtlgepoiaolhajaaDoor
open Go.RowKit
open Go.Lib (byteCells byteCells_length byteCells_append)

/-- A digit of base 16. -/
def hexD (n : Nat) : UInt8 := if n < 10 then UInt8.ofNat (48 + n) else UInt8.ofNat (87 + n)
def hexOf (l : List UInt8) : List UInt8 := l.flatMap fun c => [hexD (c.toNat / 16), hexD (c.toNat % 16)]
/-- What is written of bytes. -/
def hexed (l : List UInt8) : List UInt8 := if l = [] then [45] else hexOf l
theorem hexOf_snoc (l : List UInt8) (k : Nat) (h : k < l.length) : hexOf (l.take (k + 1)) = hexOf (l.take k) ++ [hexD (l[k].toNat / 16), hexD (l[k].toNat % 16)] := by
  unfold hexOf
  rw [List.take_succ_eq_append_getElem h, List.flatMap_append]
  simp
theorem hexOf_length (l : List UInt8) : (hexOf l).length = 2 * l.length := by
  unfold hexOf
  induction l with
  | nil => rfl
  | cons c r ih => rw [List.flatMap_cons, List.length_append, ih]; simp; omega

theorem digits_at (n : Nat) (h : n < 16) (h' : n < (ByteArray.mk #[48, 49, 50, 51, 52, 53, 54, 55, 56, 57, 97, 98, 99, 100, 101, 102]).size) : (ByteArray.mk #[48, 49, 50, 51, 52, 53, 54, 55, 56, 57, 97, 98, 99, 100, 101, 102])[n]'h' = hexD n := by
  obtain rfl | rfl | rfl | rfl | rfl | rfl | rfl | rfl | rfl | rfl | rfl | rfl | rfl | rfl | rfl | rfl : n = 0 ∨ n = 1 ∨ n = 2 ∨ n = 3 ∨ n = 4 ∨ n = 5 ∨ n = 6 ∨ n = 7 ∨ n = 8 ∨ n = 9 ∨ n = 10 ∨ n = 11 ∨ n = 12 ∨ n = 13 ∨ n = 14 ∨ n = 15 := by omega
  all_goals rfl
theorem toList_isEmpty_data (s : ByteArray) : s.toList.isEmpty = s.data.toList.isEmpty := by
  rw [Go.ByteArray.toList_eq]

set_option maxHeartbeats 1000000 in
theorem hex_any (B b : Nat) (l : List UInt8) (s : ByteArray) (w : World) (h : Bld B b l w) (hs : s.size ≤ 100000) (hlen : l.length ≤ 10000000000000) (hB : B ≤ w.heap.size) :
    Calls Tryd.prog 25 #[.pointer (some ⟨b, 0, none⟩), .string s] w (WrPost B b (l ++ hexed s.data.toList) (.tuple #[]) w) := by
  have HH := Lib.hid h
  clear h
  by_cases he : s.toList.isEmpty = true
  · have h0 : s.size = 0 := by
      rw [toList_isEmpty_data] at he
      have : s.data.toList = [] := List.isEmpty_iff.1 he
      have h2 : s.data.toList.length = 0 := by rw [this]; rfl
      simpa using h2
    have HX : Hid (hexed s.data.toList = [45]) := by
      rw [toList_isEmpty_data] at he
      show _ = _
      unfold hexed
      rw [if_pos (List.isEmpty_iff.1 he)]
    have hs0 : ¬ (0 : Int) < (s.size : Int) := by omega
    clear h0
    go_enter Tryd.func25, Tryd.ntmps25
    go_wp2_with (go_at_call 24; refine (writeByte_any B b l 45 _ HH.out (by omega) (by omega)).mono ?_; rintro r w1 ⟨rfl, h1, k1⟩)
    go_loopw [4, 11] (fun _ i wr => i = .int .i64 0 ∧ wr = w1) (fun _ _ _ => 0)
    case atStart => exact ⟨rfl, rfl⟩
    case round =>
      obtain ⟨rfl, rfl⟩ := hrel
      go_wp2
      go_end0
      exact ⟨rfl, by rw [HX.out]; exact h1, k1⟩
  · have he' : s.toList.isEmpty = false := by simpa using he
    clear he
    go_enter Tryd.func25, Tryd.ntmps25
    go_wp2
    go_loopw [4, 11] (fun _ i wr => ∃ k : Nat, k ≤ s.size ∧ i = .int .i64 k ∧ Bld B b (l ++ hexOf (s.data.toList.take k)) wr ∧ Kp B b w wr) (fun _ i _ => s.size - (intOf i).toNat)
    case atStart => exact ⟨0, by omega, rfl, by simpa [hexOf] using HH.out, Kp.refl _ _ _⟩
    case round =>
      obtain ⟨k, hk, rfl, hbl, hkp⟩ := hrel
      by_cases hlt : k < s.size
      · have hlt' : k < s.data.toList.length := by simpa using hlt
        have HS : Hid (hexOf (s.data.toList.take (k + 1)) = hexOf (s.data.toList.take k) ++ [hexD (s.data.toList[k].toNat / 16), hexD (s.data.toList[k].toNat % 16)]) := hexOf_snoc _ k hlt'
        have hb0 : s[k].toNat < 256 := s[k].toNat_lt
        have hb1 : s[k].toNat / 16 < 16 := by omega
        have hb2 : s[k].toNat % 16 < 16 := by omega
        have hsz := hkp.below.size
        have hp : (l ++ hexOf (s.data.toList.take k)).length ≤ 11000000000000 := by
          rw [List.length_append, hexOf_length, List.length_take]; omega
        generalize hexOf (s.data.toList.take k) = p at *
        have HP := Lib.hid hp
        have HP2 : Hid ((l ++ p ++ [hexD (s[k].toNat / 16)]).length ≤ 100000000000000) := by
          show _ ≤ _
          rw [List.length_append, List.length_singleton]; omega
        clear hp
        go_wp2_with fail
        rw [digits_at _ hb1]
        refine (writeByte_any B b (l ++ p) _ _ hbl (by have := HP.out; omega) (by omega)).mono ?_
        rintro r w1 ⟨rfl, h1, k1⟩
        have hs1 := k1.below.size
        go_wp2_with fail
        rw [digits_at _ hb2]
        refine (writeByte_any B b (l ++ p ++ [hexD (s[k].toNat / 16)]) _ _ h1 HP2.out (by omega)).mono ?_
        rintro r w2 ⟨rfl, h2, k2⟩
        have HX : Hid (Bld B b (l ++ (p ++ [hexD (s[k].toNat / 16), hexD (s[k].toNat % 16)])) w2) := by
          have : l ++ p ++ [hexD (s[k].toNat / 16)] ++ [hexD (s[k].toNat % 16)] = l ++ (p ++ [hexD (s[k].toNat / 16), hexD (s[k].toNat % 16)]) := by simp
          rw [this] at h2
          exact h2
        clear h2
        go_wp2
        go_roundw
        case rel => exact ⟨k + 1, by omega, by go_num, by rw [HS.out]; exact HX.out, (hkp.trans k1).trans k2⟩
        case measure => simp [intOf]; omega
      · have hkk : k = s.data.toList.length := by simp; omega
        have HB : Hid (Bld B b (l ++ hexed s.data.toList) wr) := by
          have h1 := hbl
          rw [hkk, List.take_length] at h1
          have h2 : s.data.toList ≠ [] := by
            rw [toList_isEmpty_data] at he'
            intro h; rw [h] at he'; simp at he'
          show Bld _ _ _ _
          unfold hexed
          rw [if_neg h2]
          exact h1
        clear hbl hkk
        go_wp2
        go_end0
        exact ⟨rfl, HB.out, hkp⟩
end Go.Proofs.YtlgepoiaolhajaaDoor
