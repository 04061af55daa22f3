/-
  A tape's text: the helpers number and hex write onto a Builder; Text is the lines, one behind the other.
-/
import Derived.Test.YtlgepoiaolhajaaDoorShelf
import Derived.Test.YtlgepoiaolhajaaDoorReAdd
import Derived.Test.YtlgepoiaolhajaaDoorBuilder
import Derived.WalkSmall
import Derived.Lib.AppendIntMem
import Derived.Lib.ItoaLen
import Derived.Lib.OthersKept
namespace Go.Proofs.YtlgepoiaolhajaaDoor
open Go.RowKit
open Go.Lib (byteCells byteCells_length byteCells_append tabBelow_of_tabIs below_grow itoa_length_le)

/-- The table of Go's library that Itoa reads. -/
def Tab (w : World) : Prop := Lib.TabIs Tryd.prog w "internal/strconv.uint64pow10" .u64 Lib.pow10Tab
theorem Tab.below {w w' : World} (h : Tab w) (hb : Below w.heap.size w w') : Tab w' := tabBelow_of_tabIs h w' hb

theorem itoa_any (n : Int) (h0 : -9223372036854775808 ≤ n) (h1 : n ≤ 9223372036854775807) (w : World) (ht : Tab w) :
    Calls Tryd.prog 21 #[.int .i64 n] w fun e w' => e = .returned (.string ⟨(Lib.itoa n).toArray⟩) ∧ Below w.heap.size w w' :=
  (Tryd.strconv_Itoa n h0 h1 w ht).mono fun _ _ ⟨he, k, os, hw⟩ => ⟨he, by rw [hw]; exact below_grow _ w (Nat.le_refl _) k os⟩

/-- A Builder at block b, of blocks from B on, holds the bytes l. -/
def Bld (B b : Nat) (l : List UInt8) (w : World) : Prop := Lib.IsBuilderF 58 5 B b (byteCells l) w
/-- What was, is, but for block b and rows of bytes from B on. -/
structure Kp (B b : Nat) (w w' : World) : Prop where
  below : Below B w w'
  others : Lib.OthersKept 5 (some b) w w'
theorem Kp.refl (B b : Nat) (w : World) : Kp B b w w := ⟨Below.refl _ _, Lib.OthersKept.refl _ _ _⟩
theorem Kp.trans {B b : Nat} {w1 w2 w3 : World} (h : Kp B b w1 w2) (k : Kp B b w2 w3) : Kp B b w1 w3 := ⟨h.below.trans k.below, h.others.trans k.others⟩
theorem Kp.of_below {B b : Nat} {w w' : World} (h : Below w.heap.size w w') (hB : B ≤ w.heap.size) : Kp B b w w' :=
  ⟨h.mono hB, fun k o hk _ _ => by
    have hlt : k < w.heap.size := by
      rcases Nat.lt_or_ge k w.heap.size with hlt | hge
      · exact hlt
      · rw [Array.getElem?_eq_none hge] at hk; cases hk
    rw [h.block k hlt, hk]⟩
theorem Kp.box {B b : Nat} {w w' : World} (h : Kp B b w w') {g : Nat} {t : TypeId} {cs : Array Value} (hg : Box w g t cs) (hne : g ≠ b) (ht : t ≠ 5) : Box w' g t cs :=
  h.others g _ hg (fun e => hne (by injection e)) (fun c fz e => by injection e with _ e2; exact ht e2)
theorem Bld.below {B b : Nat} {l : List UInt8} {w w' : World} (h : Bld B b l w) (hb : Below w.heap.size w w') : Bld B b l w' := by
  have key : ∀ p, Lib.BuilderAtF 58 5 B b p (byteCells l) w → Lib.BuilderAtF 58 5 B b p (byteCells l) w' := by
    intro p hp
    have hlt := hp.lt
    obtain ⟨hB, v, hc, hown, hne⟩ := hp
    exact ⟨hB, v, (hb.block b hlt).trans hc, hown.kept (row := none) ⟨hb.os, hb.tape, hb.output, hb.size, fun i hi _ => hb.block i hi⟩ (by cases h : v.ownBlock <;> simp), hne⟩
  rcases h with h | h
  · exact .inl (key _ h)
  · exact .inr (key _ h)
theorem Bld.lt {B b : Nat} {l : List UInt8} {w : World} (h : Bld B b l w) : b < w.heap.size := by
  rcases h with h | h <;> exact h.lt

def WrPost (B b : Nat) (l : List UInt8) (v : Value) (w : World) (e : Ending) (w' : World) : Prop := e = .returned v ∧ Bld B b l w' ∧ Kp B b w w'

theorem writeByte_any (B b : Nat) (l : List UInt8) (c : UInt8) (w : World) (h : Bld B b l w) (hlen : l.length ≤ 100000000000000) (hB : B ≤ w.heap.size) :
    Calls Tryd.prog 24 #[.pointer (some ⟨b, 0, none⟩), .int .u8 c.toNat] w (WrPost B b (l ++ [c]) .nilIface w) :=
  (WriteByte_k B b (byteCells l) c.toNat w h (by rw [byteCells_length]; omega) hB).mono fun _ _ ⟨he, hb, h1, h2⟩ => ⟨he, .inr (by rw [byteCells_append]; exact hb), ⟨h1, h2⟩⟩
theorem writeString_any (B b : Nat) (l s : List UInt8) (w : World) (h : Bld B b l w) (hlen : l.length + s.length ≤ 100000000000000) (hB : B ≤ w.heap.size) :
    Calls Tryd.prog 20 #[.pointer (some ⟨b, 0, none⟩), .string ⟨s.toArray⟩] w (WrPost B b (l ++ s) (.tuple #[.int .i64 s.length, .nilIface]) w) :=
  (WriteString_k B b (byteCells l) ⟨s.toArray⟩ w h (by rw [byteCells_length, show (ByteArray.mk s.toArray).size = s.length from by simp [ByteArray.size]]; omega) hB).mono fun _ _ ⟨he, hb, h1, h2⟩ =>
    ⟨by rw [he]; simp [ByteArray.size], .inr (by rw [byteCells_append]; exact hb), ⟨h1, h2⟩⟩
theorem string_any (B b : Nat) (l : List UInt8) (w : World) (h : Bld B b l w) (hB : B ≤ w.heap.size) :
    Calls Tryd.prog 26 #[.pointer (some ⟨b, 0, none⟩)] w (WrPost B b l (.string ⟨l.toArray⟩) w) :=
  (Tryd.Builder_String_any_k B b l w h hB).mono fun _ _ ⟨he, hb, h1, h2⟩ => ⟨he, hb, ⟨h1, h2⟩⟩

/-- Numbers, each behind a blank. -/
def blanked (zs : List Int) : List UInt8 := zs.flatMap fun z => 32 :: Lib.itoa z
theorem blanked_snoc (zs : List Int) (k : Nat) (h : k < zs.length) : blanked (zs.take (k + 1)) = blanked (zs.take k) ++ (32 :: Lib.itoa zs[k]) := by
  unfold blanked
  rw [List.take_succ_eq_append_getElem h, List.flatMap_append]
  simp
theorem blanked_length (zs : List Int) (hz : ∀ z ∈ zs, -9223372036854775808 ≤ z ∧ z ≤ 9223372036854775807) : (blanked zs).length ≤ zs.length * 22 := by
  induction zs with
  | nil => simp [blanked]
  | cons z r ih =>
    have h1 := ih (fun x hx => hz x (by simp [hx]))
    have h2 := itoa_length_le z (hz z (by simp)).1 (hz z (by simp)).2
    unfold blanked at h1 ⊢
    rw [List.flatMap_cons, List.length_append, List.length_cons]
    simp only [List.length_cons]
    omega

set_option maxHeartbeats 1000000 in
theorem number_any (B b g : Nat) (l : List UInt8) (zs : List Int) (w : World) (h : Bld B b l w) (hg : Box w g 3 (zs.map (Value.int .i64)).toArray) (hgb : g ≠ b)
    (hz : ∀ z ∈ zs, -9223372036854775808 ≤ z ∧ z ≤ 9223372036854775807) (hn : zs.length ≤ 5) (hlen : l.length ≤ 10000000000000) (hB : B ≤ w.heap.size) (ht : Lib.TabBelow Tryd.prog B w "internal/strconv.uint64pow10" .u64 Lib.pow10Tab) :
    Calls Tryd.prog 23 #[.pointer (some ⟨b, 0, none⟩), .slice (some ⟨g, 0, none⟩) zs.length zs.length] w (WrPost B b (l ++ blanked zs) (.tuple #[]) w) := by
  have HH := Lib.hid h
  have HG := Lib.hid hg
  have HT := Lib.hid ht
  have HZ := Lib.hid hz
  clear h hg ht hz
  go_enter Tryd.func23, Tryd.ntmps23
  go_wp2
  go_loopw [8] (fun i wr => ∃ k : Nat, k ≤ zs.length ∧ i = .int .i64 k ∧ Bld B b (l ++ blanked (zs.take k)) wr ∧ Kp B b w wr) (fun i _ => zs.length - (intOf i).toNat)
  case atStart => exact ⟨0, by omega, rfl, by simpa [blanked] using HH.out, Kp.refl _ _ _⟩
  case round =>
    obtain ⟨k, hk, rfl, hbl, hkp⟩ := hrel
    by_cases hlt : k < zs.length
    · have hgr := hkp.box HG.out hgb (by decide)
      have hc : wr.cell? ⟨g, k, none⟩ = some (.int .i64 zs[k]) := by
        rw [hgr.cell k]; simp [hlt]
      have hzk := HZ.out zs[k] (List.getElem_mem hlt)
      have HS : Hid (blanked (zs.take (k + 1)) = blanked (zs.take k) ++ (32 :: Lib.itoa zs[k])) := blanked_snoc zs k hlt
      have hl0 : (blanked (zs.take k)).length ≤ 5 * 22 := by
        have h1 := blanked_length (zs.take k) (fun z hz => HZ.out z (List.mem_of_mem_take hz))
        have h2 : (zs.take k).length ≤ 5 := by rw [List.length_take]; omega
        omega
      generalize zs[k] = z at *
      generalize hp : blanked (zs.take k) = p at *
      clear hp
      have hl1 : (l ++ p).length ≤ 11000000000000 := by rw [List.length_append]; omega
      have hil := itoa_length_le z hzk.1 hzk.2
      have HL2 : Hid ((l ++ p ++ [32]).length + (Lib.itoa z).length ≤ 100000000000000) := by
        show _ ≤ _
        rw [List.length_append, List.length_singleton]
        omega
      have HL := Lib.hid hl1
      clear hl1 hil hl0
      have hbs := hkp.below.size
      go_wp2_with (first
        | (go_at_call 24; refine (writeByte_any B b (l ++ p) 32 _ hbl (by have := HL.out; omega) (by omega)).mono ?_; rintro r w1 ⟨rfl, hb1, hk1⟩; have hs1 := hk1.below.size)
        | (go_at_call 21; refine (itoa_any z hzk.1 hzk.2 _ (HT.out _ (hkp.below.trans hk1.below))).mono ?_; rintro r w2 ⟨rfl, hb2⟩; have hs2 := hb2.size)
        | (go_at_call 20; refine (writeString_any B b (l ++ p ++ [32]) (Lib.itoa z) _ (hb1.below hb2) HL2.out (by omega)).mono ?_; rintro r w3 ⟨rfl, hb3, hk3⟩; have hs3 := hk3.below.size))
      go_roundw
      case rel => exact ⟨k + 1, by omega, by go_num, by rw [HS.out]; simpa using hb3, ((hkp.trans hk1).trans (Kp.of_below hb2 (by omega))).trans hk3⟩
      case measure => simp [intOf]; omega
    · have hkk : k = zs.length := by omega
      rw [hkk, List.take_length] at hbl
      go_wp2
      go_end0
      exact ⟨rfl, hbl, hkp⟩
end Go.Proofs.YtlgepoiaolhajaaDoor
