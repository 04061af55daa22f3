/-
  NamesRound: true, whatever comes in: as a row's arguments give it.
-/
import Derived.Test.YtnjpdipombnigaaGreatDoorNsY
import Derived.ChangeSlices
import Derived.WideShapes
namespace Go.Proofs.YtnjpdipombnigaaGreatDoor
namespace Ev
open Go.RowKit

/-- Whole numbers that came in, and where they lie. -/
def IntsAt (w : World) (v : Value) (xs : List Int) : Prop :=
  (v = .slice none 0 0 ∧ xs = []) ∨ ∃ (b off cap : Nat) (c : Array Value) (e : TypeId) (f : Nat × Nat), v = .slice (some ⟨b, off, none⟩) xs.length cap ∧ xs.length ≤ cap ∧ w.heap[b]? = some (.cells c e f) ∧ ∀ i x, xs[i]? = some x → c[off + i]? = some (.int .i64 x)
theorem ints_at {H : Type} {enc : TypeId × Value → H} {P : Program} {w : World} {t e : TypeId} {fuel b0 : Nat} {a0 : Option Addr} {len0 cap0 : Nat} {x : DataW H × List MemPlace} (ht : P.underlying t = some (.slice e)) (he : P.underlying e = some (.int .i64)) (hc : P.cellsOf e = 1)
    (hok : Value.okWide P w .any b0 t (.slice a0 len0 cap0)) (h : DataW.trod enc P w 0 (fun _ => true) true fuel t [.slice a0 len0 cap0] = some x) : ∃ xs, IntsAt w (.slice a0 len0 cap0) xs := by
  rcases Go.ChangeShapes.open_ints ht he hc h with ⟨hcs, _⟩ | ⟨a, len, cap, zs, hcs, _, hl, _, hz, _, hcell, hw⟩
  · exact ⟨[], .inl ⟨(List.cons.inj hcs).1, rfl⟩⟩
  · have hv := (List.cons.inj hcs).1
    rw [hv] at hok ⊢
    have hz : zs.length = cap := by simpa using hz
    have hlt : (zs.take len).length = len := by rw [List.length_take]; omega
    simp only [Value.okWide, ht, Cell.okWide, Cell.ok] at hok
    obtain ⟨_, _, _, hspot, row, cells, hsh, _⟩ := hok
    obtain ⟨b, off, spot⟩ := a
    have hspot : spot = none := hspot
    subst hspot
    unfold World.shape? at hsh
    split at hsh
    · rename_i c e' f hh
      refine ⟨zs.take len, .inr ⟨b, off, cap, c, e', f, by rw [hlt], by omega, hh, fun i y hi => ?_⟩⟩
      obtain ⟨hi1, hi2⟩ := List.getElem?_eq_some_iff.1 hi
      have hi3 : i < zs.length := by omega
      have h1 := hcell i hi3
      rw [List.getD_eq_getElem?_getD, List.getElem?_eq_getElem hi3] at h1
      rw [List.getElem_take] at hi2
      have hh' : w.heap[b]? = some (.cells c e' f) := hh
      rw [addr_add] at h1
      simp only [World.cell?, hh'] at h1
      rw [← hi2]
      simpa using h1
    · cases hsh
theorem reprL_nums {K : Nat → Prop} {hp : Nat → Option Obj} : ∀ l : List Int, ReprL K hp (numD l) (l.map (Value.int .i64))
  | [] => .nil
  | _ :: r => .cons (.v rfl) (reprL_nums r)
theorem names_any {w : World} (ht : TabsIn w nsTabs) {v : Value} {xs : List Int} (hI : IntsAt w v xs) {z : Int} (hz : 0 ≤ z ∧ z ≤ 255) {s : ByteArray} (_ : s.size ≤ maxLen) :
    Calls Tryz.prog 3 #[v, .int .u8 z, .string s] w fun e w' => e = .returned (.bool true) ∧ Below w.heap.size w w' := by
  have h := round_any (l := xs) (z := z) (s := s.data.toList) hz.1 hz.2
  have hs : (⟨s.data.toList.toArray⟩ : ByteArray) = s := by
    cases s
    simp
  have hv : Repr (fun b => b < w.heap.size) (fun b => w.heap[b]?) (rowI xs) v := by
    rcases hI with ⟨rfl, rfl⟩ | ⟨b, off, cap, c, e, f, rfl, hl, hh, hx⟩
    · exact .nil
    · refine .sl (b := b) (off := off) (z := 1) (us := xs.map (Value.int .i64)) ((Array.getElem?_eq_some_iff.1 hh).1) hh (by simp) hl (fun j u hj => ?_) (reprL_nums xs)
      rw [List.getElem?_map] at hj
      obtain ⟨x, h1, rfl⟩ := Option.map_eq_some_iff.1 hj
      exact hx j x h1
  refine (h (fun b => b < w.heap.size) w #[v, .int .u8 z, .string s] (fun b hb => hb) ht (.cons (.c hv) (.cons (.c (.v rfl)) (.cons (.c (by rw [hs]; exact .v rfl)) .nil)))).mono ?_
  rintro e w' ⟨u, rfl, hb, hu⟩
  refine ⟨?_, hb⟩
  cases hu with
  | c hu =>
    cases hu
    rfl
end Ev
end Go.Proofs.YtnjpdipombnigaaGreatDoor
