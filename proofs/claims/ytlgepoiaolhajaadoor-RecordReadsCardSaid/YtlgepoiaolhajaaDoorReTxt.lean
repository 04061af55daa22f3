/-
  A tape's Text: the lines of its entries, one behind the other.
-/
import Derived.Test.YtlgepoiaolhajaaDoorReHex
namespace Go.Proofs.YtlgepoiaolhajaaDoor
open Go.RowKit
open Go.Lib (byteCells byteCells_length byteCells_append)

/-- An entry's line. -/
def En.line (e : En) : List UInt8 :=
  Lib.itoa e.kind ++ (if e.ofClient then blanked [e.client] else []) ++ (if e.kind = 1 then 32 :: hexed e.bytes.data.toList else if e.kind = 2 then blanked [e.ik, e.code, e.x, e.y, e.time] else []) ++ [10]
def textOf (es : List En) : List UInt8 := es.flatMap En.line
theorem textOf_snoc (es : List En) (k : Nat) (h : k < es.length) : textOf (es.take (k + 1)) = textOf (es.take k) ++ es[k].line := by
  unfold textOf
  rw [List.take_succ_eq_append_getElem h, List.flatMap_append]
  simp

theorem wrong_zero {e : En} (h : e.wrong = 0) : 0 ≤ e.kind ∧ e.kind ≤ 4 ∧ 0 ≤ e.client ∧ e.client ≤ 8 ∧ e.bytes.size ≤ 65536 ∧
    (e.kind = 2 → 1 ≤ e.ik ∧ e.ik ≤ 5 ∧ 0 ≤ e.code ∧ e.code ≤ 255 ∧ -32768 ≤ e.x ∧ e.x ≤ 32767 ∧ -32768 ≤ e.y ∧ e.y ≤ 32767 ∧ e.time < 2147483648 ∧ e.count = 0) := by
  unfold En.wrong at h
  split at h
  · simp at h
  · next h1 =>
    simp at h1
    split at h
    · simp at h
    · next h2 =>
      split at h
      · simp at h
      · next h3 =>
        split at h
        · simp at h
        · next h4 =>
          split at h
          · simp at h
          · next h5 =>
            simp [En.ofClient] at h2
            have hc : 0 ≤ e.client ∧ e.client ≤ 8 := by
              by_cases ho : (e.kind = 1 ∨ e.kind = 3) ∨ e.kind = 4
              · have := h2.1 ho; omega
              · simp only [not_or] at ho
                have := h2.2 ho.1.1 ho.1.2 ho.2; omega
            refine ⟨by omega, by omega, hc.1, hc.2, by omega, fun hk => ?_⟩
            simp [hk, En.right] at h5
            omega

theorem line_length {e : En} (h : e.wrong = 0) (ht : 0 ≤ e.time) : e.line.length ≤ 140000 := by
  obtain ⟨a1, a2, a3, a4, a5, a6⟩ := wrong_zero h
  have hb : e.bytes.data.toList.length = e.bytes.size := by simp
  have i1 := Lib.itoa_length_le e.kind (by omega) (by omega)
  have i2 := blanked_length [e.client] (by intro z hz; simp at hz; subst hz; omega)
  have i3 : (hexed e.bytes.data.toList).length ≤ 131073 := by
    unfold hexed
    split
    · simp
    · rw [hexOf_length]; omega
  have i4 : e.kind = 2 → (blanked [e.ik, e.code, e.x, e.y, e.time]).length ≤ 5 * 22 := by
    intro hk
    have := a6 hk
    exact blanked_length _ (by intro z hz; simp at hz; omega)
  simp only [List.length_singleton] at i2
  unfold En.line
  simp only [List.length_append, List.length_singleton]
  split <;> split <;> (try split) <;> simp_all <;> omega

theorem textOf_length (es : List En) (h : ∀ e ∈ es, e.wrong = 0 ∧ 0 ≤ e.time) : (textOf es).length ≤ es.length * 140000 := by
  induction es with
  | nil => simp [textOf]
  | cons e r ih =>
    have h1 := ih (fun x hx => h x (by simp [hx]))
    have h2 := line_length (h e (by simp)).1 (h e (by simp)).2
    unfold textOf at h1 ⊢
    rw [List.flatMap_cons, List.length_append, List.length_cons]
    omega

/-- Where a round of Text stands: the Builder holds l, the entry lies in its box at g. -/
structure Rd (w0 : World) (B b g : Nat) (e : En) (l : List UInt8) (W : World) : Prop where
  bld : Bld B b l W
  box : Box W g 37 e.cells.toArray
  kp : Kp B b w0 W
  le : B ≤ W.heap.size
  ne : g ≠ b
theorem Rd.quiet {w0 W W' : World} {B b g : Nat} {e : En} {l : List UInt8} (h : Rd w0 B b g e l W) (hb : Below W.heap.size W W') : Rd w0 B b g e l W' :=
  ⟨h.bld.below hb, (Kp.of_below hb h.le).box h.box h.ne (by decide), h.kp.trans (Kp.of_below hb h.le), Nat.le_trans h.le hb.size, h.ne⟩
theorem Rd.alloc {w0 W : World} {B b g : Nat} {e : En} {l : List UInt8} (h : Rd w0 B b g e l W) (o : Obj) : Rd w0 B b g e l (W.alloc o) := h.quiet ((Below.refl _ _).alloc (Nat.le_refl _) _)
theorem Rd.wrote {w0 W W' : World} {B b g : Nat} {e : En} {l l' : List UInt8} (h : Rd w0 B b g e l W) (hb : Bld B b l' W') (hk : Kp B b W W') : Rd w0 B b g e l' W' :=
  ⟨hb, hk.box h.box h.ne (by decide), h.kp.trans hk, Nat.le_trans h.le hk.below.size, h.ne⟩
theorem Rd.cells {w0 W : World} {B b g : Nat} {e : En} {l : List UInt8} (h : Rd w0 B b g e l W) :
    W.cell? ⟨g, 0, none⟩ = some (.int .i64 e.kind) ∧ W.cell? ⟨g, 1, none⟩ = some (.int .i64 e.client) ∧ W.cell? ⟨g, 2, none⟩ = some (.string e.bytes) ∧ W.cell? ⟨g, 3, none⟩ = some (.int .i64 e.ik) ∧ W.cell? ⟨g, 4, none⟩ = some (.int .i64 e.code) ∧
    W.cell? ⟨g, 5, none⟩ = some (.int .i64 e.x) ∧ W.cell? ⟨g, 6, none⟩ = some (.int .i64 e.y) ∧ W.cell? ⟨g, 7, none⟩ = some (.int .u32 e.time) ∧ W.cell? ⟨g, 8, none⟩ = some (.int .i64 e.count) :=
  box9 h.box
end Go.Proofs.YtlgepoiaolhajaaDoor
