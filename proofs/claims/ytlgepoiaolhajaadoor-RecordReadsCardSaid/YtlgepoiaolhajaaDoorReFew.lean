/-
  The statement's own helper few: whatever entries, it answers; if yes, they are few and short.
-/
import Derived.Test.YtlgepoiaolhajaaDoorRows
import Derived.Test.YtlgepoiaolhajaaDoorReBase
import Derived.WalkKit
import Derived.WalkSpells
import Derived.WalkLawsBesides
import Derived.BigGuardPart
import Derived.Deep.Light
namespace Go.Proofs.YtlgepoiaolhajaaDoor
open Go.RowKit

def flat (es : List En) : List Value := es.flatMap En.cells
theorem flat_at (es : List En) (k j : Nat) (hk : k < es.length) (hj : j < 9) : (flat es)[k * 9 + j]? = (es[k]).cells[j]? := by
  induction es generalizing k with
  | nil => simp at hk
  | cons e r ih =>
    unfold flat at ih ⊢
    rw [List.flatMap_cons]
    cases k with
    | zero => rw [List.getElem?_append_left (by simp [En.cells]; omega)]; simp
    | succ k =>
      rw [List.getElem?_append_right (by simp [En.cells]; omega)]
      have : (k + 1) * 9 + j - e.cells.length = k * 9 + j := by simp [En.cells]; omega
      rw [this, ih k (by simpa using hk)]
      simp

/-- The cells of the entry at place k. -/
def EnAt (w : World) (b o : Nat) (e : En) : Prop :=
  w.cell? ⟨b, o, none⟩ = some (.int .i64 e.kind) ∧ w.cell? ⟨b, o + 1, none⟩ = some (.int .i64 e.client) ∧ w.cell? ⟨b, o + 2, none⟩ = some (.string e.bytes) ∧
  w.cell? ⟨b, o + 3, none⟩ = some (.int .i64 e.ik) ∧ w.cell? ⟨b, o + 4, none⟩ = some (.int .i64 e.code) ∧ w.cell? ⟨b, o + 5, none⟩ = some (.int .i64 e.x) ∧
  w.cell? ⟨b, o + 6, none⟩ = some (.int .i64 e.y) ∧ w.cell? ⟨b, o + 7, none⟩ = some (.int .u32 e.time) ∧ w.cell? ⟨b, o + 8, none⟩ = some (.int .i64 e.count)

theorem Reads.entry {w : World} {B n : Nat} {A : Option Addr} {es : List En} (h : Reads w B 9 A n (flat es)) {k : Nat} (hn : n = es.length) (hk : k < n) :
    ∃ b o, A = some ⟨b, o, none⟩ ∧ b < B ∧ EnAt w b (o + k * 9) (es[k]'(by omega)) := by
  obtain ⟨⟨b, o, sp⟩, rfl, hb, hc⟩ := h.2 (by omega)
  have hk' : k < es.length := by omega
  have h0 := hc 0 (.int .i64 es[0].kind) (by have := flat_at es 0 0 (by omega) (by omega); simpa [En.cells] using this)
  have hsp : sp = none := by
    cases sp with
    | none => rfl
    | some s => simp [Addr.add, World.cell?] at h0; split at h0 <;> simp at h0
  subst hsp
  refine ⟨b, o, rfl, hb, ?_⟩
  have key : ∀ j (hj : j < 9), w.cell? ⟨b, o + k * 9 + j, none⟩ = (es[k]).cells[j]? := by
    intro j hj
    have hx := flat_at es k j hk' hj
    have hlen : j < (es[k]).cells.length := by simp [En.cells]; omega
    rw [List.getElem?_eq_getElem hlen] at hx ⊢
    have := hc (k * 9 + j) _ hx
    rw [← this]
    unfold Addr.add
    split
    · next h => have : k = 0 := by omega
                have : j = 0 := by omega
                subst_vars; rfl
    · rw [Nat.add_assoc]
  exact ⟨key 0 (by omega), key 1 (by omega), key 2 (by omega), key 3 (by omega), key 4 (by omega), key 5 (by omega), key 6 (by omega), key 7 (by omega), key 8 (by omega)⟩

theorem EnAt.alloc {w : World} {b o : Nat} {e : En} (h : EnAt w b o e) (hb : b < w.heap.size) (x : Obj) : EnAt (w.alloc x) b o e := by
  obtain ⟨h0, h1, h2, h3, h4, h5, h6, h7, h8⟩ := h
  refine ⟨?_, ?_, ?_, ?_, ?_, ?_, ?_, ?_, ?_⟩ <;> (rw [World.cell?_alloc_lt w x _ hb]; assumption)

/-- How much entries count. -/
def bulk (es : List En) : Nat := (es.map fun e => 1 + e.bytes.size).sum

theorem bulk_snoc (es : List En) (k : Nat) (h : k < es.length) : bulk (es.take (k + 1)) = bulk (es.take k) + (1 + es[k].bytes.size) := by
  unfold bulk
  rw [List.take_succ_eq_append_getElem h, List.map_append, List.sum_append]
  simp

def FewPost (es : List En) (w : World) (e : Ending) (w' : World) : Prop :=
  ∃ b : Bool, e = .returned (.bool b) ∧ (b = true → es.length ≤ 60 ∧ bulk es ≤ 20000) ∧ Below w.heap.size w w'

set_option maxHeartbeats 400000 in
theorem few_any (es : List En) (A : Option Addr) (n c : Nat) (w : World) (hn : n = es.length) (hr : Reads w w.heap.size 9 A n (flat es)) (hm : n ≤ maxLen) (hby : ∀ e ∈ es, e.bytes.size ≤ 140737488351232) :
    Calls Tryd.prog 7 #[.slice A n c] w (FewPost es w) := by
  unfold maxLen at hm
  have HN := Lib.hid hn
  have HR := Lib.hid hr
  clear hn hr
  go_enter Tryd.func7, Tryd.ntmps7
  go_wp2
  go_loopw [3, 8] (fun t i wr => ∃ k s : Nat, k ≤ n ∧ s ≤ 20000 ∧ i = .int .i64 k ∧ t = .int .i64 s ∧ Hid (s = bulk (es.take k)) ∧ Below w.heap.size w wr) (fun _ i _ => n - (intOf i).toNat)
  case atStart => exact ⟨0, 0, by omega, by omega, rfl, rfl, by rw [List.take_zero]; rfl, Below.refl _ _⟩
  case round =>
    obtain ⟨k, s, hk, hs, rfl, rfl, hS, hb⟩ := hrel
    by_cases hlt : k < n
    · obtain ⟨b, o, rfl, hbb, ha⟩ := (HR.out.below hb).entry HN.out hlt
      obtain ⟨a0, a1, a2, a3, a4, a5, a6, a7, a8⟩ := ha
      have hke : k < es.length := by have := HN.out; omega
      have hbs := hby es[k] (List.getElem_mem hke)
      have HS : Hid (bulk (es.take (k + 1)) = s + (1 + es[k].bytes.size)) := by rw [bulk_snoc es k hke]; rw [hS.out]; rfl
      generalize es[k] = e at *
      clear hS
      have hsz := hb.size
      go_wp2
      · go_ret
        exact ⟨false, rfl, (fun h => by cases h), hb.alloc hsz _⟩
      · go_roundw
        case rel => exact ⟨k + 1, s + (1 + e.bytes.size), by omega, by omega, by go_num, by go_num, HS.out.symm, hb.alloc hsz _⟩
        case measure => simp [intOf]; omega
    · have hk' : k = es.length := by have := HN.out; omega
      have hS' := hS.out
      rw [hk', List.take_length] at hS'
      have HS := Lib.hid hS'
      have HK := Lib.hid hk'
      clear hk' hS' hS
      go_wp2
      go_ret
      exact ⟨decide ((n : Int) ≤ 60), rfl, (fun h => ⟨by have := HN.out; have := of_decide_eq_true h; omega, by rw [← HS.out]; omega⟩), hb⟩
end Go.Proofs.YtlgepoiaolhajaaDoor
