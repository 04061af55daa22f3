/-
  A tape's All, and the statement's own helper is: has a tape just these entries?
-/
import Derived.Test.YtlgepoiaolhajaaDoorReAdd
import Derived.Deep.QuietTactic
import Derived.BigQuiet
namespace Go.Proofs.YtlgepoiaolhajaaDoor
open Go.RowKit

def AllPost (es : List En) (w : World) (r : Ending) (w' : World) : Prop :=
  ∃ v', r = .returned v' ∧ Below w.heap.size w w' ∧ Tapes w' v' es

set_option maxHeartbeats 1000000 in
set_option maxRecDepth 100000 in
theorem all_any (es : List En) (v : Value) (w : World) (hv : Tapes w v es) (hm : es.length ≤ 9000) :
    Calls Tryd.prog 15 #[.agg #[v]] w (AllPost es w) := by
  obtain ⟨A, c, rfl, hr⟩ := hv
  obtain ⟨i0, hi, hz0, hz1, hz2⟩ := info_parts entry_info
  have HR := Lib.hid hr
  clear hr
  go_enter Tryd.func15, Tryd.ntmps15
  go_wp2_with (at_make; refine wpList_make_full _ rfl _ _ 22 rfl w.heap.size 37 i0 _ 9 Tryd.underlying22 hi hz0 hz1 .i64 .i64 _ _ es.length rfl rfl ?c1 ?c2 ?c3 ?c4 ?c5 ?_)
  case c1 => rfl
  case c2 => rfl
  case c3 => rw [hz2]; omega
  case c4 => simp only [maxLen]; omega
  case c5 => simp
  intro w2 hown2 hg2
  have hb2 := grown_below hg2 (Nat.le_refl _) (by simp)
  have hs2 := hb2.size
  have ea : (w.alloc (.cells #[.slice A es.length c] 26)).heap.size = w.heap.size + 1 := by simp
  rw [ea] at hb2 hs2
  clear ea
  have X2 := (Box.new w 26 #[.slice A es.length c]).below hb2 (by omega)
  obtain ⟨x2, x2'⟩ := box1 X2
  generalize Array.toList _ = ys at hown2
  have hrd := (HR.out.alloc (Nat.le_refl _) (.cells #[.slice A es.length c] 26)).below (hb2.mono (by omega))
  have HRD := Lib.hid hrd
  clear hrd
  go_wp2_with (with_reducible refine wpList_copy_reads rfl _ _ _ _ rfl w.heap.size 37 9 Tryd.underlying22 entry_size (w.heap.size + 1) es.length es.length es.length c w.heap.size A (flat es) ys rfl rfl hown2 HRD.out (by omega) (flat_one es) ?_)
  intro w3 hown3 hg3
  have hb3 : Below (w.heap.size + 1) w2 w3 := grown_below hg3 (by omega) (by simp)
  go_wp2
  go_ret
  have hfl : flat es ++ List.drop (flat es).length ys = flat es := by
    have h1 := hown2.1
    have h2 := flat_length es
    rw [List.drop_eq_nil_of_le (by omega), List.append_nil]
  rw [hfl] at hown3
  exact ⟨_, rfl, (((Below.refl _ _).alloc (Nat.le_refl _) _).trans (hb2.mono (by omega))).trans (hb3.mono (by omega)), Tapes.of_own hown3⟩

/-- 'is' where the entries are the tape's. -/
def IsPost (w : World) (r : Ending) (w' : World) : Prop := r = .returned (.bool true) ∧ Below w.heap.size w w'

set_option maxHeartbeats 1000000 in
set_option maxRecDepth 100000 in
theorem is_same (es : List En) (v m : Value) (w : World) (hv : Tapes w v es) (hm : Tapes w m es) (hlen : es.length ≤ 9000) :
    Calls Tryd.prog 12 #[.agg #[v], m] w (IsPost w) := by
  obtain ⟨A, c, rfl, hr⟩ := hm
  have HR := Lib.hid hr
  have HC : Hid (Tapes (w.alloc (.cells #[v] 26)) v es) := hv.below ((Below.refl _ _).alloc (Nat.le_refl _) _)
  clear hr
  go_enter Tryd.func12, Tryd.ntmps12
  go_wp2_with (go_at_call 15; refine (all_any es v _ HC.out hlen).mono ?_; rintro r w1 ⟨u, rfl, hb1, A1, c1, rfl, hr1⟩; have HR1 := Lib.hid hr1; clear hr1; have hs1 := hb1.size; simp at hs1)
  have hrd := (HR.out.alloc (Nat.le_refl _) (.cells #[v] 26)).below (hb1.mono (by simp))
  have HRD := Lib.hid hrd
  clear hrd
  have hbw : Below w.heap.size w w1 := ((Below.refl _ _).alloc (Nat.le_refl _) _).trans (hb1.mono (by simp))
  go_loopw [16] (fun i wr => ∃ k d : Nat, k ≤ es.length ∧ i = .int .i64 k ∧ wr = w1.drewN d) (fun i _ => es.length - (intOf i).toNat)
  case atStart => exact ⟨0, 0, by omega, rfl, rfl⟩
  case round =>
    obtain ⟨k, d, hk, rfl, rfl⟩ := hrel
    by_cases hlt : k < es.length
    · obtain ⟨b, o, rfl, hbb, ha⟩ := HRD.out.entry rfl hlt
      obtain ⟨b1, o1, rfl, hbb1, ha1⟩ := HR1.out.entry rfl hlt
      generalize es[k] = e at *
      obtain ⟨a0, a1, a2, a3, a4, a5, a6, a7, a8⟩ := ha
      obtain ⟨e0, e1, e2, e3, e4, e5, e6, e7, e8⟩ := ha1
      have hk0 : (0 : Int) ≤ (k : Int) := by omega
      have hk1 : (k : Int) < (es.length : Int) := by omega
      go_wp2
      go_quiet (fail)
      go_wp2
      exact ⟨⟨k + 1, _, by omega, by go_num, rfl⟩, by simp [intOf]; omega⟩
    · go_wp2
      go_ret
      exact ⟨rfl, below_drewN' hbw d⟩
end Go.Proofs.YtlgepoiaolhajaaDoor
