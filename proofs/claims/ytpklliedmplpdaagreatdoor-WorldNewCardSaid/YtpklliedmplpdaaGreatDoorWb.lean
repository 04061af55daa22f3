/-
  The leaves of a new world: sides, identifiers, the place of the root alone, a grid of one pixel everywhere.
  The place of the root alone.
  Sides and coordinates of a grid; the root's identifier; the tree of the root alone.
  What is below the root, its kids, its path, its box, its origin, where the root is alone.
  The root's box and origin; a canvas of the root's grid alone.
  A grid that has one pixel everywhere.
  A canvas of the root alone is made; a grid's twin, size, places.
-/
import Derived.Test.YtpklliedmplpdaaGreatDoorRows
import Derived.Test.YtpklliedmplpdaaGreatDoorWa
import Derived.WalkKit
import Derived.WalkSpells
import Derived.WalkLawsBesides
import Derived.BigGuardPart
import Derived.Deep.Light
import Derived.Deep.QuietTactic
import Derived.BigQuiet
import Derived.Outline
import Derived.Laws.EntriesVeiled
import Derived.Lib.BufferMore
import Derived.Laws.IdiomRangeMap
namespace Go.Proofs.YtpklliedmplpdaaGreatDoor
open Go.RowKit

def sideB (n : Int) : Bool := decide (1 ≤ n) && decide (n ≤ 128)
theorem side_yes {n : Int} (h1 : 1 ≤ n) (h2 : n ≤ 128) : sideB n = true := by simp [sideB, h1, h2]
theorem side_no {n : Int} (h : n < 1 ∨ 128 < n) : sideB n = false := by
  rw [Bool.eq_false_iff]; intro hh; simp [sideB] at hh; omega

theorem pside_any (n : Int) (w : World) : Calls Tryz.prog 48 #[.int .i64 n] w fun e w' => e = .returned (.bool (sideB n)) ∧ w = w' := by
  by_cases h1 : 1 ≤ n
  · by_cases h2 : n ≤ 128
    · have h3 := Lib.hid (side_yes h1 h2)
      go_enter Tryz.func48, Tryz.ntmps48
      go_wp2
      go_ret
      exact ⟨by rw [h3.out]; rfl, rfl⟩
    · have h3 := Lib.hid (side_no (n := n) (.inr (by omega)))
      have h4 : 128 < n := by omega
      go_enter Tryz.func48, Tryz.ntmps48
      go_wp2
      go_ret
      exact ⟨by rw [h3.out]; rfl, rfl⟩
  · have h3 := Lib.hid (side_no (n := n) (.inl (by omega)))
    have h4 : n < 1 := by omega
    go_enter Tryz.func48, Tryz.ntmps48
    go_wp2
    go_ret
    exact ⟨by rw [h3.out]; rfl, rfl⟩
theorem pside_yes (n : Int) (w : World) (h1 : 1 ≤ n) (h2 : n ≤ 128) : Calls Tryz.prog 48 #[.int .i64 n] w fun e w' => e = .returned (.bool true) ∧ w = w' :=
  (pside_any n w).mono fun _ _ ⟨he, hw⟩ => ⟨by rw [he, side_yes h1 h2], hw⟩
theorem pside_no (n : Int) (w : World) (h : n < 1 ∨ 128 < n) : Calls Tryz.prog 48 #[.int .i64 n] w fun e w' => e = .returned (.bool false) ∧ w = w' :=
  (pside_any n w).mono fun _ _ ⟨he, hw⟩ => ⟨by rw [he, side_no h], hw⟩
end Go.Proofs.YtpklliedmplpdaaGreatDoor
namespace Go.Proofs.YtpklliedmplpdaaGreatDoor
open Go.RowKit

theorem heap_at {w : World} {r : Nat} (h : r = w.heap.size) (o : Obj) : (w.alloc o).heap[r]? = some o := by subst h; exact heap_alloc_new w o
def rootBox (w h : Int) : Value := .agg #[.int .i64 0, .int .i64 0, .int .i64 w, .int .i64 h, .bool true, .int .i64 1, .int .i64 1, .bool false, .slice none 0 0]
def PNewPost (a b : Int) (w : World) (e : Ending) (w' : World) : Prop :=
  ∃ r, e = .returned (.tuple #[.agg #[.map (some r)], .int .i64 0]) ∧ w.heap.size ≤ r ∧ MapIs w' r (one1 1 .u32 (rootBox a b) 0) ∧ Below w.heap.size w w'
set_option maxHeartbeats 400000 in
theorem pnew_yes (a b : Int) (w : World) (ha1 : 1 ≤ a) (ha2 : a ≤ 128) (hb1 : 1 ≤ b) (hb2 : b ≤ 128) :
    Calls Tryz.prog 14 #[.int .i64 a, .int .i64 b] w (PNewPost a b w) := by
  have ea := Lib.hid (side_yes ha1 ha2)
  have eb := Lib.hid (side_yes hb1 hb2)
  go_enter Tryz.func14, Tryz.ntmps14
  have hput := fun (W : World) (v : Value) (r : Nat) (hr : r = W.heap.size) => put_new (P := Tryz.prog) 51 36 95 .u32 1 v W r hr Tryz.underlying51 Tryz.underlying36
  have hmm := @run_makeMap_plain Tryz.prog
  go_wp2_with (go_at_call 48; refine (pside_yes _ _ (by assumption) (by assumption)).mono ?_; rintro e w' ⟨rfl, rfl⟩)
  refine bodyPost_ret (v := .tuple #[.agg #[.map (some (w.heap.size + 1 + 1))], .int .i64 0]) (by simp [results, Tryz.results14, go_sem]) rfl ⟨w.heap.size + 1 + 1, rfl, by omega, ?_, ?_⟩
  · exact ⟨1, heap_at (by simp) _⟩
  · exact (((Below.refl _ _).alloc (Nat.le_refl _) _).alloc (by simp) _).alloc (by simp; try omega) _
def Ret (v : Value) (w : World) (e : Ending) (w' : World) : Prop := e = .returned v ∧ Below w.heap.size w w'
theorem pnew_no (a b : Int) (w : World) (h : (a < 1 ∨ 128 < a) ∨ (b < 1 ∨ 128 < b)) :
    Calls Tryz.prog 14 #[.int .i64 a, .int .i64 b] w (Ret (.tuple #[.agg #[.map none], .int .i64 17]) w) := by
  by_cases ha : a < 1 ∨ 128 < a
  · have ea := Lib.hid ha
    clear ha h
    go_enter Tryz.func14, Tryz.ntmps14
    go_wp2_with (go_at_call 48; refine (pside_no _ _ ea.out).mono ?_; rintro e w' ⟨rfl, rfl⟩)
    exact bodyPost_ret (v := .tuple #[.agg #[.map none], .int .i64 17]) (by simp [results, Tryz.results14, go_sem]) rfl ⟨rfl, (Below.refl _ _).alloc (Nat.le_refl _) _⟩
  · have ha1 : 1 ≤ a := by omega
    have ha2 : a ≤ 128 := by omega
    have ea := Lib.hid (side_yes ha1 ha2)
    have eb := Lib.hid (side_no (h.resolve_left ha))
    clear ha h ha1 ha2
    go_enter Tryz.func14, Tryz.ntmps14
    go_wp2_with (go_at_call 48; refine (pside_any _ _).mono ?_; rintro e w' ⟨rfl, rfl⟩; first | rw [ea.out] | rw [eb.out])
    exact bodyPost_ret (v := .tuple #[.agg #[.map none], .int .i64 17]) (by simp [results, Tryz.results14, go_sem]) rfl ⟨rfl, (Below.refl _ _).alloc (Nat.le_refl _) _⟩
end Go.Proofs.YtpklliedmplpdaaGreatDoor
namespace Go.Proofs.YtpklliedmplpdaaGreatDoor
open Go.RowKit

theorem gside_yes (n : Int) (w : World) (h1 : 1 ≤ n) (h2 : n ≤ 128) : Calls Tryz.prog 118 #[.int .i64 n] w fun e w' => e = .returned (.bool true) ∧ w = w' := by
  go_enter Tryz.func118, Tryz.ntmps118
  go_wp2
  go_ret
  exact ⟨rfl, rfl⟩
theorem gside_no1 (n : Int) (w : World) (h : n < 1) : Calls Tryz.prog 118 #[.int .i64 n] w fun e w' => e = .returned (.bool false) ∧ w = w' := by
  go_enter Tryz.func118, Tryz.ntmps118
  go_wp2
  go_ret
  exact ⟨rfl, rfl⟩
theorem gcoord_yes (n : Int) (w : World) (h1 : -1048576 ≤ n) (h2 : n ≤ 1048576) : Calls Tryz.prog 119 #[.int .i64 n] w fun e w' => e = .returned (.bool true) ∧ w = w' := by
  go_enter Tryz.func119, Tryz.ntmps119
  go_wp2
  go_ret
  exact ⟨rfl, rfl⟩
theorem client_root (w : World) : Calls Tryz.prog 147 #[.int .u32 1] w fun e w' => e = .returned (.tuple #[.int .i64 0, .bool true]) ∧ w = w' := by
  go_enter Tryz.func147, Tryz.ntmps147
  go_wp2
  go_ret2
  exact ⟨rfl, rfl⟩
theorem check_root (w : World) : Calls Tryz.prog 106 #[.int .u32 1] w fun e w' => e = .returned (.int .i64 0) ∧ w = w' := by
  go_enter Tryz.func106, Tryz.ntmps106
  go_wp2_with (go_at_call 147; refine (client_root _).mono ?_; rintro e w' ⟨rfl, rfl⟩)
  go_ret
  exact ⟨rfl, rfl⟩
theorem tree_new (w : World) : Calls Tryz.prog 16 #[] w (Ret (.agg #[.map none, .map none]) w) := by
  go_enter Tryz.func16, Tryz.ntmps16
  go_wp2
  exact bodyPost_ret (v := .agg #[.map none, .map none]) (by simp [results, Tryz.results16, go_sem]) rfl ⟨rfl, (Below.refl _ _).alloc (Nat.le_refl _) _⟩
theorem tree_has (w : World) : Calls Tryz.prog 20 #[.agg #[.map none, .map none], .int .u32 1] w (Ret (.bool true) w) := by
  have hl := fun W => look_nil (P := Tryz.prog) (w := W) 24 36 36 .u32 1 (.int .u32 0) true Tryz.underlying24 Tryz.underlying36 (by simp [go_sem])
  go_enter Tryz.func20, Tryz.ntmps20
  go_wp2
  go_ret
  exact ⟨rfl, (Below.refl _ _).alloc (Nat.le_refl _) _⟩
end Go.Proofs.YtpklliedmplpdaaGreatDoor
namespace Go.Proofs.YtpklliedmplpdaaGreatDoor
open Go.RowKit

theorem Tryz.infoID : (Tryz.prog.info? 36).map (fun i => (i.zero, i.size, i.bytes)) = some (some (.int .u32 0), 1, 4) := by kernel_rfl
theorem cell_far {w : World} {p a : Addr} {u : Value} (h : a.block ≠ p.block) : (w.setCell p u).cell? a = w.cell? a := World.cell?_of_block (w := w) (Below.heap_setCell w p u a.block h)
theorem owns_empty (w : World) (e : TypeId) (size : Nat) : (w.alloc (.cells #[] e)).ownsRow w.heap.size e size (.slice (some ⟨w.heap.size, 0, none⟩) 0 0) 0 [] :=
  ⟨by simp, .inr ⟨w.heap.size, 0, #[], rfl, Nat.le_refl _, heap_alloc_new w _, Nat.le_refl _, Nat.zero_le _, by simp, by simp⟩⟩
theorem cell_list1 {w : World} {ad : Addr} {u : Value} (h : w.cell? ad = some u) : ∀ j v, [u][j]? = some v → w.cell? (ad.add j) = some v := by
  intro j v hj
  rcases j with _ | j
  · simp at hj; subst hj; simpa [Addr.add] using h
  · simp at hj
/-- A slice of one identifier, the root's, laid by the call. -/
def OneId (w w' : World) (v : Value) : Prop := ∃ g cap, v = .slice (some ⟨g, 0, none⟩) 1 cap ∧ w.heap.size ≤ g ∧ g < w'.heap.size ∧ w'.cell? ⟨g, 0, none⟩ = some (.int .u32 1)
theorem oneId_of {w w' : World} {v : Value} {B : Nat} (h : w'.ownsRow B 36 1 v 1 [.int .u32 1]) (hB : w.heap.size ≤ B) : OneId w w' v := by
  rcases h.2 with ⟨rfl, h0⟩ | ⟨g, cap, cur, rfl, hbg, hg, hnc, hcm, hcs, htake⟩
  · cases h0
  · exact ⟨g, cap, rfl, Nat.le_trans hB hbg, (Array.getElem?_eq_some_iff.1 hg).1, (h.cellAt 0 (by omega))⟩
def Below1Post (b5 : Nat) (w : World) (e : Ending) (w' : World) : Prop :=
  ∃ v, e = .returned (.tuple #[]) ∧ Box w' b5 27 #[v] ∧ OneId w w' v ∧ Below b5 w w'
set_option maxHeartbeats 1000000 in
set_option maxRecDepth 100000 in
theorem below1 (w : World) (b2 b5 b6 : Nat) (h5 : Box w b5 27 #[.slice none 0 0]) (h2 : Box w b2 26 #[.map none, .map none]) (h25 : b2 < b5) :
    Calls Tryz.prog 21 #[.int .u32 1, .pointer (some ⟨b5, 0, none⟩), .pointer (some ⟨b2, 0, none⟩), .pointer (some ⟨b6, 0, none⟩)] w (Below1Post b5 w) := by
  obtain ⟨i0, hi, hz0, hz1, hz2⟩ := info_parts Tryz.infoID
  have c5 : w.cell? ⟨b5, 0, none⟩ = some (.slice none 0 0) := h5.cell 0
  have lt5 : b5 < w.heap.size := (Array.getElem?_eq_some_iff.1 h5).1
  have H2 := Lib.hid h2
  have H5 := Lib.hid h5
  clear h2 h5
  go_enter Tryz.func21, Tryz.ntmps21
  go_wp2_with (
    at_builtin
    refine wpList_append_own _ rfl _ _ 27 rfl w.heap.size 36 i0 (.int .u32 0) 1 4 Tryz.underlying27 hi hz0 hz1 hz2 rfl (by decide) _ _ _ rfl (World.ownsRow_nil _ _ _ _) ⟨w.heap.size, 0, none⟩ 1 1 [.int .u32 1] rfl rfl (cell_one_new _ _ _) (by intro u hu; simp at hu; subst hu; rfl) (by decide) (by decide) (by simp) ?_
    intro v1 w1 hown1 hgrow1 hnil1
    obtain ⟨g, cap, rfl, hg1, hg2, hg3⟩ := oneId_of (w := w) (by simpa using hown1) (Nat.le_refl _)
    have hb1 : Below w.heap.size w w1 := ((Below.refl _ _).alloc (Nat.le_refl _) _).grown hgrow1 (by simp) (fun j hj => by cases hj)
    have B5 := H5.out.below hb1 lt5
    have B2 := H2.out.below hb1 (by omega)
    have c51 : w1.cell? ⟨b5, 0, none⟩ = some (.slice none 0 0) := B5.cell 0
    have f51 := B5.frozen 0
    have c21 : (w1.setCell ⟨b5, 0, none⟩ (.slice (some ⟨g, 0, none⟩) 1 cap)).cell? ⟨b2, 0, none⟩ = some (.map none) := (B2.far (p := ⟨b5, 0, none⟩) (by simp; omega) _).cell 0
    have hl := fun W => look_nil (P := Tryz.prog) (w := W) 23 36 27 .u32 1 (.slice none 0 0) false Tryz.underlying23 Tryz.underlying36 (by simp [go_sem])
    clear c5 hown1 hnil1)
  go_loopw [16] (fun i wr => i = .int .i64 0 ∧ wr = w1.setCell ⟨b5, 0, none⟩ (.slice (some ⟨g, 0, none⟩) 1 cap)) (fun _ _ => 0)
  case atStart => exact ⟨rfl, rfl⟩
  case round =>
    obtain ⟨rfl, rfl⟩ := hrel
    go_wp2
    go_end0
    refine ⟨_, rfl, B5.set_ 0 _, ⟨g, cap, rfl, hg1, by simpa using hg2, ?_⟩, (hb1.mono (B' := b5) (by omega)).setCell (p := ⟨b5, 0, none⟩) (Nat.le_refl _) _⟩
    rw [cell_far (by simp; omega)]; exact hg3
def IdsPost (w : World) (e : Ending) (w' : World) : Prop := ∃ v, e = .returned v ∧ OneId w w' v ∧ Below w.heap.size w w'
set_option maxHeartbeats 1000000 in
set_option maxRecDepth 100000 in
theorem below_root (w : World) : Calls Tryz.prog 6 #[.agg #[.map none, .map none], .int .u32 1] w (IdsPost w) := by
  go_enter Tryz.func6, Tryz.ntmps6
  go_wp2_with (
    go_at_call 20
    refine (tree_has _).mono ?_
    rintro e w1 ⟨rfl, hb1⟩
    have hs1 : w.heap.size + 1 ≤ w1.heap.size := by have := hb1.size; simpa using this
    have B2 := (Box.new w 26 #[.map none, .map none]).below hb1 (by simp)
    have HB2 := Lib.hid B2
    have HBB := Lib.hid hb1
    clear B2 hb1)
  go_wp2_with (
    go_at_call 21
    refine (below1 _ w.heap.size w1.heap.size (w1.heap.size + 1) ((Box.new w1 _ _).alloc _) ((HB2.out.alloc _).alloc _) (by omega)).mono ?_
    rintro e w2 ⟨v, rfl, hb5, ⟨g, cap, rfl, hg1, hg2, hg3⟩, hb2⟩
    have c5 : w2.cell? ⟨w1.heap.size, 0, none⟩ = some (.slice (some ⟨g, 0, none⟩) 1 cap) := hb5.cell 0)
  go_ret
  simp at hg1
  have hb3 : Below w.heap.size w w1 := ((Below.refl _ _).alloc (Nat.le_refl _) _).trans (HBB.out.mono (by simp))
  exact ⟨_, rfl, ⟨g, cap, rfl, by omega, hg2, hg3⟩, ((hb3.alloc (by omega) _).alloc (by simp; omega) _).trans (hb2.mono (by omega))⟩
set_option maxRecDepth 100000 in
theorem clone_nil (w : World) : Calls Tryz.prog 109 #[.slice none 0 0] w fun e w' => e = .returned (.slice none 0 0) ∧ w = w' := by
  have hq := fun W => Lib.run_eql_slice_nil_nil (P := Tryz.prog) W 0 0 Tryz.underlying27
  go_enter Tryz.func109, Tryz.ntmps109
  go_wp2
  go_ret
  exact ⟨rfl, rfl⟩
set_option maxHeartbeats 1000000 in
set_option maxRecDepth 100000 in
theorem clone_one (w : World) (g cap : Nat) (h : w.cell? ⟨g, 0, none⟩ = some (.int .u32 1)) (hg : g < w.heap.size) : Calls Tryz.prog 109 #[.slice (some ⟨g, 0, none⟩) 1 cap] w (IdsPost w) := by
  obtain ⟨i0, hi, hz0, hz1, hz2⟩ := info_parts Tryz.infoID
  have hq := fun W a n c => Lib.run_eql_slice_some_nil (P := Tryz.prog) W a n c Tryz.underlying27
  go_enter Tryz.func109, Tryz.ntmps109
  go_wp2_with (
    at_builtin
    refine wpList_append_own _ rfl _ _ 27 rfl w.heap.size 36 i0 (.int .u32 0) 1 4 Tryz.underlying27 hi hz0 hz1 hz2 rfl (by decide) _ _ _ rfl (owns_empty w _ _) ⟨g, 0, none⟩ 1 cap [.int .u32 1] rfl rfl (cell_list1 (ad := ⟨g, 0, none⟩) ((World.cell?_of_block (w := w) (Below.heap_alloc w _ g hg)).trans h)) (by intro u hu; simp at hu; subst hu; rfl) (by decide) (by decide) (by simp) ?_)
  intro v1 w1 hown1 hgrow1 hnil1
  have hb1 : Below w.heap.size w w1 := ((Below.refl _ _).alloc (Nat.le_refl _) _).grown hgrow1 (by simp) (fun j hj => by simp [Value.ownBlock] at hj; omega)
  go_wp2
  go_ret
  exact ⟨_, rfl, oneId_of (by simpa using hown1) (Nat.le_refl _), hb1⟩
theorem kids_root (w : World) : Calls Tryz.prog 52 #[.agg #[.map none, .map none], .int .u32 1] w (Ret (.slice none 0 0) w) := by
  have hl := fun W => look_nil (P := Tryz.prog) (w := W) 23 36 27 .u32 1 (.slice none 0 0) false Tryz.underlying23 Tryz.underlying36 (by simp [go_sem])
  go_enter Tryz.func52, Tryz.ntmps52
  go_wp2_with (go_at_call 109; refine (clone_nil _).mono ?_; rintro e w' ⟨rfl, rfl⟩)
  go_ret
  exact ⟨rfl, (Below.refl _ _).alloc (Nat.le_refl _) _⟩
theorem parent_root (w : World) : Calls Tryz.prog 87 #[.agg #[.map none, .map none], .int .u32 1] w (Ret (.tuple #[.int .u32 0, .bool false]) w) := by
  have hl := fun W => look_nil (P := Tryz.prog) (w := W) 24 36 36 .u32 1 (.int .u32 0) true Tryz.underlying24 Tryz.underlying36 (by simp [go_sem])
  go_enter Tryz.func87, Tryz.ntmps87
  go_wp2
  go_ret2
  exact ⟨rfl, (Below.refl _ _).alloc (Nat.le_refl _) _⟩
set_option maxHeartbeats 1000000 in
set_option maxRecDepth 100000 in
theorem path_root (w : World) : Calls Tryz.prog 108 #[.agg #[.map none, .map none], .int .u32 1] w (IdsPost w) := by
  go_enter Tryz.func108, Tryz.ntmps108
  go_wp2_with (
    go_at_call 20
    refine (tree_has _).mono ?_
    rintro e w1 ⟨rfl, hb1⟩
    have hs1 : w.heap.size + 1 ≤ w1.heap.size := by have := hb1.size; simpa using this
    have HBB := Lib.hid hb1
    clear hb1)
  go_loopw [1, 5] (fun i v wr => i = .int .u32 1 ∧ v = .slice (some ⟨w1.heap.size, 0, none⟩) 1 1 ∧ wr = w1.alloc (.cells #[.int .u32 1] 36)) (fun _ _ _ => 0)
  case atStart => exact ⟨rfl, rfl, rfl⟩
  case round =>
    obtain ⟨rfl, rfl, rfl⟩ := hrel
    go_wp2
    go_ret
    have hb3 : Below w.heap.size w w1 := ((Below.refl _ _).alloc (Nat.le_refl _) _).trans (HBB.out.mono (by simp))
    refine ⟨_, rfl, ⟨w1.heap.size, 1, rfl, by omega, by simp, ?_⟩, hb3.alloc (by omega) _⟩
    exact (Box.new w1 36 #[.int .u32 1]).cell 0
end Go.Proofs.YtpklliedmplpdaaGreatDoor
namespace Go.Proofs.YtpklliedmplpdaaGreatDoor
open Go.RowKit

theorem MapIs.lt {w : World} {r : Nat} {es : Array MapEntry} (h : MapIs w r es) : r < w.heap.size := by
  obtain ⟨c, h⟩ := h
  exact (Array.getElem?_eq_some_iff.1 h).1
theorem MapIs.below {B : Nat} {w w' : World} {r : Nat} {es : Array MapEntry} (h : MapIs w r es) (hb : Below B w w') (hB : r < B) : MapIs w' r es := by
  obtain ⟨c, h⟩ := h
  exact ⟨c, (hb.block r hB).trans h⟩
theorem MapIs.keep {w w' : World} {r : Nat} {es : Array MapEntry} (h : MapIs w r es) (hb : Below w.heap.size w w') : MapIs w' r es := h.below hb h.lt
theorem MapIs.alloc {w : World} {r : Nat} {es : Array MapEntry} (h : MapIs w r es) (o : Obj) : MapIs (w.alloc o) r es := h.keep ((Below.refl _ _).alloc (Nat.le_refl _) _)
theorem MapIs.far {w : World} {r : Nat} {es : Array MapEntry} (h : MapIs w r es) {p : Addr} (hp : r ≠ p.block) (u : Value) : MapIs (w.setCell p u) r es := by
  obtain ⟨c, h⟩ := h
  exact ⟨c, (Below.heap_setCell w p u r hp).trans h⟩
/-- A look-up of the one entry. -/
theorem MapIs.look {P : Program} {w : World} {r : Nat} {n : Int} {q : IntKind} {v : Value} {born : Nat} (h : MapIs w r (one1 n q v born)) (mty kt et : TypeId) (ok : Bool) (hm : P.underlying mty = some (.map kt et)) (hk : P.underlying kt = some (.int q)) :
    (Instr.lookup mty (.map (some r)) (.int q n) ok).run P w = .ok (if ok then .tuple #[v, .bool true] else v) w := by
  obtain ⟨c, h⟩ := h
  exact look_one mty kt et q n v ok r born c hm hk h
/-- The cells of a box, also under new blocks. -/
theorem Box.deep {w : World} {b : Nat} {t : TypeId} {cs : Array Value} (h : Box w b t cs) :
    (∀ i, w.cell? ⟨b, i, none⟩ = cs[i]?) ∧ (∀ o i, (w.alloc o).cell? ⟨b, i, none⟩ = cs[i]?) ∧ (∀ o1 o2 i, ((w.alloc o1).alloc o2).cell? ⟨b, i, none⟩ = cs[i]?) ∧ (∀ o1 o2 o3 i, (((w.alloc o1).alloc o2).alloc o3).cell? ⟨b, i, none⟩ = cs[i]?) :=
  ⟨h.cell, fun o => (h.alloc o).cell, fun o1 o2 => ((h.alloc o1).alloc o2).cell, fun o1 o2 o3 => (((h.alloc o1).alloc o2).alloc o3).cell⟩
theorem Below.new1 (w : World) (o : Obj) : Below w.heap.size w (w.alloc o) := (Below.refl _ _).alloc (Nat.le_refl _) _

set_option maxHeartbeats 1000000 in
set_option maxRecDepth 100000 in
theorem box_root (a b : Int) (r born : Nat) (w : World) (hm : MapIs w r (one1 1 .u32 (rootBox a b) born)) :
    Calls Tryz.prog 11 #[.agg #[.map (some r)], .int .u32 1] w (Ret (.tuple #[rootBox a b, .bool true]) w) := by
  have hl : ∀ o1 o2, (Instr.lookup 51 (.map (some r)) (.int .u32 1) true).run Tryz.prog ((w.alloc o1).alloc o2) = .ok (.tuple #[rootBox a b, .bool true]) ((w.alloc o1).alloc o2) :=
    fun o1 o2 => ((hm.alloc o1).alloc o2).look _ _ _ true Tryz.underlying51 Tryz.underlying36
  unfold rootBox at hl
  go_enter Tryz.func11, Tryz.ntmps11
  go_wp2
  exact bodyPost_ret (v := .tuple #[rootBox a b, .bool true]) (by simp [results, Tryz.results11, go_sem, rootBox]) rfl ⟨rfl, (((Below.refl _ _).alloc (Nat.le_refl _) _).alloc (by simp) _).alloc (by simp; try omega) _⟩
def item (a b : Int) (pix : Value) (back : Int) : Value := .agg #[.int .i64 a, .int .i64 b, pix, .int .u8 back, .bool true, .bool true]
def pixV (g n : Nat) : Value := .slice (some ⟨g, 0, none⟩) n n
set_option maxHeartbeats 1000000 in
set_option maxRecDepth 100000 in
theorem grid_root (a b back : Int) (g n r born : Nat) (w : World) (hm : MapIs w r (one1 1 .u32 (item a b (pixV g n) back) born)) :
    Calls Tryz.prog 62 #[.agg #[.map (some r)], .int .u32 1] w (Ret (.tuple #[.agg #[.int .i64 a, .int .i64 b, pixV g n], .bool true]) w) := by
  have hl : ∀ o1 o2, (Instr.lookup 54 (.map (some r)) (.int .u32 1) true).run Tryz.prog ((w.alloc o1).alloc o2) = .ok (.tuple #[item a b (pixV g n) back, .bool true]) ((w.alloc o1).alloc o2) :=
    fun o1 o2 => ((hm.alloc o1).alloc o2).look _ _ _ true Tryz.underlying54 Tryz.underlying36
  unfold item pixV at hl
  unfold pixV
  go_enter Tryz.func62, Tryz.ntmps62
  go_wp2
  exact bodyPost_ret (v := .tuple #[.agg #[.int .i64 a, .int .i64 b, .slice (some ⟨g, 0, none⟩) n n], .bool true]) (by simp [results, Tryz.results62, go_sem]) rfl ⟨rfl, (((Below.refl _ _).alloc (Nat.le_refl _) _).alloc (by simp) _).alloc (by simp; try omega) _⟩
set_option maxHeartbeats 1000000 in
set_option maxRecDepth 100000 in
theorem ground_root (a b back : Int) (g n r born : Nat) (w : World) (hm : MapIs w r (one1 1 .u32 (item a b (pixV g n) back) born)) :
    Calls Tryz.prog 63 #[.agg #[.map (some r)], .int .u32 1] w (Ret (.tuple #[.int .u8 back, .bool true, .bool true]) w) := by
  have hl : ∀ o1, (Instr.lookup 54 (.map (some r)) (.int .u32 1) true).run Tryz.prog (w.alloc o1) = .ok (.tuple #[item a b (pixV g n) back, .bool true]) (w.alloc o1) :=
    fun o1 => (hm.alloc o1).look _ _ _ true Tryz.underlying54 Tryz.underlying36
  unfold item pixV at hl
  go_enter Tryz.func63, Tryz.ntmps63
  go_wp2
  go_quiet (fail)
  go_wp2
  exact bodyPost_ret (v := .tuple #[.int .u8 back, .bool true, .bool true]) (by simp [results, Tryz.results63, go_sem]) rfl ⟨rfl, below_drewN' (((Below.refl _ _).alloc (Nat.le_refl _) _).alloc (by simp) _) _⟩
set_option maxHeartbeats 1000000 in
set_option maxRecDepth 100000 in
theorem origin_root (a b : Int) (r born : Nat) (w : World) (hm : MapIs w r (one1 1 .u32 (rootBox a b) born)) :
    Calls Tryz.prog 51 #[.agg #[.map (some r)], .agg #[.map none, .map none], .int .u32 1] w (Ret (.tuple #[.agg #[.int .i64 0, .int .i64 0], .bool true]) w) := by
  have HM := Lib.hid hm
  have hlt := hm.lt
  clear hm
  go_enter Tryz.func51, Tryz.ntmps51
  go_wp2_with (
    go_at_call 20
    refine (tree_has _).mono ?_
    rintro e w1 ⟨rfl, hb1⟩
    have hs1 : w.heap.size + 1 + 1 + 1 ≤ w1.heap.size := by have := hb1.size; simpa using this
    have hw1 : Below w.heap.size w w1 := ((((Below.refl _ _).alloc (Nat.le_refl _) _).alloc (by simp) _).alloc (by simp; try omega) _).trans (hb1.mono (by simp; try omega))
    have HP := Lib.hid ((((Box.new w 53 #[.map (some r)]).alloc _).alloc _).below hb1 (by simp; try omega))
    have HT := Lib.hid (((Box.new (w.alloc (.cells #[.map (some r)] 53)) 26 #[.map none, .map none]).alloc _).below hb1 (by simp; try omega))
    have HR := Lib.hid ((Box.new ((w.alloc (.cells #[.map (some r)] 53)).alloc (.cells #[.map none, .map none] 26)) 141 #[.int .i64 0, .int .i64 0]).below hb1 (by simp; try omega))
    have HM1 := Lib.hid (HM.out.keep hw1)
    have HW1 := Lib.hid hw1
    obtain ⟨t0, t1, t2, t3⟩ := (show Box w1 (w.heap.size + 1) _ _ by simpa using HT.out).deep
    clear hb1 hw1)
  go_wp2_with (
    go_at_call 108
    refine (path_root _).mono ?_
    rintro e w2 ⟨v, rfl, ⟨g, cap, rfl, hg1, hg2, hg3⟩, hb2⟩
    simp at hg1
    have hs2 : w1.heap.size + 1 ≤ w2.heap.size := by have := hb2.size; simpa using this
    have HP2 := Lib.hid ((HP.out.alloc _).below hb2 (by simp; omega))
    have HA2 := Lib.hid ((Box.new w1 141 #[.int .i64 0, .int .i64 0]).below hb2 (by simp))
    have HR2 := Lib.hid (((show Box w1 (w.heap.size + 1 + 1) 141 #[.int .i64 0, .int .i64 0] by simpa using HR.out).alloc _).below hb2 (by simp; omega))
    have HM2 := Lib.hid ((HM1.out.alloc _).keep hb2)
    have HW2 : Hid (Below w.heap.size w w2) := (HW1.out.alloc (by omega) _).trans (hb2.mono (by simp; omega))
    clear t0 t1 t2 t3 hb2 HM HP HT HR HM1 HW1)
  go_loopw [10, 11, 12, 22] (fun _ _ _ i wr => ∃ k : Nat, k ≤ 1 ∧ i = .int .i64 k ∧ Below w2.heap.size w2 wr) (fun _ _ _ i _ => 1 - (intOf i).toNat)
  case atStart => exact ⟨0, by omega, rfl, Below.refl _ _⟩
  case round =>
    obtain ⟨k, hk, rfl, hbr⟩ := hrel
    have hsr := hbr.size
    obtain ⟨p0, p1, p2, p3⟩ := (HP2.out.below hbr (by omega)).deep
    obtain ⟨a0, a1, a2, a3⟩ := (HA2.out.below hbr (by omega)).deep
    have RB := HR2.out.below hbr (by omega)
    obtain ⟨r0, r1, r2, r3⟩ := RB.deep
    have fr := RB.frozen
    have hl := (HM2.out.keep hbr).look 51 36 95 true Tryz.underlying51 Tryz.underlying36
    simp only [if_true] at hl
    unfold rootBox at hl
    have hgr : wr.cell? ⟨g, 0, none⟩ = some (.int .u32 1) := cellv hbr hg3 (by simpa using hg2)
    have HBR := Lib.hid hbr
    clear hbr hg3
    rcases Nat.lt_or_ge k 1 with hk1 | hk1
    · obtain rfl : k = 0 := by omega
      go_wp2
      go_roundw
      case rel => exact ⟨1, by omega, by go_num, HBR.out.alloc (by omega) _⟩
      case measure => simp [intOf]
    · obtain rfl : k = 1 := by omega
      go_wp2
      refine bodyPost_ret (v := .tuple #[.agg #[.int .i64 0, .int .i64 0], .bool true]) (by simp [results, Tryz.results51, go_sem, r0]) rfl ⟨rfl, ?_⟩
      exact ((HW2.out.trans (HBR.out.mono (by omega))).setCell (by simp; omega) _).setCell (by simp; omega) _
end Go.Proofs.YtpklliedmplpdaaGreatDoor
namespace Go.Proofs.YtpklliedmplpdaaGreatDoor
open Go.RowKit

theorem Tryz.infoPix : (Tryz.prog.info? 22).map (fun i => (i.zero, i.size, i.bytes)) = some (some (.int .u8 0), 1, 1) := by kernel_rfl
/-- Block g is a row of n pixels, all of them p. -/
def Flat (w : World) (g n : Nat) (p : Int) : Prop := w.ownsRow 0 22 1 (.slice (some ⟨g, 0, none⟩) n n) n (List.replicate n (.int .u8 p))
theorem Flat.lt {w : World} {g n : Nat} {p : Int} (h : Flat w g n p) : g < w.heap.size := by
  rcases h.2 with ⟨h', _⟩ | ⟨g', cap', cur, h', hbg, hg, _⟩
  · simp at h'
  · simp only [Value.slice.injEq, Option.some.injEq, Addr.mk.injEq, and_true, true_and] at h'
    obtain ⟨rfl, rfl⟩ := h'
    exact (Array.getElem?_eq_some_iff.1 hg).1
theorem Flat.cell {w : World} {g n : Nat} {p : Int} (h : Flat w g n p) (i : Nat) (hi : i < n) : w.cell? ⟨g, i, none⟩ = some (.int .u8 p) := by
  rw [h.cellAt i (by omega), List.getElem?_replicate, if_pos hi]
theorem Flat.below {B : Nat} {w w' : World} {g n : Nat} {p : Int} (h : Flat w g n p) (hb : Below B w w') (hB : g < B) : Flat w' g n p := by
  refine ⟨h.1, ?_⟩
  rcases h.2 with ⟨h', _⟩ | ⟨g', cap', cur, h', hbg, hg, rest⟩
  · simp at h'
  · simp only [Value.slice.injEq, Option.some.injEq, Addr.mk.injEq, and_true, true_and] at h'
    obtain ⟨rfl, rfl⟩ := h'
    exact .inr ⟨g, n, cur, rfl, hbg, (hb.block g hB).trans hg, rest⟩
theorem Flat.keep {w w' : World} {g n : Nat} {p : Int} (h : Flat w g n p) (hb : Below w.heap.size w w') : Flat w' g n p := h.below hb h.lt
theorem Flat.alloc {w : World} {g n : Nat} {p : Int} (h : Flat w g n p) (o : Obj) : Flat (w.alloc o) g n p := h.keep (Below.new1 w o)
def gridV (a b : Int) (g n : Nat) : Value := .agg #[.int .i64 a, .int .i64 b, pixV g n]
def GridPost (a b : Int) (n : Nat) (p : Int) (w : World) (e : Ending) (w' : World) : Prop :=
  ∃ g, e = .returned (.tuple #[gridV a b g n, .int .i64 0]) ∧ w.heap.size ≤ g ∧ Flat w' g n p ∧ Below w.heap.size w w'
theorem owns_mono {w : World} {B B' : Nat} {e : TypeId} {size : Nat} {v : Value} {n : Nat} {xs : List Value} (h : w.ownsRow B e size v n xs) (hB : B' ≤ B) : w.ownsRow B' e size v n xs := by
  refine ⟨h.1, ?_⟩
  rcases h.2 with h' | ⟨g', cap', cur, h', hbg, rest⟩
  · exact .inl h'
  · exact .inr ⟨g', cap', cur, h', Nat.le_trans hB hbg, rest⟩
theorem fill_set (n k : Nat) (x y : Value) (h : k < n) : (List.replicate k x ++ List.replicate (n - k) y).set k x = List.replicate (k + 1) x ++ List.replicate (n - (k + 1)) y := by
  rw [List.set_append_right _ _ (by simp), List.length_replicate, Nat.sub_self, show n - k = (n - (k + 1)) + 1 by omega, List.replicate_succ, List.set_cons_zero, List.replicate_succ' (n := k)]
  simp
set_option maxHeartbeats 1000000 in
set_option maxRecDepth 100000 in
theorem gnew_yes (a b p : Int) (n : Nat) (w : World) (ha1 : 1 ≤ a) (ha2 : a ≤ 128) (hb1 : 1 ≤ b) (hb2 : b ≤ 128) (hn : a * b = n) :
    Calls Tryz.prog 64 #[.int .i64 a, .int .i64 b, .int .u8 p] w (GridPost a b n p w) := by
  obtain ⟨i0, hi, hz0, hz1, hz2⟩ := info_parts Tryz.infoPix
  have hnb : a * b ≤ 16384 := by
    have : a * b ≤ 128 * 128 := Int.mul_le_mul ha2 hb2 (by omega) (by omega)
    omega
  have hw : IntKind.i64.wrap (a * b) = (n : Int) := by rw [hn]; exact IntWalk.i64_in _ (by omega)
  have hn2 : n ≤ 16384 := by omega
  clear hn hnb
  go_enter Tryz.func64, Tryz.ntmps64
  go_wp2_with (first
    | (go_at_call 118; refine (gside_yes _ _ (by assumption) (by assumption)).mono ?_; rintro e w' ⟨rfl, rfl⟩)
    | (at_make; refine wpList_make_full _ rfl _ _ 84 rfl (w.heap.size + 1) 22 i0 _ 1 Tryz.underlying84 hi hz0 hz1 .i64 .i64 _ _ n rfl rfl ?c1 ?c2 ?c3 ?c4 ?c5 ?_))
  case c1 => rfl
  case c2 => rfl
  case c3 => rw [hz2]; omega
  case c4 => simp only [maxLen]; omega
  case c5 => simp
  intro w2 hown2 hg2
  rw [toList_madeCells_one] at hown2
  have hb2 := grown_below hg2 (Nat.le_refl _) (by simp)
  have ea : (w.alloc (.cells #[.int .i64 0, .int .i64 0, .slice none 0 0] 86)).heap.size = w.heap.size + 1 := by simp
  rw [ea] at hb2
  have hs2 := hb2.size
  rw [ea] at hs2
  have HB := Lib.hid ((Box.new w 86 #[.int .i64 0, .int .i64 0, .slice none 0 0]).below hb2 (by omega))
  have HW2 : Hid (Below w.heap.size w w2) := (Below.new1 w _).trans (hb2.mono (by omega))
  have HO := Lib.hid hown2
  clear hown2 hg2 hb2 ea
  go_wp2
  go_loopw [9, 25] (fun _ i wr => ∃ k : Nat, k ≤ n ∧ i = .int .i64 k ∧ wr.ownsRow (w.heap.size + 1) 22 1 (.slice (some ⟨w.heap.size + 1, 0, none⟩) n n) n (List.replicate k (.int .u8 p) ++ List.replicate (n - k) (.int .u8 0)) ∧ Below (w.heap.size + 1) w2 wr) (fun _ i _ => n - (intOf i).toNat)
  case atStart => exact ⟨0, by omega, rfl, by simpa using HO.out, Below.refl _ _⟩
  case round =>
    obtain ⟨k, hk, rfl, hown, hbr⟩ := hrel
    have hsr := hbr.size
    have HOWN := Lib.hid hown
    have HBR := Lib.hid hbr
    rcases Nat.lt_or_ge k n with hlt | hge
    · have hc : wr.cell? ⟨w.heap.size + 1, k, none⟩ = some (.int .u8 0) := by
        rw [hown.cellAt k (by omega), List.getElem?_append_right (by simp), List.getElem?_replicate, if_pos (by simp; omega)]
      have hf := hown.frozenAt k
      clear hown hbr
      go_wp2
      go_roundw
      case rel =>
        obtain ⟨x1, x2⟩ := HOWN.out.stored k (.int .u8 p)
        rw [fill_set _ _ _ _ hlt] at x1
        exact ⟨k + 1, by omega, by go_num, x1, HBR.out.grown x2 (by omega) (fun j hj => by injection hj with hj; omega)⟩
      case measure => simp [intOf]; omega
    · obtain rfl : k = n := by omega
      have B := HB.out.below hbr (by omega)
      obtain ⟨b0, b1, b2, b3⟩ := B.deep
      have fb := B.frozen
      clear hown hbr
      go_wp2
      refine bodyPost_ret (v := .tuple #[gridV a b (w.heap.size + 1) k, .int .i64 0]) (by simp [results, Tryz.results64, go_sem, b0, gridV, pixV]) rfl ⟨w.heap.size + 1, rfl, by omega, ?_, ?_⟩
      · have h1 := HOWN.out
        simp at h1
        exact owns_mono (ownsRow_setCell_below (ownsRow_setCell_below (ownsRow_setCell_below h1 (by simp) _) (by simp) _) (by simp) _) (Nat.zero_le _)
      · exact (((HW2.out.trans (HBR.out.mono (by omega))).setCell (by simp) _).setCell (by simp) _).setCell (by simp) _
end Go.Proofs.YtpklliedmplpdaaGreatDoor
namespace Go.Proofs.YtpklliedmplpdaaGreatDoor
open Go.RowKit

theorem put_grown {P : Program} {w : World} {r : Nat} (h : MapIs w r #[]) (mty kt et : TypeId) (q : IntKind) (n : Int) (v : Value) (hm : P.underlying mty = some (.map kt et)) (hk : P.underlying kt = some (.int q)) :
    ∃ w3 born, (Instr.mapUpdate mty (.map (some r)) (.int q n) v).run P w = .ok () w3 ∧ MapIs w3 r (one1 n q v born) ∧ w.grownBy w3 (some r) := by
  have hlt := h.lt
  obtain ⟨clock, hb⟩ := h
  refine ⟨_, clock, put_first mty kt et q n v r clock hm hk hb, ⟨clock + 1, ?_⟩, ⟨rfl, rfl, rfl, ?_, ?_⟩⟩
  · simp [hlt]
  · simp
  · intro k hk hne
    have : k ≠ r := fun e => hne (by rw [e])
    simp [Array.getElem?_setIfInBounds_ne (Ne.symm this)]
theorem after1 {w w' : World} {o1 : Obj} (h : Below (w.alloc o1).heap.size (w.alloc o1) w') : Below w.heap.size w w' ∧ w.heap.size + 1 ≤ w'.heap.size ∧ w'.heap[w.heap.size]? = some o1 := by
  refine ⟨(Below.new1 w o1).trans (h.mono (by simp; try omega)), by have := h.size; simpa using this, ?_⟩
  · exact (h.block _ (by simp; try omega)).trans (heap_at (w := w) (by simp) o1)
theorem after2 {w w' : World} {o1 o2 : Obj} (h : Below ((w.alloc o1).alloc o2).heap.size ((w.alloc o1).alloc o2) w') : Below w.heap.size w w' ∧ w.heap.size + 1 + 1 ≤ w'.heap.size ∧ w'.heap[w.heap.size]? = some o1 ∧ w'.heap[w.heap.size + 1]? = some o2 := by
  refine ⟨((Below.new1 w o1).alloc (by simp; try omega) o2).trans (h.mono (by simp; try omega)), by have := h.size; simpa using this, ?_, ?_⟩
  · exact (h.block _ (by simp; try omega)).trans ((Below.heap_alloc (w.alloc o1) o2 _ (by simp; try omega)).trans (heap_at (w := w) (by simp) o1))
  · exact (h.block _ (by simp; try omega)).trans (heap_at (w := (w.alloc o1)) (by simp) o2)
theorem after3 {w w' : World} {o1 o2 o3 : Obj} (h : Below (((w.alloc o1).alloc o2).alloc o3).heap.size (((w.alloc o1).alloc o2).alloc o3) w') : Below w.heap.size w w' ∧ w.heap.size + 1 + 1 + 1 ≤ w'.heap.size ∧ w'.heap[w.heap.size]? = some o1 ∧ w'.heap[w.heap.size + 1]? = some o2 ∧ w'.heap[w.heap.size + 1 + 1]? = some o3 := by
  refine ⟨(((Below.new1 w o1).alloc (by simp; try omega) o2).alloc (by simp; try omega) o3).trans (h.mono (by simp; try omega)), by have := h.size; simpa using this, ?_, ?_, ?_⟩
  · exact (h.block _ (by simp; try omega)).trans ((Below.heap_alloc ((w.alloc o1).alloc o2) o3 _ (by simp; try omega)).trans ((Below.heap_alloc (w.alloc o1) o2 _ (by simp; try omega)).trans (heap_at (w := w) (by simp) o1)))
  · exact (h.block _ (by simp; try omega)).trans ((Below.heap_alloc ((w.alloc o1).alloc o2) o3 _ (by simp; try omega)).trans (heap_at (w := (w.alloc o1)) (by simp) o2))
  · exact (h.block _ (by simp; try omega)).trans (heap_at (w := ((w.alloc o1).alloc o2)) (by simp) o3)
theorem after4 {w w' : World} {o1 o2 o3 o4 : Obj} (h : Below ((((w.alloc o1).alloc o2).alloc o3).alloc o4).heap.size ((((w.alloc o1).alloc o2).alloc o3).alloc o4) w') : Below w.heap.size w w' ∧ w.heap.size + 1 + 1 + 1 + 1 ≤ w'.heap.size ∧ w'.heap[w.heap.size]? = some o1 ∧ w'.heap[w.heap.size + 1]? = some o2 ∧ w'.heap[w.heap.size + 1 + 1]? = some o3 ∧ w'.heap[w.heap.size + 1 + 1 + 1]? = some o4 := by
  refine ⟨((((Below.new1 w o1).alloc (by simp; try omega) o2).alloc (by simp; try omega) o3).alloc (by simp; try omega) o4).trans (h.mono (by simp; try omega)), by have := h.size; simpa using this, ?_, ?_, ?_, ?_⟩
  · exact (h.block _ (by simp; try omega)).trans ((Below.heap_alloc (((w.alloc o1).alloc o2).alloc o3) o4 _ (by simp; try omega)).trans ((Below.heap_alloc ((w.alloc o1).alloc o2) o3 _ (by simp; try omega)).trans ((Below.heap_alloc (w.alloc o1) o2 _ (by simp; try omega)).trans (heap_at (w := w) (by simp) o1))))
  · exact (h.block _ (by simp; try omega)).trans ((Below.heap_alloc (((w.alloc o1).alloc o2).alloc o3) o4 _ (by simp; try omega)).trans ((Below.heap_alloc ((w.alloc o1).alloc o2) o3 _ (by simp; try omega)).trans (heap_at (w := (w.alloc o1)) (by simp) o2)))
  · exact (h.block _ (by simp; try omega)).trans ((Below.heap_alloc (((w.alloc o1).alloc o2).alloc o3) o4 _ (by simp; try omega)).trans (heap_at (w := ((w.alloc o1).alloc o2)) (by simp) o3))
  · exact (h.block _ (by simp; try omega)).trans (heap_at (w := (((w.alloc o1).alloc o2).alloc o3)) (by simp) o4)
theorem after5 {w w' : World} {o1 o2 o3 o4 o5 : Obj} (h : Below (((((w.alloc o1).alloc o2).alloc o3).alloc o4).alloc o5).heap.size (((((w.alloc o1).alloc o2).alloc o3).alloc o4).alloc o5) w') : Below w.heap.size w w' ∧ w.heap.size + 1 + 1 + 1 + 1 + 1 ≤ w'.heap.size ∧ w'.heap[w.heap.size]? = some o1 ∧ w'.heap[w.heap.size + 1]? = some o2 ∧ w'.heap[w.heap.size + 1 + 1]? = some o3 ∧ w'.heap[w.heap.size + 1 + 1 + 1]? = some o4 ∧ w'.heap[w.heap.size + 1 + 1 + 1 + 1]? = some o5 := by
  refine ⟨(((((Below.new1 w o1).alloc (by simp; try omega) o2).alloc (by simp; try omega) o3).alloc (by simp; try omega) o4).alloc (by simp; try omega) o5).trans (h.mono (by simp; try omega)), by have := h.size; simpa using this, ?_, ?_, ?_, ?_, ?_⟩
  · exact (h.block _ (by simp; try omega)).trans ((Below.heap_alloc ((((w.alloc o1).alloc o2).alloc o3).alloc o4) o5 _ (by simp; try omega)).trans ((Below.heap_alloc (((w.alloc o1).alloc o2).alloc o3) o4 _ (by simp; try omega)).trans ((Below.heap_alloc ((w.alloc o1).alloc o2) o3 _ (by simp; try omega)).trans ((Below.heap_alloc (w.alloc o1) o2 _ (by simp; try omega)).trans (heap_at (w := w) (by simp) o1)))))
  · exact (h.block _ (by simp; try omega)).trans ((Below.heap_alloc ((((w.alloc o1).alloc o2).alloc o3).alloc o4) o5 _ (by simp; try omega)).trans ((Below.heap_alloc (((w.alloc o1).alloc o2).alloc o3) o4 _ (by simp; try omega)).trans ((Below.heap_alloc ((w.alloc o1).alloc o2) o3 _ (by simp; try omega)).trans (heap_at (w := (w.alloc o1)) (by simp) o2))))
  · exact (h.block _ (by simp; try omega)).trans ((Below.heap_alloc ((((w.alloc o1).alloc o2).alloc o3).alloc o4) o5 _ (by simp; try omega)).trans ((Below.heap_alloc (((w.alloc o1).alloc o2).alloc o3) o4 _ (by simp; try omega)).trans (heap_at (w := ((w.alloc o1).alloc o2)) (by simp) o3)))
  · exact (h.block _ (by simp; try omega)).trans ((Below.heap_alloc ((((w.alloc o1).alloc o2).alloc o3).alloc o4) o5 _ (by simp; try omega)).trans (heap_at (w := (((w.alloc o1).alloc o2).alloc o3)) (by simp) o4))
  · exact (h.block _ (by simp; try omega)).trans (heap_at (w := ((((w.alloc o1).alloc o2).alloc o3).alloc o4)) (by simp) o5)
theorem after6 {w w' : World} {o1 o2 o3 o4 o5 o6 : Obj} (h : Below ((((((w.alloc o1).alloc o2).alloc o3).alloc o4).alloc o5).alloc o6).heap.size ((((((w.alloc o1).alloc o2).alloc o3).alloc o4).alloc o5).alloc o6) w') : Below w.heap.size w w' ∧ w.heap.size + 1 + 1 + 1 + 1 + 1 + 1 ≤ w'.heap.size ∧ w'.heap[w.heap.size]? = some o1 ∧ w'.heap[w.heap.size + 1]? = some o2 ∧ w'.heap[w.heap.size + 1 + 1]? = some o3 ∧ w'.heap[w.heap.size + 1 + 1 + 1]? = some o4 ∧ w'.heap[w.heap.size + 1 + 1 + 1 + 1]? = some o5 ∧ w'.heap[w.heap.size + 1 + 1 + 1 + 1 + 1]? = some o6 := by
  refine ⟨((((((Below.new1 w o1).alloc (by simp; try omega) o2).alloc (by simp; try omega) o3).alloc (by simp; try omega) o4).alloc (by simp; try omega) o5).alloc (by simp; try omega) o6).trans (h.mono (by simp; try omega)), by have := h.size; simpa using this, ?_, ?_, ?_, ?_, ?_, ?_⟩
  · exact (h.block _ (by simp; try omega)).trans ((Below.heap_alloc (((((w.alloc o1).alloc o2).alloc o3).alloc o4).alloc o5) o6 _ (by simp; try omega)).trans ((Below.heap_alloc ((((w.alloc o1).alloc o2).alloc o3).alloc o4) o5 _ (by simp; try omega)).trans ((Below.heap_alloc (((w.alloc o1).alloc o2).alloc o3) o4 _ (by simp; try omega)).trans ((Below.heap_alloc ((w.alloc o1).alloc o2) o3 _ (by simp; try omega)).trans ((Below.heap_alloc (w.alloc o1) o2 _ (by simp; try omega)).trans (heap_at (w := w) (by simp) o1))))))
  · exact (h.block _ (by simp; try omega)).trans ((Below.heap_alloc (((((w.alloc o1).alloc o2).alloc o3).alloc o4).alloc o5) o6 _ (by simp; try omega)).trans ((Below.heap_alloc ((((w.alloc o1).alloc o2).alloc o3).alloc o4) o5 _ (by simp; try omega)).trans ((Below.heap_alloc (((w.alloc o1).alloc o2).alloc o3) o4 _ (by simp; try omega)).trans ((Below.heap_alloc ((w.alloc o1).alloc o2) o3 _ (by simp; try omega)).trans (heap_at (w := (w.alloc o1)) (by simp) o2)))))
  · exact (h.block _ (by simp; try omega)).trans ((Below.heap_alloc (((((w.alloc o1).alloc o2).alloc o3).alloc o4).alloc o5) o6 _ (by simp; try omega)).trans ((Below.heap_alloc ((((w.alloc o1).alloc o2).alloc o3).alloc o4) o5 _ (by simp; try omega)).trans ((Below.heap_alloc (((w.alloc o1).alloc o2).alloc o3) o4 _ (by simp; try omega)).trans (heap_at (w := ((w.alloc o1).alloc o2)) (by simp) o3))))
  · exact (h.block _ (by simp; try omega)).trans ((Below.heap_alloc (((((w.alloc o1).alloc o2).alloc o3).alloc o4).alloc o5) o6 _ (by simp; try omega)).trans ((Below.heap_alloc ((((w.alloc o1).alloc o2).alloc o3).alloc o4) o5 _ (by simp; try omega)).trans (heap_at (w := (((w.alloc o1).alloc o2).alloc o3)) (by simp) o4)))
  · exact (h.block _ (by simp; try omega)).trans ((Below.heap_alloc (((((w.alloc o1).alloc o2).alloc o3).alloc o4).alloc o5) o6 _ (by simp; try omega)).trans (heap_at (w := ((((w.alloc o1).alloc o2).alloc o3).alloc o4)) (by simp) o5))
  · exact (h.block _ (by simp; try omega)).trans (heap_at (w := (((((w.alloc o1).alloc o2).alloc o3).alloc o4).alloc o5)) (by simp) o6)
theorem after7 {w w' : World} {o1 o2 o3 o4 o5 o6 o7 : Obj} (h : Below (((((((w.alloc o1).alloc o2).alloc o3).alloc o4).alloc o5).alloc o6).alloc o7).heap.size (((((((w.alloc o1).alloc o2).alloc o3).alloc o4).alloc o5).alloc o6).alloc o7) w') : Below w.heap.size w w' ∧ w.heap.size + 1 + 1 + 1 + 1 + 1 + 1 + 1 ≤ w'.heap.size ∧ w'.heap[w.heap.size]? = some o1 ∧ w'.heap[w.heap.size + 1]? = some o2 ∧ w'.heap[w.heap.size + 1 + 1]? = some o3 ∧ w'.heap[w.heap.size + 1 + 1 + 1]? = some o4 ∧ w'.heap[w.heap.size + 1 + 1 + 1 + 1]? = some o5 ∧ w'.heap[w.heap.size + 1 + 1 + 1 + 1 + 1]? = some o6 ∧ w'.heap[w.heap.size + 1 + 1 + 1 + 1 + 1 + 1]? = some o7 := by
  refine ⟨(((((((Below.new1 w o1).alloc (by simp; try omega) o2).alloc (by simp; try omega) o3).alloc (by simp; try omega) o4).alloc (by simp; try omega) o5).alloc (by simp; try omega) o6).alloc (by simp; try omega) o7).trans (h.mono (by simp; try omega)), by have := h.size; simpa using this, ?_, ?_, ?_, ?_, ?_, ?_, ?_⟩
  · exact (h.block _ (by simp; try omega)).trans ((Below.heap_alloc ((((((w.alloc o1).alloc o2).alloc o3).alloc o4).alloc o5).alloc o6) o7 _ (by simp; try omega)).trans ((Below.heap_alloc (((((w.alloc o1).alloc o2).alloc o3).alloc o4).alloc o5) o6 _ (by simp; try omega)).trans ((Below.heap_alloc ((((w.alloc o1).alloc o2).alloc o3).alloc o4) o5 _ (by simp; try omega)).trans ((Below.heap_alloc (((w.alloc o1).alloc o2).alloc o3) o4 _ (by simp; try omega)).trans ((Below.heap_alloc ((w.alloc o1).alloc o2) o3 _ (by simp; try omega)).trans ((Below.heap_alloc (w.alloc o1) o2 _ (by simp; try omega)).trans (heap_at (w := w) (by simp) o1)))))))
  · exact (h.block _ (by simp; try omega)).trans ((Below.heap_alloc ((((((w.alloc o1).alloc o2).alloc o3).alloc o4).alloc o5).alloc o6) o7 _ (by simp; try omega)).trans ((Below.heap_alloc (((((w.alloc o1).alloc o2).alloc o3).alloc o4).alloc o5) o6 _ (by simp; try omega)).trans ((Below.heap_alloc ((((w.alloc o1).alloc o2).alloc o3).alloc o4) o5 _ (by simp; try omega)).trans ((Below.heap_alloc (((w.alloc o1).alloc o2).alloc o3) o4 _ (by simp; try omega)).trans ((Below.heap_alloc ((w.alloc o1).alloc o2) o3 _ (by simp; try omega)).trans (heap_at (w := (w.alloc o1)) (by simp) o2))))))
  · exact (h.block _ (by simp; try omega)).trans ((Below.heap_alloc ((((((w.alloc o1).alloc o2).alloc o3).alloc o4).alloc o5).alloc o6) o7 _ (by simp; try omega)).trans ((Below.heap_alloc (((((w.alloc o1).alloc o2).alloc o3).alloc o4).alloc o5) o6 _ (by simp; try omega)).trans ((Below.heap_alloc ((((w.alloc o1).alloc o2).alloc o3).alloc o4) o5 _ (by simp; try omega)).trans ((Below.heap_alloc (((w.alloc o1).alloc o2).alloc o3) o4 _ (by simp; try omega)).trans (heap_at (w := ((w.alloc o1).alloc o2)) (by simp) o3)))))
  · exact (h.block _ (by simp; try omega)).trans ((Below.heap_alloc ((((((w.alloc o1).alloc o2).alloc o3).alloc o4).alloc o5).alloc o6) o7 _ (by simp; try omega)).trans ((Below.heap_alloc (((((w.alloc o1).alloc o2).alloc o3).alloc o4).alloc o5) o6 _ (by simp; try omega)).trans ((Below.heap_alloc ((((w.alloc o1).alloc o2).alloc o3).alloc o4) o5 _ (by simp; try omega)).trans (heap_at (w := (((w.alloc o1).alloc o2).alloc o3)) (by simp) o4))))
  · exact (h.block _ (by simp; try omega)).trans ((Below.heap_alloc ((((((w.alloc o1).alloc o2).alloc o3).alloc o4).alloc o5).alloc o6) o7 _ (by simp; try omega)).trans ((Below.heap_alloc (((((w.alloc o1).alloc o2).alloc o3).alloc o4).alloc o5) o6 _ (by simp; try omega)).trans (heap_at (w := ((((w.alloc o1).alloc o2).alloc o3).alloc o4)) (by simp) o5)))
  · exact (h.block _ (by simp; try omega)).trans ((Below.heap_alloc ((((((w.alloc o1).alloc o2).alloc o3).alloc o4).alloc o5).alloc o6) o7 _ (by simp; try omega)).trans (heap_at (w := (((((w.alloc o1).alloc o2).alloc o3).alloc o4).alloc o5)) (by simp) o6))
  · exact (h.block _ (by simp; try omega)).trans (heap_at (w := ((((((w.alloc o1).alloc o2).alloc o3).alloc o4).alloc o5).alloc o6)) (by simp) o7)
theorem run_makeMap1 {P : Program} (w : World) (t k e : TypeId) (ht : P.underlying t = some (.map k e)) : (Instr.makeMap t (some (.int .i64 1))).run P w = .ok (.map (some w.heap.size)) (w.alloc (.map #[] 0)) := by
  simp [Instr.makeMap, run_underlying ht]
  rfl
theorem size_grid : (Tryz.prog.info? 86).map (·.size) = some 3 := by kernel_rfl
theorem ownsRow_setCell_far {w : World} {base : Nat} {e : TypeId} {size g n cap m : Nat} {xs : List Value} (h : w.ownsRow base e size (.slice (some ⟨g, 0, none⟩) n cap) m xs) {a : Addr} (ha : g ≠ a.block) (u : Value) : (w.setCell a u).ownsRow base e size (.slice (some ⟨g, 0, none⟩) n cap) m xs := by
  refine ⟨h.1, ?_⟩
  rcases h.2 with h' | ⟨g', cap', cur, h', hbg, hg, rest⟩
  · exact .inl h'
  · have e1 : g' = g := by simp only [Value.slice.injEq, Option.some.injEq, Addr.mk.injEq, and_true, true_and] at h'; omega
    exact .inr ⟨g', cap', cur, h', hbg, (Below.heap_setCell w a u g' (by omega)).trans hg, rest⟩
theorem box_of {w : World} {b : Nat} {t : TypeId} {cs : Array Value} (h : w.heap[b]? = some (.cells cs t)) : Box w b t cs := h
theorem Box.deepF {w : World} {b : Nat} {t : TypeId} {cs : Array Value} (h : Box w b t cs) :
    (∀ i, w.frozen? ⟨b, i, none⟩ = false) ∧ (∀ o i, (w.alloc o).frozen? ⟨b, i, none⟩ = false) ∧ (∀ o1 o2 i, ((w.alloc o1).alloc o2).frozen? ⟨b, i, none⟩ = false) ∧ (∀ o1 o2 o3 i, (((w.alloc o1).alloc o2).alloc o3).frozen? ⟨b, i, none⟩ = false) :=
  ⟨h.frozen, fun o => (h.alloc o).frozen, fun o1 o2 => ((h.alloc o1).alloc o2).frozen, fun o1 o2 o3 => (((h.alloc o1).alloc o2).alloc o3).frozen⟩
theorem Flat.far {w : World} {g n : Nat} {p : Int} (h : Flat w g n p) {a : Addr} (ha : g ≠ a.block) (u : Value) : Flat (w.setCell a u) g n p := ownsRow_setCell_far h ha u
theorem copy_nil (r : Nat) (w : World) : Calls Tryz.prog 148 #[.map (some r), .map none] w (Ret (.tuple #[]) w) := by
  have h1 := run_range_nilMap (P := Tryz.prog) w 54 _ _ Tryz.underlying54
  have h2 := fun ty => run_next_nilMap (P := Tryz.prog) w ty 0 0 #[]
  go_enter Tryz.func148, Tryz.ntmps148
  go_wp2
  go_loopw [4, 5] (fun _ _ wr => wr = w.alloc (.mapIter none 0 #[] 0)) (fun _ _ _ => 0)
  case atStart => rfl
  case round =>
    obtain rfl := hrel
    go_wp2
    go_end0
    exact ⟨rfl, Below.new1 _ _⟩
def WithPost (it : Value) (w : World) (e : Ending) (w' : World) : Prop :=
  ∃ r born, e = .returned (.agg #[.map (some r)]) ∧ w.heap.size ≤ r ∧ MapIs w' r (one1 1 .u32 it born) ∧ Below w.heap.size w w'
set_option maxHeartbeats 1000000 in
set_option maxRecDepth 100000 in
theorem with_nil (a b back : Int) (g n : Nat) (w : World) : Calls Tryz.prog 107 #[.agg #[.map none], .int .u32 1, item a b (pixV g n) back] w (WithPost (item a b (pixV g n) back) w) := by
  unfold item pixV
  have hmm := fun W => run_makeMap1 (P := Tryz.prog) W 54 _ _ Tryz.underlying54
  go_enter Tryz.func107, Tryz.ntmps107
  go_wp2_with (
    go_at_call 148
    refine (copy_nil _ _).mono ?_
    rintro e w2 ⟨rfl, hb2⟩
    have hw2 : Below w.heap.size w w2 := ((((Below.new1 w _).alloc (by simp) _).alloc (by simp; try omega) _).alloc (by simp; try omega) _).trans (hb2.mono (by simp; try omega))
    have hs2 : w.heap.size + 1 + 1 + 1 + 1 ≤ w2.heap.size := by have := hb2.size; simpa using this
    have hm2 : MapIs w2 (w.heap.size + 1 + 1 + 1) #[] := by
      refine MapIs.keep ?_ hb2
      exact ⟨0, heap_at (by simp) _⟩
    have hB5 : Box w2 (w.heap.size + 1) 138 #[.int .i64 a, .int .i64 b, .slice (some ⟨g, 0, none⟩) n n, .int .u8 back, .bool true, .bool true] := by
      refine Box.below ?_ hb2 (by simp; try omega)
      have := (((Box.new (w.alloc (.cells #[.map none] 56)) 138 #[.int .i64 a, .int .i64 b, .slice (some ⟨g, 0, none⟩) n n, .int .u8 back, .bool true, .bool true]).alloc (.cells #[.map none] 56)).alloc (.map #[] 0))
      simpa using this
    have hB6 : Box w2 (w.heap.size + 1 + 1) 56 #[.map none] := by
      refine Box.below ?_ hb2 (by simp; try omega)
      have := ((Box.new ((w.alloc (.cells #[.map none] 56)).alloc (.cells #[.int .i64 a, .int .i64 b, .slice (some ⟨g, 0, none⟩) n n, .int .u8 back, .bool true, .bool true] 138)) 56 #[.map none]).alloc (.map #[] 0))
      simpa using this
    obtain ⟨c0, c1, c2, c3⟩ := hB5.deep
    obtain ⟨w3, born, hp3, hm3, hg3⟩ := put_grown (P := Tryz.prog) hm2 54 36 138 .u32 1 (.agg #[.int .i64 a, .int .i64 b, .slice (some ⟨g, 0, none⟩) n n, .int .u8 back, .bool true, .bool true]) Tryz.underlying54 Tryz.underlying36
    have hB63 := hB6.grown hg3 (by simp)
    obtain ⟨d0, d1, d2, d3⟩ := hB63.deep
    have f6 := hB63.frozen
    have HG := Lib.hid hg3
    have HM := Lib.hid hm3
    have HW := Lib.hid hw2
    clear hb2 hg3 hm3 hm2 hw2 hB5 hB6 hB63)
  refine bodyPost_ret (v := .agg #[.map (some (w.heap.size + 1 + 1 + 1))]) (by simp [results, Tryz.results107, go_sem, d0]) rfl ⟨_, born, rfl, by omega, HM.out.far (by simp) _, ?_⟩
  exact (HW.out.grown HG.out (by omega) (fun j hj => by injection hj with hj; omega)).setCell (by simp; try omega) _
theorem size_any (a b : Int) (v : Value) (w : World) : Calls Tryz.prog 9 #[.agg #[.int .i64 a, .int .i64 b, v]] w (Ret (.tuple #[.int .i64 a, .int .i64 b]) w) := by
  go_enter Tryz.func9, Tryz.ntmps9
  go_wp2
  go_quiet (fail)
  go_wp2
  go_ret2
  exact ⟨rfl, below_drewN' (Below.new1 _ _) _⟩
theorem has_yes (a b x y : Int) (v : Value) (w : World) (h1 : 0 ≤ x) (h2 : x < a) (h3 : 0 ≤ y) (h4 : y < b) : Calls Tryz.prog 31 #[.agg #[.int .i64 a, .int .i64 b, v], .int .i64 x, .int .i64 y] w (Ret (.bool true) w) := by
  go_enter Tryz.func31, Tryz.ntmps31
  go_wp2
  go_ret
  exact ⟨rfl, Below.new1 _ _⟩
def AddPost (a b : Int) (n : Nat) (back : Int) (w : World) (e : Ending) (w' : World) : Prop :=
  ∃ r born g, e = .returned (.tuple #[.agg #[.map (some r)], .int .i64 0]) ∧ w.heap.size ≤ r ∧ w.heap.size ≤ g ∧ MapIs w' r (one1 1 .u32 (item a b (pixV g n) back) born) ∧ Flat w' g n back ∧ Below w.heap.size w w'
set_option maxHeartbeats 1000000 in
set_option maxRecDepth 100000 in
theorem add_root (a b back : Int) (n : Nat) (w : World) (ha1 : 1 ≤ a) (ha2 : a ≤ 128) (hb1 : 1 ≤ b) (hb2 : b ≤ 128) (hn : a * b = n) :
    Calls Tryz.prog 49 #[.agg #[.map none], .int .u32 1, .int .i64 a, .int .i64 b, .agg #[.int .i64 0, .int .i64 0, .slice none 0 0, .int .u8 back, .bool true, .bool true]] w (AddPost a b n back w) := by
  have hl := fun W => look_nil (P := Tryz.prog) (w := W) 54 36 138 .u32 1 (.agg #[.int .i64 0, .int .i64 0, .slice none 0 0, .int .u8 0, .bool false, .bool false]) true Tryz.underlying54 Tryz.underlying36 (by simp [go_sem])
  have HN := Lib.hid hn
  clear hn
  go_enter Tryz.func49, Tryz.ntmps49
  go_wp2_with (first
    | (go_at_call 106; refine (check_root _).mono ?_; rintro e w' ⟨rfl, rfl⟩)
    | (go_at_call 64
       refine (gnew_yes _ _ _ n _ ha1 ha2 hb1 hb2 HN.out).mono ?_
       rintro e w2 ⟨g, rfl, hg, hf2, hb2⟩
       unfold gridV pixV
       simp at hg
       obtain ⟨hw2, hs2, x1, x2, x3⟩ := after3 hb2
       obtain ⟨c0, c1, c2, c3⟩ := (box_of x1).deep
       obtain ⟨d0, d1, d2, d3⟩ := (box_of x2).deep
       obtain ⟨fd0, fd1, fd2, fd3⟩ := (box_of x2).deepF
       have HX1 := Lib.hid (box_of x1)
       have HX2 := Lib.hid (box_of x2)
       have HX3 := Lib.hid (box_of x3)
       have HF := Lib.hid hf2
       have HW := Lib.hid hw2
       clear x1 x2 x3 hb2 hf2 hw2))
  refine (with_nil a b back g n _).mono ?_
  rintro e w5 ⟨r, born, rfl, hr, hm5, hb5⟩
  have z3 := (((((HX3.out.alloc _).alloc _).far (by simp) _).far (by simp) _).far (by simp) _).below hb5 (by simp; try omega)
  have hf5 : Flat w5 g n back := Flat.keep (by refine ((((HF.out.alloc _).alloc _).far ?_ _).far ?_ _).far ?_ _ <;> (simp; try omega)) hb5
  have hw5 := (((((HW.out.alloc (by omega) _).alloc (by simp; try omega) _).setCell (by simp; try omega) _).setCell (by simp; try omega) _).setCell (by simp; try omega) _).trans (hb5.mono (by simp; try omega))
  have hs5 := hb5.size
  simp at hr hs5
  obtain ⟨e0, e1, e2, e3⟩ := z3.deep
  have fe := z3.frozen
  have HM5 := Lib.hid hm5
  have HF5 := Lib.hid hf5
  have HW5 := Lib.hid hw5
  clear z3 hm5 hb5 hf5 hw5 c0 c1 c2 c3 d0 d1 d2 d3
  go_wp2
  refine bodyPost_ret (v := .tuple #[.agg #[.map (some r)], .int .i64 0]) (by simp [results, Tryz.results49, go_sem, e0]) rfl ⟨r, born, g, rfl, by omega, by omega, HM5.out.far (by simp; try omega) _, ?_, ?_⟩
  · exact ownsRow_setCell_far HF5.out (by simp; try omega) _
  · exact HW5.out.setCell (by simp; try omega) _
set_option maxHeartbeats 1000000 in
set_option maxRecDepth 100000 in
theorem open_root (a b back : Int) (n : Nat) (w : World) (ha1 : 1 ≤ a) (ha2 : a ≤ 128) (hb1 : 1 ≤ b) (hb2 : b ≤ 128) (hn : a * b = n) :
    Calls Tryz.prog 15 #[.agg #[.map none], .int .u32 1, .int .i64 a, .int .i64 b, .int .u8 back, .bool true] w (AddPost a b n back w) := by
  have HN := Lib.hid hn
  clear hn
  go_enter Tryz.func15, Tryz.ntmps15
  go_wp2_with (
    go_at_call 49
    refine (add_root a b back n _ ha1 ha2 hb1 hb2 HN.out).mono ?_
    rintro e w2 ⟨r, born, g, rfl, hr, hg, hm2, hf2, hb2⟩
    obtain ⟨hw2, hs2, x1, x2⟩ := after2 hb2
    simp at hr hg
    obtain ⟨e0, e1, e2, e3⟩ := (box_of x2).deep
    have fe := (box_of x2).frozen
    have HM := Lib.hid hm2
    have HF := Lib.hid hf2
    have HW := Lib.hid hw2
    clear x1 x2 hm2 hf2 hw2 hb2)
  refine bodyPost_ret (v := .tuple #[.agg #[.map (some r)], .int .i64 0]) (by simp [results, Tryz.results15, go_sem, e0]) rfl ⟨r, born, g, rfl, by omega, by omega, HM.out.far (by simp; try omega) _, ?_, ?_⟩
  · exact ownsRow_setCell_far HF.out (by simp; try omega) _
  · exact HW.out.setCell (by simp; try omega) _
end Go.Proofs.YtpklliedmplpdaaGreatDoor
