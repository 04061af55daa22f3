/-
  A grid that has one pixel everywhere: grid.New and twin, as contracts of the evaluator (any size).
-/
import Derived.Test.YtmghbbicjkmigaaGreatDoorProg
import Derived.Test.YtmghbbicjkmigaaGreatDoorHb
import Derived.Test.YtmghbbicjkmigaaGreatDoorZa
import Derived.MapKept
import Derived.Below
import Derived.WideMake
import Derived.WalkKit
import Derived.WalkSpells
import Derived.WalkLawsBesides
import Derived.BigGuardPart
import Derived.Deep.Light
import Derived.Deep.QuietTactic
import Derived.BigQuiet
import Derived.Outline
namespace Go.Proofs.YtmghbbicjkmigaaGreatDoor
open Go.RowKit

theorem Below.new1 (w : World) (o : Obj) : Below w.heap.size w (w.alloc o) := (Below.refl _ _).alloc (Nat.le_refl _) _
theorem Box.deep {w : World} {b : Nat} {t : TypeId} {cs : Array Value} (h : Box w b t cs) :
    (∀ i, w.cell? ⟨b, i, none⟩ = cs[i]?) ∧ (∀ o i, (w.alloc o).cell? ⟨b, i, none⟩ = cs[i]?) ∧ (∀ o1 o2 i, ((w.alloc o1).alloc o2).cell? ⟨b, i, none⟩ = cs[i]?) ∧ (∀ o1 o2 o3 i, (((w.alloc o1).alloc o2).alloc o3).cell? ⟨b, i, none⟩ = cs[i]?) :=
  ⟨h.cell, fun o => (h.alloc o).cell, fun o1 o2 => ((h.alloc o1).alloc o2).cell, fun o1 o2 o3 => (((h.alloc o1).alloc o2).alloc o3).cell⟩
def pixV (g n : Nat) : Value := .slice (some ⟨g, 0, none⟩) n n
theorem gside_yes (n : Int) (w : World) (h1 : 1 ≤ n) (h2 : n ≤ 128) : Calls Tryz.prog 263 #[.int .i64 n] w fun e w' => e = .returned (.bool true) ∧ w = w' := by
  go_enter Tryz.func263, Tryz.ntmps263
  go_wp2
  go_ret
  exact ⟨rfl, rfl⟩
theorem Tryz.infoPix : (Tryz.prog.info? 105).map (fun i => (i.zero, i.size, i.bytes)) = some (some (.int .u8 0), 1, 1) := by kernel_rfl
/-- Block g is a row of n pixels, all of them p. -/
def Flat (w : World) (g n : Nat) (p : Int) : Prop := w.ownsRow 0 105 1 (.slice (some ⟨g, 0, none⟩) n n) n (List.replicate n (.int .u8 p))
theorem Flat.lt {w : World} {g n : Nat} {p : Int} (h : Flat w g n p) : g < w.heap.size := by
  rcases h.2 with ⟨h', _⟩ | ⟨g', cap', cur, h', hbg, hg, _⟩
  · simp at h'
  · simp only [Value.slice.injEq, Option.some.injEq, Addr.mk.injEq, and_true, true_and] at h'
    obtain ⟨rfl, rfl⟩ := h'
    exact (Array.getElem?_eq_some_iff.1 hg).1
theorem Flat.cell {w : World} {g n : Nat} {p : Int} (h : Flat w g n p) (i : Nat) (hi : i < n) : w.cell? ⟨g, i, none⟩ = some (.int .u8 p) := by
  rw [h.cellAt i (by omega), List.getElem?_replicate, if_pos hi]
theorem Flat.below {B : Nat} {w w' : World} {g n : Nat} {p : Int} (h : Flat w g n p) (hb : Below B w w') (hB : g < B) : Flat w' g n p := by
  refine ⟨h.1, ?_⟩
  rcases h.2 with ⟨h', _⟩ | ⟨g', cap', cur, h', hbg, hg, rest⟩
  · simp at h'
  · simp only [Value.slice.injEq, Option.some.injEq, Addr.mk.injEq, and_true, true_and] at h'
    obtain ⟨rfl, rfl⟩ := h'
    exact .inr ⟨g, n, cur, rfl, hbg, (hb.block g hB).trans hg, rest⟩
theorem Flat.keep {w w' : World} {g n : Nat} {p : Int} (h : Flat w g n p) (hb : Below w.heap.size w w') : Flat w' g n p := h.below hb h.lt
theorem Flat.alloc {w : World} {g n : Nat} {p : Int} (h : Flat w g n p) (o : Obj) : Flat (w.alloc o) g n p := h.keep (Below.new1 w o)
def gridV (a b : Int) (g n : Nat) : Value := .agg #[.int .i64 a, .int .i64 b, pixV g n]
def GridPost (a b : Int) (n : Nat) (p : Int) (w : World) (e : Ending) (w' : World) : Prop :=
  ∃ g, e = .returned (.tuple #[gridV a b g n, .int .i64 0]) ∧ w.heap.size ≤ g ∧ Flat w' g n p ∧ Below w.heap.size w w'
theorem owns_mono {w : World} {B B' : Nat} {e : TypeId} {size : Nat} {v : Value} {n : Nat} {xs : List Value} (h : w.ownsRow B e size v n xs) (hB : B' ≤ B) : w.ownsRow B' e size v n xs := by
  refine ⟨h.1, ?_⟩
  rcases h.2 with h' | ⟨g', cap', cur, h', hbg, rest⟩
  · exact .inl h'
  · exact .inr ⟨g', cap', cur, h', Nat.le_trans hB hbg, rest⟩
theorem fill_set (n k : Nat) (x y : Value) (h : k < n) : (List.replicate k x ++ List.replicate (n - k) y).set k x = List.replicate (k + 1) x ++ List.replicate (n - (k + 1)) y := by
  rw [List.set_append_right _ _ (by simp), List.length_replicate, Nat.sub_self, show n - k = (n - (k + 1)) + 1 by omega, List.replicate_succ, List.set_cons_zero, List.replicate_succ' (n := k)]
  simp
set_option maxHeartbeats 1000000 in
set_option maxRecDepth 100000 in
theorem gnew_yes (a b p : Int) (n : Nat) (w : World) (ha1 : 1 ≤ a) (ha2 : a ≤ 128) (hb1 : 1 ≤ b) (hb2 : b ≤ 128) (hn : a * b = n) :
    Calls Tryz.prog 163 #[.int .i64 a, .int .i64 b, .int .u8 p] w (GridPost a b n p w) := by
  obtain ⟨i0, hi, hz0, hz1, hz2⟩ := info_parts Tryz.infoPix
  have hnb : a * b ≤ 16384 := by
    have : a * b ≤ 128 * 128 := Int.mul_le_mul ha2 hb2 (by omega) (by omega)
    omega
  have hw : IntKind.i64.wrap (a * b) = (n : Int) := by rw [hn]; exact IntWalk.i64_in _ (by omega)
  have hn2 : n ≤ 16384 := by omega
  clear hn hnb
  go_enter Tryz.func163, Tryz.ntmps163
  go_wp2_with (first
    | (go_at_call 263; refine (gside_yes _ _ (by assumption) (by assumption)).mono ?_; rintro e w' ⟨rfl, rfl⟩)
    | (at_make; refine wpList_make_full _ rfl _ _ 178 rfl (w.heap.size + 1) 105 i0 _ 1 Tryz.underlying178 hi hz0 hz1 .i64 .i64 _ _ n rfl rfl ?c1 ?c2 ?c3 ?c4 ?c5 ?_))
  case c1 => rfl
  case c2 => rfl
  case c3 => rw [hz2]; omega
  case c4 => simp only [maxLen]; omega
  case c5 => simp
  intro w2 hown2 hg2
  rw [toList_madeCells_one] at hown2
  have hb2 := grown_below hg2 (Nat.le_refl _) (by simp)
  have ea : (w.alloc (.cells #[.int .i64 0, .int .i64 0, .slice none 0 0] 180)).heap.size = w.heap.size + 1 := by simp
  rw [ea] at hb2
  have hs2 := hb2.size
  rw [ea] at hs2
  have HB := Lib.hid ((Box.new w 180 #[.int .i64 0, .int .i64 0, .slice none 0 0]).below hb2 (by omega))
  have HW2 : Hid (Below w.heap.size w w2) := (Below.new1 w _).trans (hb2.mono (by omega))
  have HO := Lib.hid hown2
  clear hown2 hg2 hb2 ea
  go_wp2
  go_loopw [9, 25] (fun _ i wr => ∃ k : Nat, k ≤ n ∧ i = .int .i64 k ∧ wr.ownsRow (w.heap.size + 1) 105 1 (.slice (some ⟨w.heap.size + 1, 0, none⟩) n n) n (List.replicate k (.int .u8 p) ++ List.replicate (n - k) (.int .u8 0)) ∧ Below (w.heap.size + 1) w2 wr) (fun _ i _ => n - (intOf i).toNat)
  case atStart => exact ⟨0, by omega, rfl, by simpa using HO.out, Below.refl _ _⟩
  case round =>
    obtain ⟨k, hk, rfl, hown, hbr⟩ := hrel
    have hsr := hbr.size
    have HOWN := Lib.hid hown
    have HBR := Lib.hid hbr
    rcases Nat.lt_or_ge k n with hlt | hge
    · have hc : wr.cell? ⟨w.heap.size + 1, k, none⟩ = some (.int .u8 0) := by
        rw [hown.cellAt k (by omega), List.getElem?_append_right (by simp), List.getElem?_replicate, if_pos (by simp; omega)]
      have hf := hown.frozenAt k
      clear hown hbr
      go_wp2
      go_roundw
      case rel =>
        obtain ⟨x1, x2⟩ := HOWN.out.stored k (.int .u8 p)
        rw [fill_set _ _ _ _ hlt] at x1
        exact ⟨k + 1, by omega, by go_num, x1, HBR.out.grown x2 (by omega) (fun j hj => by injection hj with hj; omega)⟩
      case measure => simp [intOf]; omega
    · obtain rfl : k = n := by omega
      have B := HB.out.below hbr (by omega)
      obtain ⟨b0, b1, b2, b3⟩ := B.deep
      have fb := B.frozen
      clear hown hbr
      go_wp2
      refine bodyPost_ret (v := .tuple #[gridV a b (w.heap.size + 1) k, .int .i64 0]) (by simp [results, Tryz.results163, go_sem, b0, gridV, pixV]) rfl ⟨w.heap.size + 1, rfl, by omega, ?_, ?_⟩
      · have h1 := HOWN.out
        simp at h1
        exact owns_mono (ownsRow_setCell_below (ownsRow_setCell_below (ownsRow_setCell_below h1 (by simp) _) (by simp) _) (by simp) _) (Nat.zero_le _)
      · exact (((HW2.out.trans (HBR.out.mono (by omega))).setCell (by simp) _).setCell (by simp) _).setCell (by simp) _
theorem heap_at {w : World} {r : Nat} (h : r = w.heap.size) (o : Obj) : (w.alloc o).heap[r]? = some o := by subst h; exact heap_alloc_new w o
theorem after2 {w w' : World} {o1 o2 : Obj} (h : Below ((w.alloc o1).alloc o2).heap.size ((w.alloc o1).alloc o2) w') : Below w.heap.size w w' ∧ w.heap.size + 1 + 1 ≤ w'.heap.size ∧ w'.heap[w.heap.size]? = some o1 ∧ w'.heap[w.heap.size + 1]? = some o2 := by
  refine ⟨((Below.new1 w o1).alloc (by simp; try omega) o2).trans (h.mono (by simp; try omega)), by have := h.size; simpa using this, ?_, ?_⟩
  · exact (h.block _ (by simp; try omega)).trans ((Below.heap_alloc (w.alloc o1) o2 _ (by simp; try omega)).trans (heap_at (w := w) (by simp) o1))
  · exact (h.block _ (by simp; try omega)).trans (heap_at (w := (w.alloc o1)) (by simp) o2)
theorem ownsRow_setCell_far {w : World} {base : Nat} {e : TypeId} {size g n cap m : Nat} {xs : List Value} (h : w.ownsRow base e size (.slice (some ⟨g, 0, none⟩) n cap) m xs) {a : Addr} (ha : g ≠ a.block) (u : Value) : (w.setCell a u).ownsRow base e size (.slice (some ⟨g, 0, none⟩) n cap) m xs := by
  refine ⟨h.1, ?_⟩
  rcases h.2 with h' | ⟨g', cap', cur, h', hbg, hg, rest⟩
  · exact .inl h'
  · have e1 : g' = g := by simp only [Value.slice.injEq, Option.some.injEq, Addr.mk.injEq, and_true] at h'; omega
    exact .inr ⟨g', cap', cur, h', hbg, (Below.heap_setCell w a u g' (by omega)).trans hg, rest⟩
theorem box_of {w : World} {b : Nat} {t : TypeId} {cs : Array Value} (h : w.heap[b]? = some (.cells cs t)) : Box w b t cs := h
theorem Flat.far {w : World} {g n : Nat} {p : Int} (h : Flat w g n p) {a : Addr} (ha : g ≠ a.block) (u : Value) : Flat (w.setCell a u) g n p := ownsRow_setCell_far h ha u
theorem flat_reads {w : World} {g n : Nat} {p : Int} (h : Flat w g n p) : Reads w w.heap.size 1 (some ⟨g, 0, none⟩) n (List.replicate n (.int .u8 p)) := Reads.of_own h
set_option maxHeartbeats 1000000 in
set_option maxRecDepth 100000 in
theorem twin_flat (a b p : Int) (g n : Nat) (w : World) (hf : Flat w g n p) (hn1 : n ≤ 16384) :
    Calls Tryz.prog 412 #[gridV a b g n] w fun e w' => ∃ g', e = .returned (gridV a b g' n) ∧ w.heap.size ≤ g' ∧ Flat w' g' n p ∧ Below w.heap.size w w' := by
  obtain ⟨i0, hi, hz0, hz1, hz2⟩ := info_parts Tryz.infoPix
  have HF := Lib.hid hf
  clear hf
  unfold gridV pixV at *
  go_enter Tryz.func412, Tryz.ntmps412
  go_wp2_with (at_make; refine wpList_make_full _ rfl _ _ 178 rfl (w.heap.size + 2) 105 i0 _ 1 Tryz.underlying178 hi hz0 hz1 .i64 .i64 _ _ n rfl rfl ?c1 ?c2 ?c3 ?c4 ?c5 ?_)
  case c1 => rfl
  case c2 => rfl
  case c3 => rw [hz2]; omega
  case c4 => simp only [maxLen]; omega
  case c5 => simp
  intro w2 hown2 hg2
  rw [toList_madeCells_one] at hown2
  have hb2 := grown_below hg2 (Nat.le_refl _) (by simp)
  obtain ⟨hw2, hs2, x1, x2⟩ := after2 hb2
  obtain ⟨c0, c1, c2, c3⟩ := (box_of x1).deep
  have HX1 := Lib.hid (box_of x1)
  have HX2 := Lib.hid (box_of x2)
  have HR := Lib.hid ((flat_reads HF.out).below hw2)
  have HW := Lib.hid hw2
  have HO := Lib.hid hown2
  clear x1 x2 hb2 hg2 hw2 hown2
  have HCP := Lib.hid (fun (ops : Array Oper) (rest : List Oper) (o : Oper) (a : Act) (Q : Exit → Act → World → Prop) (hgd : o.guard = none) (d s : Operand) (ho : o.op = .call { callee := .builtin .copy, args := #[d, s], argTypes := #[178, 178] }) h1 h2 => wpList_copy_reads (P := Tryz.prog) (ops := ops) (rest := rest) (o := o) (a := a) (Q := Q) hgd d s 178 178 ho (w.heap.size + 2) 105 1 Tryz.underlying178 (by kernel_rfl) (w.heap.size + 1 + 1) n n n n w.heap.size (some ⟨g, 0, none⟩) (List.replicate n (.int .u8 p)) (List.replicate n (.int .u8 0)) h1 h2 HO.out HR.out (Nat.le_refl _) (by intro v hv; rw [List.eq_of_mem_replicate hv]; rfl))
  go_wp2_with (with_reducible refine HCP.out _ _ _ _ _ rfl _ _ rfl rfl rfl ?_)
  intro w3 hown3 hg3
  have hown4 : w3.ownsRow (w.heap.size + 2) 105 1 (.slice (some ⟨w.heap.size + 1 + 1, 0, none⟩) n n) n (List.replicate n (.int .u8 p)) := by simpa using hown3
  have HF3 : Hid (Flat w3 (w.heap.size + 1 + 1) n p) := owns_mono hown4 (Nat.zero_le _)
  have hx1 := HX1.out.grown hg3 (by simp; try omega)
  have hx2 := HX2.out.grown hg3 (by simp; try omega)
  have HW3 : Hid (Below w.heap.size w w3) := HW.out.grown hg3 (by omega) (fun j hj => by injection hj with hj; omega)
  have hs3 := hg3.size
  clear c0 c1 c2 c3 hown3 hown4 hg3
  obtain ⟨c0, c1, c2, c3⟩ := hx1.deep
  obtain ⟨d0, d1, d2, d3⟩ := hx2.deep
  have fd := hx2.frozen
  clear hx1 hx2
  go_wp2
  refine bodyPost_ret (v := .agg #[.int .i64 a, .int .i64 b, .slice (some ⟨w.heap.size + 1 + 1, 0, none⟩) n n]) (by simp [results, Tryz.results412, go_sem, d0]) rfl ⟨w.heap.size + 1 + 1, rfl, by omega, ?_, ?_⟩
  · exact ((HF3.out.far (by simp) _).far (by simp) _).far (by simp) _
  · exact ((HW3.out.setCell (by simp) _).setCell (by simp) _).setCell (by simp) _
namespace Ev
/-- A flat grid, new. -/
noncomputable def gridNewA (args : List AV) (s : St) : R := match args with
  | [a, b, p] => seC a fun k1 x => seC b fun k2 y => seC p fun k3 z => match k1, k2, k3 with
    | .i64, .i64, .u8 => bc (notLt s.o x (.lit 1)) (bc (notLt s.o (.lit 128) x) (bc (notLt s.o y (.lit 1)) (bc (notLt s.o (.lit 128) y)
        (some (.tuple [.agg [a, b, .fslice s.c (.bin .mul .i64 x y)], .int .i64 0], s.new (.flat (.bin .mul .i64 x y) z 105))))))
    | _, _, _ => none
  | _ => none
theorem Flat.block {w : World} {g n : Nat} {p : Int} (h : Flat w g n p) : w.heap[g]? = some (.cells (Array.replicate n (.int .u8 p)) 105 (0, 0)) := by
  rcases h.2 with ⟨h', _⟩ | ⟨g', cap', cur, h', _, hg, hle, _, hsz, ht⟩
  · simp at h'
  · simp only [Value.slice.injEq, Option.some.injEq, Addr.mk.injEq, and_true, true_and] at h'
    obtain ⟨rfl, rfl⟩ := h'
    rw [hg]
    have : cur = Array.replicate n (.int .u8 p) := by
      apply Array.ext'
      rw [Array.toList_replicate, ← ht, List.take_of_length_le (by simp at hsz ⊢; omega)]
    rw [this]
theorem gridNew_ok : ∀ {args : List AV} {s : St} {v : AV} {s' : St}, gridNewA args s = some (v, s') → Step s s' ∧ ∀ {G : Nat → Prop} {B : Nat} {E : Env} {w : World} {args' : Array Value}, (∀ j, In s'.l j → G j) → Sat G B E s w → RelL E args args'.toList →
    CallRes Tryz.prog 163 args' w (RetOk G B s' v E w) := by
  intro args s v s' h
  unfold gridNewA at h
  split at h
  case h_2 => cases h
  rename_i a b p
  obtain ⟨k1, x, h1, hx⟩ := seC_some h
  obtain ⟨k2, y, h2, hy⟩ := seC_some h1
  obtain ⟨k3, z, h3, hz⟩ := seC_some h2
  clear h h1 h2
  split at h3
  case h_2 => cases h3
  obtain ⟨c1, h4⟩ := bc_some h3
  obtain ⟨c2, h5⟩ := bc_some h4
  obtain ⟨c3, h6⟩ := bc_some h5
  obtain ⟨c4, h7⟩ := bc_some h6
  clear h3 h4 h5 h6
  cases h7
  refine ⟨Step.new _ _, fun {G B E w args'} hG hs ha => ?_⟩
  obtain ⟨l⟩ := args'
  cases ha with | cons r1 t1 => cases t1 with | cons r2 t2 => cases t2 with | cons r3 t3 =>
  cases t3
  obtain rfl := hx r1
  obtain rfl := hy r2
  obtain rfl := hz r3
  have d1 := notLt_ok hs.orc c1
  have d2 := notLt_ok hs.orc c2
  have d3 := notLt_ok hs.orc c3
  have d4 := notLt_ok hs.orc c4
  simp only [SE.val] at d1 d2 d3 d4
  have hm0 : 0 ≤ x.val E.ρ * y.val E.ρ := Int.mul_nonneg (by omega) (by omega)
  have hm1 : x.val E.ρ * y.val E.ρ ≤ 128 * 128 := Int.mul_le_mul d2 d4 (by omega) (by omega)
  have hn : x.val E.ρ * y.val E.ρ = ((x.val E.ρ * y.val E.ρ).toNat : Int) := by omega
  have hw : (SE.bin .mul .i64 x y).val E.ρ = x.val E.ρ * y.val E.ρ := by
    show IntKind.i64.wrap _ = _
    rw [IntKind.wrap_i64]; omega
  refine ⟨enters Tryz.func163 (by kernel_rfl) rfl _ _, callsIn_wide.2 ((gnew_yes (x.val E.ρ) (y.val E.ρ) (z.val E.ρ) _ w d1 d2 d3 d4 hn).mono ?_)⟩
  rintro e w' ⟨g, rfl, hg, hfl, hb⟩
  obtain ⟨q1, q2⟩ := hs.adopt (o := .flat (.bin .mul .i64 x y) z 105) (C := 0) (hG _ (in_new _ _)) hb hg (Flat.block hfl) (by
    show _ = _
    rw [show (E.set s.c (.live g 0)).ρ = E.ρ from rfl, hw])
  have hle : E.le (E.set s.c (.live g 0)) := q2.le
  refine ⟨_, _, rfl, .tuple (.cons (.agg (.cons (r1.mono hle) (.cons (r2.mono hle) (.cons ?_ .nil)))) (.cons (.int _ _) .nil)), q1, q2⟩
  have := Rel.fslice (E := E.set s.c (.live g 0)) (i := s.c) (b := g) (n := .bin .mul .i64 x y) (by rw [Env.set_same]; rfl)
  rw [show (E.set s.c (.live g 0)).ρ = E.ρ from rfl, hw] at this
  exact this
/-- A flat grid: its width, height, number of places, pixel. -/
noncomputable def gflatC {β : Type} (v : AV) (s : St) (k : SE → SE → SE → SE → Nat → Option β) : Option β := match v with
  | .agg [a, b, .fslice i n] => seC a fun k1 x => seC b fun k2 y => bc (kindEq k1 .i64) (bc (kindEq k2 .i64) (oc (s.h.get i) fun o => match o with
      | .flat n' z e => bc (seEq n n') (bc (seEq n (.bin .mul .i64 x y)) (bc (notLt s.o x (.lit 1)) (bc (notLt s.o (.lit 128) x) (bc (notLt s.o y (.lit 1)) (bc (notLt s.o (.lit 128) y) (bc (notLt s.o z (.lit 0)) (bc (notLt s.o (.lit 255) z) (bc (Nat.beq e 105) (k x y n z i)))))))))
      | _ => none))
  | _ => none
structure FlatIn (E : Env) (w : World) (v' : Value) (x y n z : SE) (i g m mb N : Nat) : Prop where
  v : v' = gridV (x.val E.ρ) (y.val E.ρ) g N
  nn : (n.val E.ρ).toNat = N
  mul : x.val E.ρ * y.val E.ρ = N
  xm : x.val E.ρ = m
  ym : y.val E.ρ = mb
  x1 : 1 ≤ x.val E.ρ
  x2 : x.val E.ρ ≤ 128
  y1 : 1 ≤ y.val E.ρ
  y2 : y.val E.ρ ≤ 128
  z1 : 0 ≤ z.val E.ρ
  z2 : z.val E.ρ ≤ 255
  f : Flat w g N (z.val E.ρ)
theorem flat_of {w : World} {g n : Nat} {p : Int} (h : w.heap[g]? = some (.cells (Array.replicate n (.int .u8 p)) 105 (0, 0))) (hn : n ≤ 16384) : Flat w g n p := by
  refine ⟨by simp, .inr ⟨g, n, _, rfl, Nat.zero_le _, h, Nat.le_refl _, by simp only [maxLen]; omega, by simp, ?_⟩⟩
  simp
theorem gflatC_some {β : Type} {v : AV} {s : St} {k : SE → SE → SE → SE → Nat → Option β} {r : β} (h : gflatC v s k = some r) :
    ∃ x y n z i a b, v = .agg [a, b, .fslice i n] ∧ k x y n z i = some r ∧ n = .bin .mul .i64 x y ∧ (∀ {E : Env} {x' : Value}, Rel E a x' → x' = .int .i64 (x.val E.ρ)) ∧ (∀ {E : Env} {x' : Value}, Rel E b x' → x' = .int .i64 (y.val E.ρ)) ∧
      ∀ {G : Nat → Prop} {B : Nat} {E : Env} {w : World} {v' : Value}, G i → Sat G B E s w → Rel E v v' → ∃ g m mb N, FlatIn E w v' x y n z i g m mb N := by
  unfold gflatC at h
  split at h
  case h_2 => cases h
  rename_i a b i n
  obtain ⟨k1, x, h1, hx⟩ := seC_some h
  obtain ⟨k2, y, h2, hy⟩ := seC_some h1
  obtain ⟨c1, h3⟩ := bc_some h2
  obtain ⟨c2, h4⟩ := bc_some h3
  obtain ⟨o, ho, h5⟩ := oc_some h4
  have c1 := kindEq_ok c1
  have c2 := kindEq_ok c2
  subst c1
  subst c2
  split at h5
  case h_2 => cases h5
  rename_i n' z e
  obtain ⟨c3, h6⟩ := bc_some h5
  obtain ⟨c4, h7⟩ := bc_some h6
  obtain ⟨c5, h8⟩ := bc_some h7
  obtain ⟨c6, h9⟩ := bc_some h8
  obtain ⟨c7, h10⟩ := bc_some h9
  obtain ⟨c8, h11⟩ := bc_some h10
  obtain ⟨c9, h12⟩ := bc_some h11
  obtain ⟨c10, h13⟩ := bc_some h12
  obtain ⟨c11, h14⟩ := bc_some h13
  have c3 := seEq_ok c3
  have c4 := seEq_ok c4
  have c11 : e = 105 := by simpa using c11
  subst c3
  subst c11
  refine ⟨x, y, n, z, i, a, b, rfl, h14, c4, hx, hy, fun {G B E w v'} hg hs hr => ?_⟩
  cases hr with | agg hr =>
  rename_i arr
  obtain ⟨l⟩ := arr
  cases hr with | cons r1 t1 => cases t1 with | cons r2 t2 => cases t2 with | cons r3 t3 =>
  cases t3
  obtain rfl := hx r1
  obtain rfl := hy r2
  cases r3
  rename_i b' hb'
  have d5 := notLt_ok hs.orc c5
  have d6 := notLt_ok hs.orc c6
  have d7 := notLt_ok hs.orc c7
  have d8 := notLt_ok hs.orc c8
  have d9 := notLt_ok hs.orc c9
  have d10 := notLt_ok hs.orc c10
  simp only [SE.val] at d5 d6 d7 d8 d9 d10
  obtain ⟨b2, C, ob, he, hh, hok, _⟩ := hs.fact i _ hg ho
  obtain rfl := hs.at_live he hb'
  have hob : ob = .cells (Array.replicate (n.val E.ρ).toNat (.int .u8 (z.val E.ρ))) 105 (0, 0) := hok
  subst hob
  have hm0 : 0 ≤ x.val E.ρ * y.val E.ρ := Int.mul_nonneg (by omega) (by omega)
  have hm1 : x.val E.ρ * y.val E.ρ ≤ 128 * 128 := Int.mul_le_mul d6 d8 (by omega) (by omega)
  have hw : n.val E.ρ = x.val E.ρ * y.val E.ρ := by
    rw [c4]
    show IntKind.i64.wrap _ = _
    rw [IntKind.wrap_i64]; omega
  exact ⟨_, (x.val E.ρ).toNat, (y.val E.ρ).toNat, (n.val E.ρ).toNat, rfl, rfl, by rw [hw]; omega, by omega, by omega, d5, d6, d7, d8, d9, d10, flat_of hh (by rw [hw]; omega)⟩

/-- A flat grid's twin. -/
noncomputable def gridTwinA (args : List AV) (s : St) : R := match args with
  | [v] => gflatC v s fun _ _ n z i => match v with
    | .agg [a, b, _] => some (.agg [a, b, .fslice s.c n], (s.see i).new (.flat n z 105))
    | _ => none
  | _ => none
theorem gridTwin_ok : ∀ {args : List AV} {s : St} {v : AV} {s' : St}, gridTwinA args s = some (v, s') → Step s s' ∧ ∀ {G : Nat → Prop} {B : Nat} {E : Env} {w : World} {args' : Array Value}, (∀ j, In s'.l j → G j) → Sat G B E s w → RelL E args args'.toList →
    CallRes Tryz.prog 412 args' w (RetOk G B s' v E w) := by
  intro args s v s' h
  unfold gridTwinA at h
  split at h
  case h_2 => cases h
  rename_i v0
  obtain ⟨x, y, n, z, i, a, b, rfl, h1, hn, ha, hb, hF⟩ := gflatC_some h
  cases h1
  refine ⟨(Step.see _ _).trans (Step.new _ _), fun {G B E w args'} hG hs har => ?_⟩
  obtain ⟨la⟩ := args'
  cases har with | cons r1 t1 =>
  cases t1
  obtain ⟨g, m, mb, N, F⟩ := hF (hG i ((Step.new _ _).l _ (in_see _ _))) hs r1
  have r1' := r1
  rw [F.v]
  have hm1 : x.val E.ρ * y.val E.ρ ≤ 128 * 128 := Int.mul_le_mul F.x2 F.y2 (by have := F.y1; omega) (by omega)
  have hN16 : N ≤ 16384 := by have := F.mul; omega
  refine ⟨enters Tryz.func412 (by kernel_rfl) rfl _ _, callsIn_wide.2 ((twin_flat (x.val E.ρ) (y.val E.ρ) (z.val E.ρ) g N w F.f hN16).mono ?_)⟩
  rintro e w' ⟨g', rfl, hg', hfl, hbw⟩
  have hs2 := hs.seen i
  have hN2 : (n.val E.ρ).toNat = N := F.nn
  obtain ⟨q1, q2⟩ := hs2.adopt (o := .flat n z 105) (C := 0) (hG _ (in_new _ _)) hbw hg' (Flat.block hfl) (by
    show _ = _
    rw [show (E.set (s.see i).c (.live g' 0)).ρ = E.ρ from rfl, hN2])
  have hle : E.le (E.set s.c (.live g' 0)) := q2.le
  have ra : Rel (E.set s.c (.live g' 0)) a (.int .i64 (x.val E.ρ)) := by
    cases r1' with | agg hh =>
    rename_i arr
    obtain ⟨l1⟩ := arr
    cases hh with | cons v1 w1 =>
    have := ha v1
    rw [← this]
    exact v1.mono hle
  have rb : Rel (E.set s.c (.live g' 0)) b (.int .i64 (y.val E.ρ)) := by
    cases r1' with | agg hh =>
    rename_i arr
    obtain ⟨l1⟩ := arr
    cases hh with | cons v1 w1 => cases w1 with | cons v2 w2 =>
    have := hb v2
    rw [← this]
    exact v2.mono hle
  refine ⟨_, _, rfl, .agg (.cons ra (.cons rb (.cons ?_ .nil))), q1, q2⟩
  have := Rel.fslice (E := E.set s.c (.live g' 0)) (i := s.c) (b := g') (n := n) (by rw [Env.set_same]; rfl)
  rw [show (E.set s.c (.live g' 0)).ρ = E.ρ from rfl, hN2] at this
  exact this
end Ev
end Go.Proofs.YtmghbbicjkmigaaGreatDoor
