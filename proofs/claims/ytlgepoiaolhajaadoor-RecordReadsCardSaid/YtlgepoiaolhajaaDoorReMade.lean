/-
  The statements' own helper made: the tape of those entries that may be, these entries twice, and the codes.
-/
import Derived.Test.YtlgepoiaolhajaaDoorReAdd
import Derived.Test.YtlgepoiaolhajaaDoorReWrong2
import Derived.Deep.RegionHeld3
import Derived.Deep.AppendLies
namespace Go.Proofs.YtlgepoiaolhajaaDoor
open Go.RowKit

/-- Those entries that may be. -/
def good (es : List En) : List En := es.filter fun e => e.wrong == 0
theorem good_snoc (es : List En) (k : Nat) (h : k < es.length) : good (es.take (k + 1)) = if es[k].wrong = 0 then good (es.take k) ++ [es[k]] else good (es.take k) := by
  unfold good
  rw [List.take_succ_eq_append_getElem h, List.filter_append]
  by_cases hw : es[k].wrong = 0 <;> simp [hw]
theorem good_le (es : List En) : (good es).length ≤ es.length := List.length_filter_le _ _
def codes (es : List En) : List Value := es.map fun e => .int .i64 e.wrong
theorem codes_snoc (es : List En) (k : Nat) (h : k < es.length) : codes (es.take (k + 1)) = codes (es.take k) ++ [.int .i64 es[k].wrong] := by
  unfold codes
  rw [List.take_succ_eq_append_getElem h, List.map_append]
  simp
theorem codes_length (es : List En) : (codes es).length = es.length := by simp [codes]

theorem rentry_info : (Tryd.prog.info? 35).map (fun i => (i.zero, i.size, i.bytes)) = some (some (.agg #[.int .i64 0, .int .i64 0, .string ⟨#[]⟩, .int .i64 0, .int .i64 0, .int .i64 0, .int .i64 0, .int .u32 0, .int .i64 0]), 9, 80) := by kernel_rfl
theorem errno_info : (Tryd.prog.info? 38).map (fun i => (i.zero, i.size, i.bytes)) = some (some (.int .i64 0), 1, 8) := by kernel_rfl

/-- Rows of the call's own of different element types lie in different blocks. -/
theorem own_ne {w : World} {B B' : Nat} {e e' : TypeId} {z z' n n' : Nat} {v v' : Value} {xs xs' : List Value} (h : w.ownsRow B e z v n xs) (h' : w.ownsRow B' e' z' v' n' xs') (hne : e ≠ e') : v.ownBlock = none ∨ v.ownBlock ≠ v'.ownBlock := by
  rcases h.2 with ⟨rfl, _⟩ | ⟨g, cap, cur, rfl, _, hh, _⟩
  · exact .inl rfl
  · rcases h'.2 with ⟨rfl, _⟩ | ⟨g', cap', cur', rfl, _, hh', _⟩
    · exact .inr (by simp [Value.ownBlock])
    · refine .inr fun hg => ?_
      have : g = g' := by simpa [Value.ownBlock] using hg
      subst this
      rw [hh] at hh'
      injection hh' with hh'
      injection hh' with _ ht
      exact hne ht
theorem own_box_ne {w : World} {B : Nat} {e t : TypeId} {z n b : Nat} {v : Value} {xs : List Value} {cs : Array Value} (h : w.ownsRow B e z v n xs) (hb : Box w b t cs) (hne : e ≠ t) : some b ≠ v.ownBlock := by
  rcases h.2 with ⟨rfl, _⟩ | ⟨g, cap, cur, rfl, _, hh, _⟩
  · simp [Value.ownBlock]
  · intro hg
    have : b = g := by simpa [Value.ownBlock] using hg
    subst this
    unfold Box at hb
    rw [hh] at hb
    injection hb with hb
    injection hb with _ ht
    exact hne ht
theorem own_below {w w' : World} {B : Nat} {e : TypeId} {z n : Nat} {v : Value} {xs : List Value} (h : w.ownsRow B e z v n xs) (hb : Below w.heap.size w w') : w'.ownsRow B e z v n xs :=
  h.kept (row := none) ⟨hb.os, hb.tape, hb.output, hb.size, fun i hi _ => hb.block i hi⟩ (by cases h : v.ownBlock <;> simp)
theorem own_base {w : World} {B B' : Nat} {e : TypeId} {z n : Nat} {v : Value} {xs : List Value} (h : w.ownsRow B e z v n xs) (hB : B' ≤ B) : w.ownsRow B' e z v n xs := by
  refine ⟨h.1, ?_⟩
  rcases h.2 with hh | ⟨g, cap, cur, a, b, c⟩
  · exact .inl hh
  · exact .inr ⟨g, cap, cur, a, by omega, c⟩
theorem own_fresh_ne {w w0 : World} {B e e' : Nat} {z z' n n' : Nat} {v v' : Value} {xs xs' : List Value} (h : w.ownsRow w0.heap.size e z v n xs) (h' : w0.ownsRow B e' z' v' n' xs') : v.ownBlock = none ∨ v.ownBlock ≠ v'.ownBlock := by
  cases hb : v.ownBlock with
  | none => exact .inl rfl
  | some g =>
    refine .inr fun hg => ?_
    have h1 := (h.lt g hb).1
    have h2 := (h'.lt g hg.symm).2
    omega

/-- Where the loop of made stands. -/
structure Md (B tb : Nat) (tv m kp cd : Value) (es : List En) (w : World) : Prop where
  box : Box w tb 26 #[tv]
  t : w.ownsRow B 37 9 tv (good es).length (flat (good es))
  m : w.ownsRow B 35 9 m (good es).length (flat (good es))
  k : w.ownsRow B 37 9 kp (good es).length (flat (good es))
  c : w.ownsRow B 38 1 cd es.length (codes es)
  ne : tv.ownBlock = none ∨ tv.ownBlock ≠ kp.ownBlock
theorem Md.below {B tb : Nat} {tv m kp cd : Value} {es : List En} {w w' : World} (h : Md B tb tv m kp cd es w) (hb : Below w.heap.size w w') : Md B tb tv m kp cd es w' := by
  have hlt : tb < w.heap.size := by
    rcases Nat.lt_or_ge tb w.heap.size with hlt | hge
    · exact hlt
    · have := h.box; unfold Box at this; rw [Array.getElem?_eq_none hge] at this; cases this
  exact ⟨h.box.below hb hlt, own_below h.t hb, own_below h.m hb, own_below h.k hb, own_below h.c hb, h.ne⟩
theorem own_far {w : World} {B : Nat} {e : TypeId} {z n : Nat} {v u : Value} {xs : List Value} {p : Addr} (h : w.ownsRow B e z v n xs) (hne : some p.block ≠ v.ownBlock) : (w.setCell p u).ownsRow B e z v n xs :=
  h.kept (row := some p.block) ⟨rfl, rfl, rfl, by simp, fun j _ hj => heap_setCell_other w _ j _ (fun e => hj (by rw [e]))⟩ (.inr (fun e => hne e.symm))

/-- w' is w but for two rows, and what is new. -/
structure Two (a b : Option Nat) (w w' : World) : Prop where
  os : w'.os = w.os
  tape : w'.tape = w.tape
  output : w'.output = w.output
  size : w.heap.size ≤ w'.heap.size
  block : ∀ k, k < w.heap.size → some k ≠ a → some k ≠ b → w'.heap[k]? = w.heap[k]?
theorem Two.refl (a b : Option Nat) (w : World) : Two a b w w := ⟨rfl, rfl, rfl, Nat.le_refl _, fun _ _ _ _ => rfl⟩
theorem Two.drew {a b : Option Nat} {w w' : World} (h : Two a b w w') : Two a b w w'.drew := ⟨h.os, h.tape, h.output, h.size, h.block⟩
theorem Two.alloc {a b : Option Nat} {w w' : World} (h : Two a b w w') (o : Obj) : Two a b w (w'.alloc o) :=
  ⟨h.os, h.tape, h.output, Nat.le_trans h.size (by simp), fun k hk ha hb => (Below.heap_alloc w' o k (Nat.lt_of_lt_of_le hk h.size)).trans (h.block k hk ha hb)⟩
theorem Two.grown1 {a b : Option Nat} {w w' w'' : World} (h : Two a b w w') (hg : w'.grownBy w'' a) : Two a b w w'' :=
  ⟨hg.os.trans h.os, hg.tape.trans h.tape, hg.output.trans h.output, Nat.le_trans h.size hg.size, fun k hk ha hb => (hg.block k (Nat.lt_of_lt_of_le hk h.size) ha).trans (h.block k hk ha hb)⟩
theorem Two.grown2 {a b : Option Nat} {w w' w'' : World} (h : Two a b w w') (hg : w'.grownBy w'' b) : Two a b w w'' :=
  ⟨hg.os.trans h.os, hg.tape.trans h.tape, hg.output.trans h.output, Nat.le_trans h.size hg.size, fun k hk ha hb => (hg.block k (Nat.lt_of_lt_of_le hk h.size) hb).trans (h.block k hk ha hb)⟩
theorem Two.box {a b : Option Nat} {w w' : World} {g : Nat} {t : TypeId} {cs : Array Value} (h : Two a b w w') (hx : Box w g t cs) (ha : some g ≠ a) (hb : some g ≠ b) : Box w' g t cs := by
  have hlt : g < w.heap.size := by
    rcases Nat.lt_or_ge g w.heap.size with hlt | hge
    · exact hlt
    · unfold Box at hx; rw [Array.getElem?_eq_none hge] at hx; cases hx
  exact (h.block g hlt ha hb).trans hx
theorem Two.own {a b : Option Nat} {w w' : World} {B : Nat} {e : TypeId} {z n : Nat} {v : Value} {xs : List Value} (h : Two a b w w') (hx : w.ownsRow B e z v n xs) (ha : v.ownBlock = none ∨ v.ownBlock ≠ a) (hb : v.ownBlock = none ∨ v.ownBlock ≠ b) : w'.ownsRow B e z v n xs := by
  refine ⟨hx.1, ?_⟩
  rcases hx.2 with hh | ⟨g, cap, cur, rfl, h1, h2, h3⟩
  · exact .inl hh
  · have hlt := (hx.lt g rfl).2
    refine .inr ⟨g, cap, cur, rfl, h1, (h.block g hlt ?_ ?_).trans h2, h3⟩
    · rcases ha with ha | ha
      · simp [Value.ownBlock] at ha
      · exact ha
    · rcases hb with hb | hb
      · simp [Value.ownBlock] at hb
      · exact hb
theorem Two.below {a b : Option Nat} {w w' : World} {B : Nat} (h : Two a b w w') (hB : B ≤ w.heap.size) (ha : ∀ k, a = some k → B ≤ k) (hb : ∀ k, b = some k → B ≤ k) : Below B w w' :=
  ⟨h.os, h.tape, h.output, h.size, fun k hk => h.block k (by omega) (fun e => by have := ha k e.symm; omega) (fun e => by have := hb k e.symm; omega)⟩

/-- Behind the appends of an entry, ahead of the code's. -/
structure Mq (B tb : Nat) (tv m kp cd : Value) (gs es : List En) (w : World) : Prop where
  box : ∃ x, Box w tb 26 #[x]
  t : w.ownsRow B 37 9 tv gs.length (flat gs)
  m : w.ownsRow B 35 9 m gs.length (flat gs)
  k : w.ownsRow B 37 9 kp gs.length (flat gs)
  c : w.ownsRow B 38 1 cd es.length (codes es)
  ne : tv.ownBlock = none ∨ tv.ownBlock ≠ kp.ownBlock

theorem Mq.done {B tb : Nat} {tv m kp cd cd' : Value} {gs es es' : List En} {w w5 : World} {o : Obj} (h : Mq B tb tv m kp cd gs es w) (hg : ((w.alloc o).drew).grownBy w5 cd.ownBlock)
    (hc : w5.ownsRow B 38 1 cd' es'.length (codes es')) (hgs : gs = good es') : Md B tb tv m kp cd' es' (w5.setCell ⟨tb, 0, none⟩ tv) := by
  obtain ⟨x, hb⟩ := h.box
  have hb5 := ((hb.alloc o).drew).grown hg (own_box_ne h.c hb (by decide))
  have t5 := ((h.t.alloc o).drew).kept hg (own_ne h.t h.c (by decide))
  have m5 := ((h.m.alloc o).drew).kept hg (own_ne h.m h.c (by decide))
  have k5 := ((h.k.alloc o).drew).kept hg (own_ne h.k h.c (by decide))
  subst hgs
  exact ⟨by simpa using hb5.set_ 0 tv, own_far t5 (own_box_ne t5 hb5 (by decide)), own_far m5 (own_box_ne m5 hb5 (by decide)), own_far k5 (own_box_ne k5 hb5 (by decide)), own_far hc (own_box_ne hc hb5 (by decide)), h.ne⟩
end Go.Proofs.YtlgepoiaolhajaaDoor
