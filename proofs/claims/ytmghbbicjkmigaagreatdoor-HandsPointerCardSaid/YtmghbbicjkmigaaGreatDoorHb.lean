/-
  Words for the record layer: slices that read as lists, entries as data, what is wrong with an entry. Plain definitions and small laws; no program is walked here.
  Laws of my own for walks: copy and store of elements of any size in a row of the call's own; what is read stays.
-/
import Derived.Below
import Derived.Laws.OwnMore
import Derived.Deep.AppendLies
import Derived.Deep.Draws
import Derived.Lib.Hide
import Derived.Laws.Rows
import Derived.Laws.CopyRow
import Derived.Laws.CopyOwn
import Derived.Laws.IdiomCopy
import Derived.OwnWalk
import Derived.Deep.MidRow
import Derived.Maps.AppendAt
namespace Go.Proofs.YtmghbbicjkmigaaGreatDoor
open Go.RowKit

theorem block_of_add (a : Addr) (n : Nat) : (a.add n).block = a.block := by unfold Addr.add; split <;> rfl
theorem add_of_add (a : Addr) (i j : Nat) : (a.add i).add j = a.add (i + j) := by
  unfold Addr.add
  by_cases hi : i = 0 <;> by_cases hj : j = 0 <;> simp [hi, hj, Nat.add_assoc]

/-- The slice value '.slice A n c' holds the cells xs (size cells an element) and lies below block B. -/
def Reads (w : World) (B size : Nat) (A : Option Addr) (n : Nat) (xs : List Value) : Prop :=
  xs.length = n * size ∧ (0 < n → ∃ ad, A = some ad ∧ ad.block < B ∧ ∀ j u, xs[j]? = some u → w.cell? (ad.add j) = some u)

section
variable {w w' : World} {B B' size n : Nat} {A : Option Addr} {xs : List Value}
theorem Reads.none_ : Reads w B size A 0 [] := ⟨by simp, fun h => absurd h (by omega)⟩
theorem Reads.keep (h : Reads w B size A n xs) (hk : ∀ p : Addr, p.block < B → w'.cell? p = w.cell? p) : Reads w' B size A n xs :=
  ⟨h.1, fun hn => by
    obtain ⟨ad, e, hb, hc⟩ := h.2 hn
    exact ⟨ad, e, hb, fun j u hu => (hk _ (by rw [block_of_add]; exact hb)).trans (hc j u hu)⟩⟩
theorem Reads.more (h : Reads w B size A n xs) (hB : B ≤ B') : Reads w B' size A n xs :=
  ⟨h.1, fun hn => by
    obtain ⟨ad, e, hb, hc⟩ := h.2 hn
    exact ⟨ad, e, by omega, hc⟩⟩
theorem Reads.below (h : Reads w B size A n xs) (hb : Below B w w') : Reads w' B size A n xs := h.keep fun _ hp => hb.cell hp
theorem Reads.drew (h : Reads w B size A n xs) : Reads w.drew B size A n xs := h
theorem Reads.drewN (h : Reads w B size A n xs) (k : Nat) : Reads (w.drewN k) B size A n xs := h
theorem Reads.alloc (h : Reads w B size A n xs) (hB : B ≤ w.heap.size) (o : Obj) : Reads (w.alloc o) B size A n xs := h.keep fun p hp => World.cell?_alloc_lt w o p (by omega)
theorem Reads.of_own {base : Nat} {e : TypeId} {c : Nat} (h : w.ownsRow base e size (.slice A n c) n xs) : Reads w w.heap.size size A n xs := by
  refine ⟨h.1, fun hn => ?_⟩
  obtain ⟨g, cap, hv, _, hlt⟩ := h.form hn
  have hA : A = some ⟨g, 0, none⟩ := by injection hv
  subst hA
  exact ⟨_, rfl, hlt, h.cells (g := g) rfl⟩
end

/-- An entry as plain data: its kind, client, bytes; its input's kind, code, x, y, time, count. -/
structure En where
  kind : Int
  client : Int
  bytes : ByteArray
  ik : Int
  code : Int
  x : Int
  y : Int
  time : Int
  count : Int
  deriving DecidableEq

namespace En
def inp (e : En) : Value := .agg #[.int .i64 e.ik, .int .i64 e.code, .int .i64 e.x, .int .i64 e.y, .int .u32 e.time, .int .i64 e.count]
def val (e : En) : Value := .agg #[.int .i64 e.kind, .int .i64 e.client, .string e.bytes, .int .i64 e.ik, .int .i64 e.code, .int .i64 e.x, .int .i64 e.y, .int .u32 e.time, .int .i64 e.count]
def cells (e : En) : List Value := [.int .i64 e.kind, .int .i64 e.client, .string e.bytes, .int .i64 e.ik, .int .i64 e.code, .int .i64 e.x, .int .i64 e.y, .int .u32 e.time, .int .i64 e.count]
/-- May the input be? -/
def right (e : En) : Bool :=
  1 ≤ e.ik && e.ik ≤ 5 && 0 ≤ e.code && e.code ≤ 255 && -32768 ≤ e.x && e.x ≤ 32767 && -32768 ≤ e.y && e.y ≤ 32767 && e.time < 2147483648 && e.count == 0
def noInput (e : En) : Bool := e.ik == 0 && e.code == 0 && e.x == 0 && e.y == 0 && e.time == 0 && e.count == 0
def ofClient (e : En) : Bool := e.kind == 1 || e.kind == 3 || e.kind == 4
/-- What is wrong with an entry: a code; 0: nothing. -/
def wrong (e : En) : Int :=
  if e.kind < 0 || 4 < e.kind then 10
  else if e.ofClient && (e.client < 1 || 8 < e.client) || !e.ofClient && e.client != 0 then 1
  else if 65536 < (e.bytes.size : Int) then 4
  else if e.kind != 1 && !e.bytes.toList.isEmpty || e.kind != 2 && !e.noInput then 2
  else if e.kind == 2 && !e.right then 22
  else 0

theorem right_no {e : En} (h : e.ik < 1 ∨ 5 < e.ik ∨ e.code < 0 ∨ 255 < e.code ∨ e.x < -32768 ∨ 32767 < e.x ∨ e.y < -32768 ∨ 32767 < e.y ∨ 2147483648 ≤ e.time ∨ (e.count == 0) = false) : e.right = false := by
  rw [Bool.eq_false_iff]
  intro hr
  simp [right] at hr
  simp at h
  omega
theorem right_yes {e : En} (h1 : 1 ≤ e.ik) (h2 : e.ik ≤ 5) (h3 : 0 ≤ e.code) (h4 : e.code ≤ 255) (h5 : -32768 ≤ e.x) (h6 : e.x ≤ 32767) (h7 : -32768 ≤ e.y) (h8 : e.y ≤ 32767) (h9 : e.time < 2147483648) : e.right = (e.count == 0) := by
  simp [right, *]
end En
theorem ret_bool {a b : Bool} (h : a = b) : Ending.returned (.bool a) = .returned (.bool b) := by rw [h]
theorem ret_int {k : IntKind} {a b : Int} (h : a = b) : Ending.returned (.int k a) = .returned (.int k b) := by rw [h]
end Go.Proofs.YtmghbbicjkmigaaGreatDoor
namespace Go.Proofs.YtmghbbicjkmigaaGreatDoor
open Go.RowKit

section
variable {P : Program}
theorem run_copy_any (w : World) (dT sT ty elem : TypeId) (g o dLen dCap size : Nat) (a : Addr) (sLen sCap : Nat) (cur : Array Value) (t : TypeId) (cs : List Value)
    (hu : P.underlying dT = some (.slice elem)) (hs : (P.info? elem).map (·.size) = some size)
    (hg : w.heap[g]? = some (.cells cur t (0, 0))) (hn : cs.length = Nat.min sLen dLen * size)
    (hsrc : ∀ j v, cs[j]? = some v → w.cell? (a.add j) = some v) (hfit : o + cs.length ≤ cur.size) (h1 : ∀ v ∈ cs, v.oneCell' = true) :
    (Builtin.copy_ #[dT, sT] ty #[.slice (some ⟨g, o, none⟩) dLen dCap, .slice (some a) sLen sCap]).run P w =
      .ok (goInt (Nat.min sLen dLen)) (w.setRow g (cur.toList.take o ++ cs ++ cur.toList.drop (o + cs.length)).toArray) := by
  have hl := run_loadCells_list (P := P) w a cs hsrc
  have hst := run_storeCells_at P g o t cs 0 cur w hg (by simpa using hfit) h1
  cases hq : P.info? elem with
  | none => simp [hq] at hs
  | some i =>
    have hi : i.size = size := by simpa [hq] using hs
    simp [Builtin.copy_, run_underlying hu, Builtin.lenOf, Builtin.firstCells, sizeOf, typeInfo, hq, hi, ← hn, hl, hst]
theorem run_copy_zero (w : World) (dT sT ty elem : TypeId) (size : Nat) (d a : Option Addr) (dLen dCap sCap : Nat) (hu : P.underlying dT = some (.slice elem)) (hs : (P.info? elem).map (·.size) = some size) :
    (Builtin.copy_ #[dT, sT] ty #[.slice d dLen dCap, .slice a 0 sCap]).run P w = .ok (goInt 0) w := by
  cases hq : P.info? elem with
  | none => simp [hq] at hs
  | some i =>
    have hl : ∀ ad : Addr, (loadCells ad 0).run P w = .ok #[] w := fun ad => run_loadCells_list (P := P) w ad [] (by simp)
    cases a <;> cases d <;> simp [Builtin.copy_, run_underlying hu, Builtin.lenOf, Builtin.firstCells, sizeOf, typeInfo, hq, storeCells, hl]

/-- copy(dst, src): dst a row of the call's own, src whatever reads, not longer. -/
theorem wpList_copy_reads {w : World} {ops : Array Oper} {rest : List Oper} {o : Oper} {a : Act} {Q : Exit → Act → World → Prop} (hgd : o.guard = none) (d s : Operand) (dT sT : TypeId)
    (ho : o.op = .call { callee := .builtin .copy, args := #[d, s], argTypes := #[dT, sT] }) (base elem size : Nat) (hu : P.underlying dT = some (.slice elem)) (hsz : (P.info? elem).map (·.size) = some size)
    (g dn dCap m c B : Nat) (A : Option Addr) (xs ys : List Value) (hd : a.eval d = .slice (some ⟨g, 0, none⟩) dn dCap) (hs : a.eval s = .slice A m c)
    (hown : w.ownsRow base elem size (.slice (some ⟨g, 0, none⟩) dn dCap) dn ys) (hr : Reads w B size A m xs) (hm : m ≤ dn) (h1 : ∀ v ∈ xs, v.oneCell' = true)
    (h : ∀ w', w'.ownsRow base elem size (.slice (some ⟨g, 0, none⟩) dn dCap) dn (xs ++ ys.drop xs.length) → w.grownBy w' (some g) → wpList P ops Q rest (a.put o.dst (goInt m)) w') :
    wpList P ops Q (o :: rest) a w := by
  refine wpList_plain hgd fun K hK => ?_
  rcases Nat.eq_zero_or_pos m with h0 | h0
  · subst h0
    have hx : xs = [] := List.eq_nil_of_length_eq_zero (by simpa using hr.1)
    subst hx
    have hrun := run_copy_zero (P := P) w dT sT o.type elem size (some ⟨g, 0, none⟩) A dn dCap c hu hsz
    unfold Oper.wp
    simp [execOp, ho, resolve, invoke, builtin, hd, hs, hrun, Result.andThen]
    exact hK _ _ (h w (by simpa using hown) (World.grownBy.refl _ _))
  · obtain ⟨ad, rfl, _, hc⟩ := hr.2 h0
    rcases hown.2 with ⟨h', _⟩ | ⟨g', cap', cur, h', hbg, hg, hnc, hcm, hcs, htake⟩
    · simp at h'
    · simp only [Value.slice.injEq, Option.some.injEq, Addr.mk.injEq, and_true, true_and] at h'
      obtain ⟨rfl, rfl⟩ := h'
      have hmin : Nat.min m dn = m := Nat.min_eq_left hm
      have hle : xs.length ≤ dn * size := by rw [hr.1]; exact Nat.mul_le_mul_right _ hm
      have hle2 : dn * size ≤ dCap * size := Nat.mul_le_mul_right _ hnc
      have hrun := run_copy_any (P := P) w dT sT o.type elem g 0 dn dCap size ad m c cur elem xs hu hsz hg (by rw [hmin]; exact hr.1) hc (by omega) h1
      unfold Oper.wp
      simp [execOp, ho, resolve, invoke, builtin, hd, hs, hrun, Result.andThen]
      rw [hmin]
      refine hK _ _ (h _ ⟨?_, .inr ⟨g, dCap, _, rfl, hbg, setRow_heap w g cur _ elem _ hg, hnc, hcm, ?_, ?_⟩⟩ ⟨rfl, rfl, rfl, by simp [World.setRow], fun k _ hk => setRow_other w g k _ (fun e => hk (by simp [e]))⟩)
      · have := hown.1
        simp; omega
      · simp; omega
      · have hys : ys = cur.toList.take (dn * size) := htake.symm
        subst hys
        simp
        rw [List.take_append, List.take_of_length_le hle, List.take_drop]
        congr 2
        congr 1
        omega

/-- A struct stored at place k of a row of the call's own. -/
theorem wpList_store_own {w : World} {ops : Array Oper} {rest : List Oper} {op : Oper} {a : Act} {Q : Exit → Act → World → Prop} (hgd : op.guard = none) (ty : TypeId) (x y : Operand) (ho : op.op = .store ty x y)
    (base e size g n cap k : Nat) (xs : List Value) (cells : Array Value) (hx : a.eval x = .pointer (some ⟨g, k * size, none⟩)) (hy : a.eval y = .agg cells)
    (hown : w.ownsRow base e size (.slice (some ⟨g, 0, none⟩) n cap) n xs) (hk : k < n) (hsz : cells.size = size)
    (hi : (P.info? ty).map (·.size) = some size) (h1 : cells.all (·.oneCell') = true)
    (h : ∀ w', w'.ownsRow base e size (.slice (some ⟨g, 0, none⟩) n cap) n (splice xs (k * size) cells.toList) → w.grownBy w' (some g) → wpList P ops Q rest (a.put op.dst undef) w') : wpList P ops Q (op :: rest) a w := by
  rcases hown.2 with ⟨h', _⟩ | ⟨g', cap', cur, h', hbg, hg, hnc, hcm, hcs, htake⟩
  · simp at h'
  · simp only [Value.slice.injEq, Option.some.injEq, Addr.mk.injEq, and_true, true_and] at h'
    obtain ⟨rfl, rfl⟩ := h'
    have hkn : (k + 1) * size ≤ n * size := Nat.mul_le_mul_right _ hk
    have hnc' : n * size ≤ cap * size := Nat.mul_le_mul_right _ hnc
    rw [Nat.add_mul, Nat.one_mul] at hkn
    have hth : w.there g (k * size) cells.size := fun j hj => by
      refine ⟨?_, frozen_of_row w g _ cur e hg⟩
      rw [cell_of_row w g _ cur e (0, 0) hg, Array.getElem?_eq_getElem (by omega)]
      rfl
    refine wpList_store_mid hgd ty x y ho g (k * size) cells hx hy hth (by rw [hi, hsz]) h1 ?_
    refine h _ ?_ ?_
    all_goals
      have hset : ∀ (vs : List Value) (o : Nat) (w0 : World) (cur0 : Array Value), w0.heap[g]? = some (.cells cur0 e (0, 0)) → o + vs.length ≤ cur0.size →
          w0.setCells g o vs = w0.setRow g (splice cur0.toList o vs).toArray := by
        intro vs
        induction vs with
        | nil => intro o w0 cur0 hg0 _; simp [World.setCells, splice]; rw [setRow_self w0 g cur0 e (0, 0) hg0]
        | cons v r ih =>
          intro o w0 cur0 hg0 hl
          simp only [List.length_cons] at hl
          simp only [World.setCells]
          rw [setCell_eq_setRow w0 g o cur0 e (0, 0) v hg0, ih (o + 1) _ _ (setRow_heap w0 g cur0 _ e _ hg0) (by simp; omega), setRow_setRow]
          congr 2
          simp only [splice, Array.toList_setIfInBounds, List.length_cons]
          have hlen : o < cur0.toList.length := by simp; omega
          rw [List.take_succ_eq_append_getElem (by simpa using hlen), List.take_set_of_le (Nat.le_refl _), List.getElem_set_self]
          rw [List.drop_set_of_lt (by omega)]
          simp [Nat.add_assoc, Nat.add_comm]
          try congr 1; omega
      rw [hset cells.toList (k * size) w cur hg (by simp; omega)]
    · refine ⟨?_, .inr ⟨g, cap, _, rfl, hbg, setRow_heap w g cur _ e _ hg, hnc, hcm, ?_, ?_⟩⟩
      · rw [length_splice _ _ _ (by simp [hown.1]; omega)]; exact hown.1
      · simp [splice]; omega
      · rw [← htake]
        simp only [splice]
        rw [List.take_append, List.take_append]
        simp
        have e1 : min (k * size) (cap * size) = k * size := by omega
        rw [List.take_take, List.take_take, show min (n * size) (k * size) = k * size by omega, show min (k * size) (n * size) = k * size by omega, show min (k * size) cur.size = k * size by omega]
        congr 1
        rw [List.take_of_length_le (by simp; omega)]
        congr 1
        rw [List.drop_take]
        congr 1
        omega
    · exact ⟨rfl, rfl, rfl, by simp [World.setRow], fun j _ hj => setRow_other w g j _ (fun e => hj (by simp [e]))⟩
end

theorem grown_below {w w' : World} {row : Option Nat} (h : w.grownBy w' row) {B : Nat} (hB : B ≤ w.heap.size) (hr : ∀ k, row = some k → B ≤ k) : Below B w w' := (Below.refl B w).grown h hB hr
theorem cellv {B : Nat} {w w' : World} {a : Addr} {v : Value} (hb : Below B w w') (h : w.cell? a = some v) (ha : a.block < B) : w'.cell? a = some v := (hb.cell ha).trans h
theorem frozv {B : Nat} {w w' : World} {a : Addr} {v : Bool} (hb : Below B w w') (h : w.frozen? a = v) (ha : a.block < B) : w'.frozen? a = v := (hb.frozen ha).trans h
/-- A box of known cells, not frozen: block b. -/
def Box (w : World) (b : Nat) (t : TypeId) (cs : Array Value) : Prop := w.heap[b]? = some (.cells cs t (0, 0))
theorem Box.below {B : Nat} {w w' : World} {b : Nat} {t : TypeId} {cs : Array Value} (h : Box w b t cs) (hb : Below B w w') (hB : b < B) : Box w' b t cs := (hb.block b hB).trans h
theorem Box.cell {w : World} {b : Nat} {t : TypeId} {cs : Array Value} (h : Box w b t cs) (i : Nat) : w.cell? ⟨b, i, none⟩ = cs[i]? := cell_of_row w b i cs t (0, 0) h
theorem Box.frozen {w : World} {b : Nat} {t : TypeId} {cs : Array Value} (h : Box w b t cs) (i : Nat) : w.frozen? ⟨b, i, none⟩ = false := by
  unfold Box at h
  simp [World.frozen?, h]
theorem Box.new (w : World) (t : TypeId) (cs : Array Value) : Box (w.alloc (.cells cs t)) w.heap.size t cs := heap_alloc_new w _
theorem Box.alloc {w : World} {b : Nat} {t : TypeId} {cs : Array Value} (h : Box w b t cs) (o : Obj) : Box (w.alloc o) b t cs := by
  have hlt : b < w.heap.size := by
    rcases Nat.lt_or_ge b w.heap.size with hlt | hge
    · exact hlt
    · unfold Box at h; rw [Array.getElem?_eq_none hge] at h; cases h
  exact (Below.heap_alloc w o b hlt).trans h
theorem Box.drew {w : World} {b : Nat} {t : TypeId} {cs : Array Value} (h : Box w b t cs) : Box w.drew b t cs := h
theorem Box.set_ {w : World} {b : Nat} {t : TypeId} {cs : Array Value} (h : Box w b t cs) (i : Nat) (u : Value) : Box (w.setCell ⟨b, i, none⟩ u) b t (cs.setIfInBounds i u) := by
  unfold Box at h ⊢
  simp [World.setCell, Array.getElem?_modify, h]
theorem Box.far {w : World} {b : Nat} {t : TypeId} {cs : Array Value} (h : Box w b t cs) {p : Addr} (hp : b ≠ p.block) (u : Value) : Box (w.setCell p u) b t cs := (Below.heap_setCell w p u b hp).trans h
theorem Box.grown {w w' : World} {row : Option Nat} {b : Nat} {t : TypeId} {cs : Array Value} (h : Box w b t cs) (hg : w.grownBy w' row) (hne : some b ≠ row) : Box w' b t cs := by
  have hlt : b < w.heap.size := by
    rcases Nat.lt_or_ge b w.heap.size with hlt | hge
    · exact hlt
    · unfold Box at h; rw [Array.getElem?_eq_none hge] at h; cases h
  exact (hg.block b hlt hne).trans h
theorem box1 {w : World} {b : Nat} {t : TypeId} {v0 : Value} (h : Box w b t #[v0]) : w.cell? ⟨b, 0, none⟩ = some v0 ∧ w.frozen? ⟨b, 0, none⟩ = false := ⟨h.cell 0, h.frozen 0⟩
theorem box9 {w : World} {b : Nat} {t : TypeId} {v0 v1 v2 v3 v4 v5 v6 v7 v8 : Value} (h : Box w b t #[v0, v1, v2, v3, v4, v5, v6, v7, v8]) :
    w.cell? ⟨b, 0, none⟩ = some v0 ∧ w.cell? ⟨b, 1, none⟩ = some v1 ∧ w.cell? ⟨b, 2, none⟩ = some v2 ∧ w.cell? ⟨b, 3, none⟩ = some v3 ∧ w.cell? ⟨b, 4, none⟩ = some v4 ∧
    w.cell? ⟨b, 5, none⟩ = some v5 ∧ w.cell? ⟨b, 6, none⟩ = some v6 ∧ w.cell? ⟨b, 7, none⟩ = some v7 ∧ w.cell? ⟨b, 8, none⟩ = some v8 :=
  ⟨h.cell 0, h.cell 1, h.cell 2, h.cell 3, h.cell 4, h.cell 5, h.cell 6, h.cell 7, h.cell 8⟩
theorem below_drewN' {B : Nat} {a w : World} (h : Below B a w) (n : Nat) : Below B a (w.drewN n) := ⟨h.os, h.tape, h.output, h.size, h.block⟩
end Go.Proofs.YtmghbbicjkmigaaGreatDoor
