/-
  Words for the record layer: slices that read as lists, entries as data, what is wrong with an entry. Plain definitions and small laws; no program is walked here.
-/
import Derived.Below
import Derived.Laws.OwnMore
import Derived.Deep.AppendLies
import Derived.Deep.Draws
import Derived.Lib.Hide
import Derived.Laws.Rows
namespace Go.Proofs.YtlgepoiaolhajaaDoor
open Go.RowKit

theorem block_of_add (a : Addr) (n : Nat) : (a.add n).block = a.block := by unfold Addr.add; split <;> rfl
theorem add_of_add (a : Addr) (i j : Nat) : (a.add i).add j = a.add (i + j) := by
  unfold Addr.add
  by_cases hi : i = 0 <;> by_cases hj : j = 0 <;> simp [hi, hj, Nat.add_assoc]

/-- The slice value '.slice A n c' holds the cells xs (size cells an element) and lies below block B. -/
def Reads (w : World) (B size : Nat) (A : Option Addr) (n : Nat) (xs : List Value) : Prop :=
  xs.length = n * size ∧ (0 < n → ∃ ad, A = some ad ∧ ad.block < B ∧ ∀ j u, xs[j]? = some u → w.cell? (ad.add j) = some u)

section
variable {w w' : World} {B B' size n : Nat} {A : Option Addr} {xs : List Value}
theorem Reads.none_ : Reads w B size A 0 [] := ⟨by simp, fun h => absurd h (by omega)⟩
theorem Reads.keep (h : Reads w B size A n xs) (hk : ∀ p : Addr, p.block < B → w'.cell? p = w.cell? p) : Reads w' B size A n xs :=
  ⟨h.1, fun hn => by
    obtain ⟨ad, e, hb, hc⟩ := h.2 hn
    exact ⟨ad, e, hb, fun j u hu => (hk _ (by rw [block_of_add]; exact hb)).trans (hc j u hu)⟩⟩
theorem Reads.more (h : Reads w B size A n xs) (hB : B ≤ B') : Reads w B' size A n xs :=
  ⟨h.1, fun hn => by
    obtain ⟨ad, e, hb, hc⟩ := h.2 hn
    exact ⟨ad, e, by omega, hc⟩⟩
theorem Reads.below (h : Reads w B size A n xs) (hb : Below B w w') : Reads w' B size A n xs := h.keep fun _ hp => hb.cell hp
theorem Reads.drew (h : Reads w B size A n xs) : Reads w.drew B size A n xs := h
theorem Reads.drewN (h : Reads w B size A n xs) (k : Nat) : Reads (w.drewN k) B size A n xs := h
theorem Reads.alloc (h : Reads w B size A n xs) (hB : B ≤ w.heap.size) (o : Obj) : Reads (w.alloc o) B size A n xs := h.keep fun p hp => World.cell?_alloc_lt w o p (by omega)
theorem Reads.of_own {base : Nat} {e : TypeId} {c : Nat} (h : w.ownsRow base e size (.slice A n c) n xs) : Reads w w.heap.size size A n xs := by
  refine ⟨h.1, fun hn => ?_⟩
  obtain ⟨g, cap, hv, _, hlt⟩ := h.form hn
  have hA : A = some ⟨g, 0, none⟩ := by injection hv
  subst hA
  exact ⟨_, rfl, hlt, h.cells (g := g) rfl⟩
end

/-- An entry as plain data: its kind, client, bytes; its input's kind, code, x, y, time, count. -/
structure En where
  kind : Int
  client : Int
  bytes : ByteArray
  ik : Int
  code : Int
  x : Int
  y : Int
  time : Int
  count : Int
deriving DecidableEq

namespace En
def inp (e : En) : Value := .agg #[.int .i64 e.ik, .int .i64 e.code, .int .i64 e.x, .int .i64 e.y, .int .u32 e.time, .int .i64 e.count]
def val (e : En) : Value := .agg #[.int .i64 e.kind, .int .i64 e.client, .string e.bytes, .int .i64 e.ik, .int .i64 e.code, .int .i64 e.x, .int .i64 e.y, .int .u32 e.time, .int .i64 e.count]
def cells (e : En) : List Value := [.int .i64 e.kind, .int .i64 e.client, .string e.bytes, .int .i64 e.ik, .int .i64 e.code, .int .i64 e.x, .int .i64 e.y, .int .u32 e.time, .int .i64 e.count]
/-- May the input be? -/
def right (e : En) : Bool :=
  1 ≤ e.ik && e.ik ≤ 5 && 0 ≤ e.code && e.code ≤ 255 && -32768 ≤ e.x && e.x ≤ 32767 && -32768 ≤ e.y && e.y ≤ 32767 && e.time < 2147483648 && e.count == 0
def noInput (e : En) : Bool := e.ik == 0 && e.code == 0 && e.x == 0 && e.y == 0 && e.time == 0 && e.count == 0
def ofClient (e : En) : Bool := e.kind == 1 || e.kind == 3 || e.kind == 4
/-- What is wrong with an entry: a code; 0: nothing. -/
def wrong (e : En) : Int :=
  if e.kind < 0 || 4 < e.kind then 10
  else if e.ofClient && (e.client < 1 || 8 < e.client) || !e.ofClient && e.client != 0 then 1
  else if 65536 < (e.bytes.size : Int) then 4
  else if e.kind != 1 && !e.bytes.toList.isEmpty || e.kind != 2 && !e.noInput then 2
  else if e.kind == 2 && !e.right then 22
  else 0

theorem right_no {e : En} (h : e.ik < 1 ∨ 5 < e.ik ∨ e.code < 0 ∨ 255 < e.code ∨ e.x < -32768 ∨ 32767 < e.x ∨ e.y < -32768 ∨ 32767 < e.y ∨ 2147483648 ≤ e.time ∨ (e.count == 0) = false) : e.right = false := by
  rw [Bool.eq_false_iff]
  intro hr
  simp [right] at hr
  simp at h
  omega
theorem right_yes {e : En} (h1 : 1 ≤ e.ik) (h2 : e.ik ≤ 5) (h3 : 0 ≤ e.code) (h4 : e.code ≤ 255) (h5 : -32768 ≤ e.x) (h6 : e.x ≤ 32767) (h7 : -32768 ≤ e.y) (h8 : e.y ≤ 32767) (h9 : e.time < 2147483648) : e.right = (e.count == 0) := by
  simp [right, *]
end En
theorem ret_bool {a b : Bool} (h : a = b) : Ending.returned (.bool a) = .returned (.bool b) := by rw [h]
theorem ret_int {k : IntKind} {a b : Int} (h : a = b) : Ending.returned (.int k a) = .returned (.int k b) := by rw [h]
end Go.Proofs.YtlgepoiaolhajaaDoor
