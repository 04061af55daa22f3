/-
  NamesRound: what the layers below come to on rows of numbers, and on the requests that hold them.
-/
import Derived.Test.YtnjpdipombnigaaGreatDoorNsF
import Derived.Test.YtnjpdipombnigaaGreatDoorZg
namespace Go.Proofs.YtnjpdipombnigaaGreatDoor
namespace Ev
open Go.RowKit

/-- Numbers as data. -/
def numD (l : List Int) : List D := l.map fun x => .v (.int .i64 x)
def rowI (l : List Int) : D := .sl l.length (numD l)
theorem numD_len (l : List Int) : (numD l).length = l.length := by simp [numD]
/-- Numbers that fit, by variables; any numbers. -/
noncomputable def numsF : Nat → Nat → List AV
  | _, 0 => []
  | i, n + 1 => .sint .i64 (.fn 2 (.var i) (.lit 0)) :: numsF (i + 1) n
noncomputable def anysF : Nat → Nat → List AV
  | _, 0 => []
  | i, n + 1 => .sint .i64 (.var i) :: anysF (i + 1) n
theorem anysF_len : ∀ (n i : Nat), (anysF i n).length = n
  | 0, _ => rfl
  | n + 1, i => by rw [anysF, List.length_cons, anysF_len n]
def numρ (l : List Int) (a m k : Int) : Nat → Int := fun i => if i = 100 then a else if i = 101 then m else if i = 102 then k else l.getD i 0
def fitN (l : List Int) : Prop := ∀ x ∈ l, 0 ≤ x ∧ x ≤ 4294967295
section
variable {l : List Int} {a m k : Int} {δ : Nat → D}
theorem numρ_at (hl : l.length ≤ 30) {i : Nat} {x : Int} (h : l[i]? = some x) : numρ l a m k i = x := by
  have hi := (List.getElem?_eq_some_iff.1 h).1
  unfold numρ
  rw [if_neg (by omega), if_neg (by omega), if_neg (by omega), List.getD_eq_getElem?_getD, h]
  rfl
theorem nums_isD (hl : l.length ≤ 30) : ∀ (r : List Int) (i : Nat), fitN r → (∀ j x, r[j]? = some x → l[i + j]? = some x) → IsDL (numρ l a m k) δ (numsF i r.length) (numD r)
  | [], _, _, _ => .nil
  | x :: r, i, hf, hr => by
    have h0 : numρ l a m k i = x := numρ_at hl (hr 0 x rfl)
    have hx := hf x (List.mem_cons_self ..)
    have hv : (SE.fn 2 (.var i) (.lit 0)).val (numρ l a m k) = x := by
      show (((numρ l a m k i).toNat % 4294967296 : Nat) : Int) = x
      rw [h0]; omega
    have := IsD.sint (ρ := numρ l a m k) (δ := δ) .i64 (.fn 2 (.var i) (.lit 0))
    rw [hv] at this
    exact .cons this (nums_isD hl r (i + 1) (fun y hy => hf y (List.mem_cons_of_mem _ hy)) fun j y hj => by
      have := hr (j + 1) y (by simpa using hj)
      rw [show i + 1 + j = i + (j + 1) by omega]
      exact this)
theorem anys_isD (hl : l.length ≤ 30) : ∀ (r : List Int) (i : Nat), (∀ j x, r[j]? = some x → l[i + j]? = some x) → IsDL (numρ l a m k) δ (anysF i r.length) (numD r)
  | [], _, _ => .nil
  | x :: r, i, hr => by
    have h0 : (SE.var i).val (numρ l a m k) = x := numρ_at hl (hr 0 x rfl)
    have := IsD.sint (ρ := numρ l a m k) (δ := δ) .i64 (.var i)
    rw [h0] at this
    exact .cons this (anys_isD hl r (i + 1) fun j y hj => by
      have := hr (j + 1) y (by simpa using hj)
      rw [show i + 1 + j = i + (j + 1) by omega]
      exact this)
end
theorem sliceT_22 : sliceT theProg 22 1 = true := by kernel_rfl
theorem aggT_2 : aggT theProg 2 false 1 = true := by kernel_rfl
theorem und_22 : theProg.underlying 22 = some (.slice 2) := by kernel_rfl
noncomputable def f100 : List Fact := [⟨true, .var 100, .lit 1, false⟩, ⟨true, .lit 11, .var 100, false⟩]
noncomputable def f102 : List Fact := [⟨true, .var 101, .lit 0, false⟩, ⟨true, .lit 30, .var 101, false⟩, ⟨true, .var 102, .lit 1, false⟩, ⟨true, .lit 8, .var 102, false⟩, ⟨true, .var 100, .lit 1, false⟩, ⟨true, .lit 11, .var 100, false⟩]
/-- The request that changes the property. -/
noncomputable def chgB (n : Nat) : Bool := retD theProg (.int .i64 0) ((ev theProg (ctrL theProg []) 100000).call 19 [.agg [.int .i64 13, .opq 0, .str [], .opq 1]] (startD 64 nsTabs f100 (rowD 22 2 0 [.int .i64 1048577, .sint .i64 (.var 100), .int .i64 5, .int .i64 32, .int .i64 0] ++ rowD 22 2 1 (numsF 0 n))))
/-- The request that gets a piece of it. -/
noncomputable def getB : Bool := retD theProg (.int .i64 0) ((ev theProg (ctrL theProg []) 100000).call 19 [.agg [.int .i64 15, .opq 0, .str [], .nilslice]] (startD 64 nsTabs f102 (rowD 22 2 0 [.int .i64 1048577, .sint .i64 (.var 100), .int .i64 0, .sint .i64 (.var 101), .sint .i64 (.var 102), .int .i64 1])))
noncomputable def chkB (n : Nat) : Bool := retD theProg (.int .i64 0) ((ev theProg (ctrL theProg []) 100000).call 159 [.agg [.sint .u32 (.var 100), .int .u32 5, .int .i64 32, .opq 1]] (startD 64 nsTabs f100 (rowD 22 2 1 (numsF 0 n))))
noncomputable def lenDef (n : Nat) : List Def := [⟨opBase + 9, [22], [.psl n (anysF 0 n)], .int .i64 (n : Int)⟩]
noncomputable def joinB (n : Nat) : Bool := retD theProg (.psl n (anysF 0 n)) ((ev theProg (ctrL theProg []) 100000).call 161 [.nilslice, .psl n (anysF 0 n)] (startD 64 nsTabs [] (lenDef n)))
noncomputable def cloneB (n : Nat) : Bool := retD theProg (.psl (n + 1) (anysF 0 (n + 1))) ((ev theProg (ctrL theProg []) 100000).call 82 [.psl (n + 1) (anysF 0 (n + 1))] (startD 64 nsTabs [] []))
noncomputable def sameB (n : Nat) : Bool := retD theProg (.bool true) ((ev theProg (ctrL theProg []) 100000).call 7 [.opq 0, .opq 1] (startD 64 nsTabs [] (rowD 22 2 0 (anysF 0 n) ++ rowD 22 2 1 (anysF 0 n))))
set_option maxRecDepth 100000 in
theorem get_run : getB = true := by kernel_rfl
set_option maxRecDepth 100000 in
theorem chk_all : allTo chkB 31 = true := by kernel_rfl
set_option maxRecDepth 100000 in
theorem join_all : allTo joinB 31 = true := by kernel_rfl
set_option maxRecDepth 100000 in
theorem clone_all : allTo cloneB 8 = true := by kernel_rfl
set_option maxRecDepth 100000 in
theorem same_all : allTo sameB 31 = true := by kernel_rfl
noncomputable def cloneN : Bool := retD theProg .nilslice ((ev theProg (ctrL theProg []) 100000).call 82 [.nilslice] (startD 64 nsTabs [] []))
noncomputable def cloneE : Bool := retD theProg (.psl 0 []) ((ev theProg (ctrL theProg []) 100000).call 82 [.eslice] (startD 64 nsTabs [] []))
theorem clone_nil : cloneN = true := by kernel_rfl
theorem clone_none : cloneE = true := by kernel_rfl
noncomputable def nameB (i : Nat) : Bool := retD theProg (.tuple [.str (knownL.getD i []), .bool true]) ((ev theProg (ctrL theProg []) 100000).call 93 [.agg [.nilslice, .nilmap], .int .u32 ((Nat.succ i : Nat) : Int)] (startD 64 nsTabs [] []))
theorem name_all : allTo nameB 10 = true := by kernel_rfl
end Ev
end Go.Proofs.YtnjpdipombnigaaGreatDoor
