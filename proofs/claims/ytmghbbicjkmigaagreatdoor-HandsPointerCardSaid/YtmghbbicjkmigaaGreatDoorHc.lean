/-
  HandsCodes: the contracts.
  HandsPointer: the tables (printed by a program).
  HandsPointer: the contracts, and how a leaf is used.
-/
import Derived.Test.YtmghbbicjkmigaaGreatDoorHcP3
import Derived.Test.YtmghbbicjkmigaaGreatDoorHa
import Derived.Test.YtmghbbicjkmigaaGreatDoorZd
import Derived.Test.YtmghbbicjkmigaaGreatDoorHpG
namespace Go.Proofs.YtmghbbicjkmigaaGreatDoor
namespace Ev
open Go.RowKit
theorem awake_enter : ∀ w, (callFunc 7 #[]).run Tryz.prog w = .ok (.enter 7 #[]) w := enters hc_aw (by kernel_rfl) aw_body #[]
noncomputable def ctrH : Ctr := ctrU 7 (knownTrue hcTabs) (ctrU 8 (knownLit hcTabs 65 158 st_v st_lits) fun _ => none)
theorem ctrH_ok : CtrOk Tryz.prog ctrH := ctrU_ok (ctrU_ok noCtr_ok fun {args s v s'} h => knownLit_ok noCtr_ok hc_mix hc_names start_run h) fun {args s v s'} h => knownC_ok awake_enter (fun w ht => awake_calls ht) h
noncomputable def evH : Rec := ev Tryz.prog ctrH 100000
theorem evH_ok : RecOk Tryz.prog 100000 evH := ev_ok hc_mix ctrH_ok (names_of hc_names) 100000
noncomputable def bnds (k : Nat) : Nat → List Fact
  | 0 => []
  | n + 1 => ⟨true, .var k, .lit (-9223372036854775808), false⟩ :: ⟨true, .lit 9223372036854775807, .var k, false⟩ :: bnds (Nat.succ k) n
/-- A code's leaves, of the right length. -/
noncomputable def hcC (f c k : Nat) (fs : List Fact) : Bool := okT (evH.call f [.int .i64 (Int.ofNat c), .aslice 64 0 k] (startR hcTabs (varsFrom .i64 2 k) (orcI fs)))
noncomputable def hcAll (f c k : Nat) (t : Tree) : Bool := t.all (hcC f c k) (bnds 2 k)
theorem all_leaf {chk : List Fact → Bool} {fs : List Fact} (h : chk fs = true) : Tree.leaf.all chk fs = true := h
theorem all_lt {chk : List Fact → Bool} {a b : SE} {y n : Tree} {fs : List Fact} (h1 : y.all chk (⟨true, a, b, true⟩ :: fs) = true) (h2 : n.all chk (⟨true, a, b, false⟩ :: fs) = true) : (Tree.lt a b y n).all chk fs = true := by
  rw [Tree.all, h1, h2]; rfl
theorem all_eq {chk : List Fact → Bool} {a b : SE} {y n : Tree} {fs : List Fact} (h1 : y.all chk (⟨false, a, b, true⟩ :: fs) = true) (h2 : n.all chk (⟨false, a, b, false⟩ :: fs) = true) : (Tree.eq a b y n).all chk fs = true := by
  rw [Tree.all, h1, h2]; rfl
end Ev
end Go.Proofs.YtmghbbicjkmigaaGreatDoor
namespace Go.Proofs.YtmghbbicjkmigaaGreatDoor
namespace Ev
open Go.RowKit
noncomputable def hpTabs : List (Nat × List AV) := [hcT1, hcT2, hcT3, hcT5]
end Ev
end Go.Proofs.YtmghbbicjkmigaaGreatDoor
namespace Go.Proofs.YtmghbbicjkmigaaGreatDoor
namespace Ev
open Go.RowKit
noncomputable def ctrG : Ctr := ctrU 163 gridNewA (ctrU 412 gridTwinA fun _ => none)
theorem ctrG_ok : CtrOk Tryz.prog ctrG := ctrU_ok (ctrU_ok noCtr_ok gridTwin_ok) gridNew_ok
noncomputable def kChk (M : Memo) : Bool := memChk M (evN.call 22 M.args (tmplSt hpTabs M.c0 M.objs M.fs))
noncomputable def evP : Rec := ev Tryz.prog ctrG 100000
noncomputable def pChk (M : MemoR) : Bool := memChkR M (evP.call 4 M.args (tmplSt hpTabs M.c0 M.objs M.fs))
noncomputable def evL (km : List Memo) (pm : List MemoR) : Rec := ev Tryz.prog (ctrU 22 (fun a s => memAny hpTabs a s km) (ctrU 7 (knownTrue hcTabs) (ctrU 4 (fun a s => memAnyR hpTabs a s pm) fun _ => none))) 100000
theorem evL_ok {km : List Memo} {pm : List MemoR} (hk : ∀ M ∈ km, kChk M = true) (hp : ∀ M ∈ pm, pChk M = true) : RecOk Tryz.prog 100000 (evL km pm) :=
  ev_ok hc_mix (ctrU_ok (ctrU_ok (ctrU_ok noCtr_ok
    fun {args s v s'} h => memsR_ok (tabs := hpTabs) (ctr := ctrG) (n := 100000) (l := pm) ctrG_ok hc_mix hc_names hp h)
    fun {args s v s'} h => knownC_ok awake_enter (fun w ht => awake_calls ht) h)
    fun {args s v s'} h => mems_ok (tabs := hpTabs) (ctr := fun _ => none) (n := 100000) (l := km) noCtr_ok hc_mix hc_names hk h) (names_of hc_names) 100000

/-- What came in, as facts. -/
def Holds (ρ : Nat → Int) (fs : List Fact) : Prop := ∀ f ∈ fs, f.holds ρ
theorem holds_lt {ρ : Nat → Int} {fs : List Fact} {a b : SE} {G : Prop} (h : Holds ρ fs) (h1 : Holds ρ (⟨true, a, b, true⟩ :: fs) → G) (h2 : Holds ρ (⟨true, a, b, false⟩ :: fs) → G) : G := by
  by_cases hc : a.val ρ < b.val ρ
  · refine h1 fun f hf => ?_
    rcases List.mem_cons.1 hf with rfl | hf
    · show true = decide (a.val ρ < b.val ρ)
      exact (decide_eq_true hc).symm
    · exact h f hf
  · refine h2 fun f hf => ?_
    rcases List.mem_cons.1 hf with rfl | hf
    · show false = decide (a.val ρ < b.val ρ)
      exact (decide_eq_false hc).symm
    · exact h f hf
theorem holds_eq {ρ : Nat → Int} {fs : List Fact} {a b : SE} {G : Prop} (h : Holds ρ fs) (h1 : Holds ρ (⟨false, a, b, true⟩ :: fs) → G) (h2 : Holds ρ (⟨false, a, b, false⟩ :: fs) → G) : G := by
  by_cases hc : a.val ρ = b.val ρ
  · refine h1 fun f hf => ?_
    rcases List.mem_cons.1 hf with rfl | hf
    · show true = decide (a.val ρ = b.val ρ)
      exact (decide_eq_true hc).symm
    · exact h f hf
  · refine h2 fun f hf => ?_
    rcases List.mem_cons.1 hf with rfl | hf
    · show false = decide (a.val ρ = b.val ρ)
      exact (decide_eq_false hc).symm
    · exact h f hf
theorem Holds.lt1 {ρ : Nat → Int} {fs : List Fact} {a b : SE} (h : Holds ρ fs) (m : (⟨true, a, b, true⟩ : Fact) ∈ fs) : a.val ρ < b.val ρ := of_decide_eq_true (show true = decide (a.val ρ < b.val ρ) from h _ m).symm
theorem Holds.lt0 {ρ : Nat → Int} {fs : List Fact} {a b : SE} (h : Holds ρ fs) (m : (⟨true, a, b, false⟩ : Fact) ∈ fs) : ¬ a.val ρ < b.val ρ := of_decide_eq_false (show false = decide (a.val ρ < b.val ρ) from h _ m).symm
theorem Holds.eq1 {ρ : Nat → Int} {fs : List Fact} {a b : SE} (h : Holds ρ fs) (m : (⟨false, a, b, true⟩ : Fact) ∈ fs) : a.val ρ = b.val ρ := of_decide_eq_true (show true = decide (a.val ρ = b.val ρ) from h _ m).symm
theorem Holds.eq0 {ρ : Nat → Int} {fs : List Fact} {a b : SE} (h : Holds ρ fs) (m : (⟨false, a, b, false⟩ : Fact) ∈ fs) : ¬ a.val ρ = b.val ρ := of_decide_eq_false (show false = decide (a.val ρ = b.val ρ) from h _ m).symm
noncomputable def hpArgs : List AV := [.agg [.sint .u8 (.lin 0 [(0, 1), (1, 8)]), .sint .u8 (.lin 0 [(2, 1), (3, 6)]), .sint .u8 (.lin 0 [(4, 1), (5, 4)]), .sint .u8 (.lin 0 [(6, 1), (7, 3)])], .agg [.sint .i16 (.var 8), .sint .i16 (.var 9)]]
/-- The law, where the window lies by a memo, under facts. -/
noncomputable def hpRun (km : List Memo) (M : MemoR) (fs : List Fact) : Bool := okT ((evL km [M]).call 3 hpArgs (startC 65 hpTabs (orcI fs)))
/-- The remainders and quotients of the four bytes; the two numbers. -/
def rhoP (q0 q1 q2 q3 t0 t1 : Int) : Nat → Int := fun j => if j = 0 then q0 % 8 else if j = 1 then q0 / 8 else if j = 2 then q1 % 6 else if j = 3 then q1 / 6 else if j = 4 then q2 % 4 else if j = 5 then q2 / 4 else if j = 6 then q3 % 3 else if j = 7 then q3 / 3 else if j = 8 then t0 else t1
theorem lin_rel {E : Env} {i j : Nat} {m q : Int} (h0 : E.ρ i = q % m) (h1 : E.ρ j = q / m) : Rel E (.sint .u8 (.lin 0 [(i, 1), (j, m)])) (.int .u8 q) := by
  have e : (SE.lin 0 [(i, 1), (j, m)]).val E.ρ = q := by
    show 0 + (1 * E.ρ i + (m * E.ρ j + 0)) = q
    rw [h0, h1]
    have := Int.emod_add_mul_ediv q m
    omega
  have := Rel.sint (E := E) .u8 (.lin 0 [(i, 1), (j, m)])
  rwa [e] at this
/-- What the statement asks. -/
def Pointed (w : World) (q0 q1 q2 q3 t0 t1 : Int) : Prop := Calls Tryz.prog 3 #[.agg #[.int .u8 q0, .int .u8 q1, .int .u8 q2, .int .u8 q3], .agg #[.int .i16 t0, .int .i16 t1]] w fun e w' => e = .returned (.bool true) ∧ Below w.heap.size w w'
theorem kNil : ∀ M ∈ ([] : List Memo), kChk M = true := fun _ h => by cases h
theorem kCons {M : Memo} {l : List Memo} (h : kChk M = true) (t : ∀ N ∈ l, kChk N = true) : ∀ N ∈ M :: l, kChk N = true := fun N hN => by
  rcases List.mem_cons.1 hN with rfl | hN
  · exact h
  · exact t N hN
/-- One leaf. -/
theorem hp_leaf {w : World} (ht : TabsIn w hpTabs) {km : List Memo} {M : MemoR} {fs : List Fact} {q0 q1 q2 q3 t0 t1 : Int} (hk : ∀ M ∈ km, kChk M = true) (hp : pChk M = true) (hrun : hpRun km M fs = true) (h : Holds (rhoP q0 q1 q2 q3 t0 t1) fs) : Pointed w q0 q1 q2 q3 t0 t1 :=
  leafC_ok (ρ := rhoP q0 q1 q2 q3 t0 t1) (evL_ok hk (fun N hN => by
    rcases List.mem_cons.1 hN with rfl | hN
    · exact hp
    · cases hN)) (by decide) hrun ht h
    (.cons (.agg (.cons (lin_rel rfl rfl) (.cons (lin_rel rfl rfl) (.cons (lin_rel rfl rfl) (.cons (lin_rel rfl rfl) .nil))))) (.cons (.agg (.cons (.sint .i16 (.var 8)) (.cons (.sint .i16 (.var 9)) .nil))) .nil))
end Ev
end Go.Proofs.YtmghbbicjkmigaaGreatDoor
