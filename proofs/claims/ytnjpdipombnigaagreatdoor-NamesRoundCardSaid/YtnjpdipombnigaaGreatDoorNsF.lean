/-
  NamesRound: a name is one of those that are known, or none of them.
-/
import Derived.Test.YtnjpdipombnigaaGreatDoorNsA
namespace Go.Proofs.YtnjpdipombnigaaGreatDoor
namespace Ev
open Go.RowKit
/-- Texts alike, as it is told. -/
theorem eq_def {tabs : List (Nat × List AV)} {ρ : Nat → Int} {δ : Nat → D} {t k : Nat} {s u : List UInt8} {b : Bool} (hd : δ k = .v (.string ⟨u.toArray⟩)) (hb : b = decide (s = u)) : DefOk tabs ρ δ ⟨opBase + 22, [t], [.str s, .opq k], .bool b⟩ := by
  refine opOk (by decide) fun K w vs hK hv => ?_
  cases hv with
  | cons h t' =>
    cases t' with
    | cons h' t'' =>
      cases t''
      cases h
      cases h' with
      | opq h' =>
        rw [show (pureEnv ρ δ K fun b => w.heap[b]?).δ k = δ k from rfl, hd] at h'
        cases h'
        refine ⟨_, .bool b, rfl, ?_, .bool b⟩
        subst hb
        have h1 : (s == u) = decide (s = u) := by
          by_cases h : s = u <;> simp [h]
        simp [binOp, Op.stringOp, h1]
/-- A text is looked up in no map. -/
theorem lookupNil_def {tabs : List (Nat × List AV)} {ρ : Nat → Int} {δ : Nat → D} {t kt e k : Nat} {u : List UInt8} {z : AV} (hu : theProg.underlying t = some (.map kt e)) (hk : theProg.underlying kt = some .string) (hz : zeroOf theProg e = some z) (hd : δ k = .v (.string ⟨u.toArray⟩)) :
    DefOk tabs ρ δ ⟨opBase + 4, [t], [.nilmap, .opq k], .tuple [z, .bool false]⟩ := by
  refine opOk (by decide) fun K w vs hK hv => ?_
  cases hv with
  | cons h t' =>
    cases t' with
    | cons h' t'' =>
      cases t''
      cases h
      cases h' with
      | opq h' =>
        rw [show (pureEnv ρ δ K fun b => w.heap[b]?).δ k = δ k from rfl, hd] at h'
        cases h'
        have hkr : Rel (pureEnv ρ δ K fun b => w.heap[b]?) (.str u) (.string ⟨u.toArray⟩) := .str u
        have hfin : lookupFin theProg e true none (startD 64 [] [] []) = some (.tuple [z, .bool false], startD 64 [] [] []) := by
          unfold lookupFin
          rw [hz]
          rfl
        obtain ⟨_, v', hrun, hv⟩ := lookupFin_ok (P := theProg) (w := w) (E := pureEnv ρ δ K fun b => w.heap[b]?) (k' := .string ⟨u.toArray⟩) (es' := []) hfin .none
        have hck : (Instr.checkKey true 10000 kt (.string ⟨u.toArray⟩)).run theProg w = .ok () w := checkKey_plain (show keyType theProg kt (.str u) = true by unfold keyType; rw [hk]) hkr true 9999
        have hfind : (Instr.findKey kt (.string ⟨u.toArray⟩) []).run theProg w = .ok none w := by
          simp only [Instr.findKey]
          simp [und_run hk, Instr.findNow]
        refine ⟨_, v', rfl, ?_, hv⟩
        simp only [Instr.lookup, Sem.run_bind, und_run hu, Result.andThen_ok, Sem.run_pure, List.isEmpty_toArray, List.isEmpty_nil, hck, hfind]
        simpa using hrun
/-- The names that are known from the start. -/
noncomputable def knownL : List (List UInt8) := [[112, 114, 105, 109, 97, 114, 121], [115, 101, 99, 111, 110, 100, 97, 114, 121], [99, 108, 105, 112, 98, 111, 97, 114, 100], [115, 116, 114, 105, 110, 103], [105, 110, 116, 101, 103, 101, 114], [97, 116, 111, 109, 115], [105, 110, 99, 114], [116, 105, 116, 108, 101], [116, 114, 97, 110, 115, 102, 101, 114], [99, 108, 111, 115, 101]]
noncomputable def findDefs (i : Nat) : Nat → List (List UInt8) → List Def
  | _, [] => []
  | j, s :: r => ⟨opBase + 22, [9], [.str s, .opq 0], .bool (Nat.beq j i)⟩ :: findDefs i (j + 1) r
noncomputable def findB (i : Nat) : Bool := retD theProg (.tuple [.int .u32 ((Nat.succ i : Nat) : Int), .bool true]) ((ev theProg (ctrL theProg []) 100000).call 153 [.agg [.nilslice, .nilmap], .opq 0] (startD 64 nsTabs [] (findDefs i 0 knownL)))
set_option maxRecDepth 100000 in
theorem find_all : allNs findB 0 10 = true := by kernel_rfl
/-- A new name. -/
noncomputable def findN : Bool := retD theProg (.tuple [.int .u32 0, .bool false]) ((ev theProg (ctrL theProg []) 100000).call 153 [.agg [.nilslice, .nilmap], .opq 0] (startD 64 nsTabs [] (⟨opBase + 4, [60], [.nilmap, .opq 0], .tuple [.int .u32 0, .bool false]⟩ :: findDefs 10 0 knownL)))
set_option maxRecDepth 100000 in
theorem find_new : findN = true := by kernel_rfl
section
variable {ρ : Nat → Int} {δ : Nat → D}
theorem findDefs_ok {u : List UInt8} {i : Nat} (hd : δ 0 = .v (.string ⟨u.toArray⟩)) : ∀ (l : List (List UInt8)) (j : Nat), (∀ n s, l[n]? = some s → Nat.beq (j + n) i = decide (s = u)) → ∀ d ∈ findDefs i j l, DefOk nsTabs ρ δ d
  | [], _, _ => fun d hm => by cases hm
  | s :: r, j, h => fun d hm => by
    rcases List.mem_cons.1 hm with rfl | hm
    · exact eq_def hd (h 0 s rfl)
    · exact findDefs_ok hd r (j + 1) (fun n s' hn => by
        have := h (n + 1) s' (by simpa using hn)
        rw [show j + 1 + n = j + (n + 1) by omega]
        exact this) d hm
end
theorem known_nodup : knownL.Nodup := by unfold knownL; decide
/-- The table at the start. -/
def tab0 : DV := .agg [.v (.slice none 0 0), .v (.map none)]
theorem findD {u : List UInt8} {i : Nat} (hi : i < 10) (hu : knownL[i]? = some u) : FunD nsTabs 153 [tab0, .c (.v (.string ⟨u.toArray⟩))] (.tup [.c (.v (.int .u32 ((Nat.succ i : Nat) : Int))), .c (.v (.bool true))]) := by
  have h := allNs_ok find_all i (by omega) (by omega)
  unfold findB at h
  refine funD_run (ρ := fun _ => 0) (δ := fun _ => .v (.string ⟨u.toArray⟩)) (fl := []) (n := 100000) (c := 64) (fs := []) ns_mix ns_names (by decide) h (fun _ h => by cases h) (findDefs_ok rfl knownL 0 fun n s hn => ?_) (.cons (.agg (.cons .nilslice (.cons .nilmap .nil))) (.cons (.c (.opq 0)) .nil)) (.tup (.cons (.c (.int _ _)) (.cons (.c (.bool _)) .nil)))
  rw [Nat.zero_add]
  by_cases hni : n = i
  · subst hni
    rw [hu] at hn
    cases hn
    simp
  · have hsu : s ≠ u := by
      intro e
      subst e
      obtain ⟨h1, h2⟩ := List.getElem?_eq_some_iff.1 hn
      obtain ⟨h3, h4⟩ := List.getElem?_eq_some_iff.1 hu
      rcases Nat.lt_or_gt_of_ne hni with hlt | hlt
      · exact (List.pairwise_iff_getElem.1 known_nodup) n i h1 h3 hlt (h2.trans h4.symm)
      · exact (List.pairwise_iff_getElem.1 known_nodup) i n h3 h1 hlt (h4.trans h2.symm)
    have : Nat.beq n i = false := by
      cases hb : Nat.beq n i with
      | false => rfl
      | true => exact absurd (Nat.eq_of_beq_eq_true hb) hni
    rw [this]
    simp [hsu]
theorem findNewD {u : List UInt8} (hu : u ∉ knownL) : FunD nsTabs 153 [tab0, .c (.v (.string ⟨u.toArray⟩))] (.tup [.c (.v (.int .u32 0)), .c (.v (.bool false))]) := by
  refine funD_run (ρ := fun _ => 0) (δ := fun _ => .v (.string ⟨u.toArray⟩)) (fl := []) (n := 100000) (c := 64) (fs := []) ns_mix ns_names (by decide) find_new (fun _ h => by cases h) (fun d hm => ?_) (.cons (.agg (.cons .nilslice (.cons .nilmap .nil))) (.cons (.c (.opq 0)) .nil)) (.tup (.cons (.c (.int _ _)) (.cons (.c (.bool _)) .nil)))
  rcases List.mem_cons.1 hm with rfl | hm
  · exact lookupNil_def (kt := 9) (e := 229) (by kernel_rfl) (by kernel_rfl) (by kernel_rfl) rfl
  · refine findDefs_ok rfl knownL 0 (fun n s hn => ?_) d hm
    have hsu : s ≠ u := by
      intro e
      subst e
      exact hu (List.mem_of_getElem? hn)
    have hlt : n < 10 := (List.getElem?_eq_some_iff.1 hn).1
    have : Nat.beq (0 + n) 10 = false := by
      cases hb : Nat.beq (0 + n) 10 with
      | false => rfl
      | true => have := Nat.eq_of_beq_eq_true hb; omega
    rw [this]
    simp [hsu]
end Ev
end Go.Proofs.YtnjpdipombnigaaGreatDoor
