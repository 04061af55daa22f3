/-
  NamesRound: a name's bytes, and what is known of it by its length.
-/
import Derived.Test.YtnjpdipombnigaaGreatDoorNsT
namespace Go.Proofs.YtnjpdipombnigaaGreatDoor
namespace Ev
open Go.RowKit

/-- Each number from a on, so many. -/
noncomputable def allNs (p : Nat → Bool) (a : Nat) : Nat → Bool
  | 0 => true
  | n + 1 => p (Nat.add a n) && allNs p a n
theorem allNs_ok {p : Nat → Bool} {a : Nat} : ∀ {n : Nat}, allNs p a n = true → ∀ i, a ≤ i → i < a + n → p i = true
  | 0, _, i, h1, h2 => absurd h2 (by omega)
  | n + 1, h, i, h1, h2 => by
    have h' : (p (Nat.add a n) && allNs p a n) = true := h
    rw [Bool.and_eq_true] at h'
    by_cases hi : i = a + n
    · subst hi; exact h'.1
    · exact allNs_ok h'.2 i h1 (by omega)
/-- Each number below n. -/
noncomputable def allTo (p : Nat → Bool) : Nat → Bool
  | 0 => true
  | n + 1 => p n && allTo p n
theorem allTo_ok {p : Nat → Bool} : ∀ {n : Nat}, allTo p n = true → ∀ i, i < n → p i = true
  | 0, _, i, hi => absurd hi (Nat.not_lt_zero i)
  | n + 1, h, i, hi => by
    have h' : (p n && allTo p n) = true := h
    rw [Bool.and_eq_true] at h'
    rcases Nat.lt_succ_iff_lt_or_eq.1 hi with h1 | rfl
    · exact allTo_ok h'.2 i h1
    · exact h'.1
/-- A name of so many bytes, of the variables from i on. -/
noncomputable def nameP : Nat → Nat → List Pc
  | _, 0 => []
  | i, n + 1 => .byt (.fn 1 (.var i) (.lit 0)) :: nameP (i + 1) n
/-- A byte of a name. -/
def isPr (b : UInt8) : Prop := 32 ≤ b.toNat ∧ b.toNat ≤ 126
def nameρ (l : List UInt8) : Nat → Int := fun i => match l[i]? with
  | some b => ((b.toNat - 32 : Nat) : Int)
  | none => 0
theorem nameP_val {l : List UInt8} : ∀ (r : List UInt8) (i : Nat), (∀ b ∈ r, isPr b) → (∀ j b, r[j]? = some b → l[i + j]? = some b) → psVal (nameρ l) (nameP i r.length) = r
  | [], _, _, _ => rfl
  | b :: r, i, hp, hl => by
    have hb := hp b (List.mem_cons_self ..)
    have h0 : l[i]? = some b := hl 0 b rfl
    show (Pc.byt (.fn 1 (.var i) (.lit 0))).val (nameρ l) ++ psVal (nameρ l) (nameP (i + 1) r.length) = b :: r
    rw [nameP_val r (i + 1) (fun b hb => hp b (List.mem_cons_of_mem _ hb)) fun j b' hj => by
      have := hl (j + 1) b' (by simpa using hj)
      rw [show i + 1 + j = i + (j + 1) by omega]
      exact this]
    have hv : (Pc.byt (.fn 1 (.var i) (.lit 0))).val (nameρ l) = [b] := by
      show [UInt8.ofNat (fnVal 1 (nameρ l i) 0).toNat] = [b]
      have h1 : nameρ l i = ((b.toNat - 32 : Nat) : Int) := by simp only [nameρ, h0]
      rw [h1]
      have h2 : (fnVal 1 ((b.toNat - 32 : Nat) : Int) 0).toNat = b.toNat := by
        show (((32 + ((b.toNat - 32 : Nat) : Int).toNat % 95 : Nat) : Int)).toNat = b.toNat
        have := hb.1
        have := hb.2
        omega
      rw [h2, UInt8.ofNat_toNat]
    rw [hv]
    rfl
theorem isD_name {l : List UInt8} {δ : Nat → D} (hp : ∀ b ∈ l, isPr b) : IsD (nameρ l) δ (.pstr (nameP 0 l.length)) (.v (.string ⟨l.toArray⟩)) := by
  have h := IsD.pstr (ρ := nameρ l) (δ := δ) (nameP 0 l.length)
  rw [nameP_val l 0 hp fun j b hj => by simpa using hj] at h
  exact h
noncomputable def rightB (n : Nat) : Bool := retD theProg (.bool true) ((ev theProg (ctrL theProg []) 100000).call 152 [.pstr (nameP 0 (n + 1))] (startD 64 nsTabs [] []))
set_option maxRecDepth 100000 in
theorem right_all : allTo rightB 60 = true := by kernel_rfl
/-- What came in is a name. -/
theorem rightD {l : List UInt8} (h0 : 1 ≤ l.length) (h1 : l.length ≤ 60) (hp : ∀ b ∈ l, isPr b) : FunD nsTabs 152 [.c (.v (.string ⟨l.toArray⟩))] (.c (.v (.bool true))) := by
  have h := allTo_ok right_all (l.length - 1) (by omega)
  unfold rightB at h
  rw [show l.length - 1 + 1 = l.length by omega] at h
  exact funD_run (ρ := nameρ l) (δ := fun _ => default) (fl := []) (n := 100000) (c := 64) (fs := []) (ds := []) ns_mix ns_names (by decide) h (fun _ h => by cases h) (fun _ h => by cases h) (.cons (.c (isD_name hp)) .nil) (.c (.bool true))
/-- A row of data, cell by cell. -/
noncomputable def rowDefs (T te k : Nat) : Nat → List AV → List Def
  | _, [] => []
  | i, x :: r => ⟨opBase + 2, [T], [.opq k, .int .i64 (i : Int)], .optr k (.lit (i : Int)) 0⟩ :: ⟨opBase + 1, [te], [.optr k (.lit (i : Int)) 0], x⟩ :: rowDefs T te k (i + 1) r
noncomputable def rowD (T te k : Nat) (l : List AV) : List Def := ⟨opBase + 9, [T], [.opq k], .int .i64 (l.length : Int)⟩ :: rowDefs T te k 0 l
section
variable {ρ : Nat → Int} {δ : Nat → D}
theorem rowDefs_ok {T te k n : Nat} {ds : List D} (hT : sliceT theProg T 1 = true) (ht : aggT theProg te false 1 = true) (hd : δ k = .sl n ds) (hn : ds.length = n) : ∀ (l : List AV) (i : Nat), IsDL ρ δ l (ds.drop i) → ∀ d ∈ rowDefs T te k i l, DefOk nsTabs ρ δ d
  | [], _, _ => fun d hm => by cases hm
  | x :: r, i, h => by
    have hlt : i < ds.length := by
      have := isDL_len h
      rw [List.length_drop, List.length_cons] at this
      omega
    rw [List.drop_eq_getElem_cons hlt] at h
    cases h with
    | cons hx hr =>
      intro d hm
      rcases List.mem_cons.1 hm with rfl | hm
      · exact indexAddr_def (n := n) (l := ds) (e := .lit (i : Int)) (q := .i64) hT hd (by omega) (.int _ _) (by show (0 : Int) ≤ (i : Int); omega) (by show (i : Int) < (n : Int); omega)
      rcases List.mem_cons.1 hm with rfl | hm
      · refine load_def (n := n) (z := 1) (l := ds) (g := false) (cs := [x]) (N := i) ht hd (by omega) rfl ?_ rfl
        rw [Nat.mul_one, Nat.add_zero, List.drop_eq_getElem_cons hlt]
        exact .cons hx .nil
      · exact rowDefs_ok hT ht hd hn r (i + 1) hr d hm
theorem rowD_ok {T te k n : Nat} {ds : List D} {l : List AV} (hT : sliceT theProg T 1 = true) (ht : aggT theProg te false 1 = true) (hd : δ k = .sl n ds) (hn : ds.length = n) (h : IsDL ρ δ l ds) : ∀ d ∈ rowD T te k l, DefOk nsTabs ρ δ d := by
  intro d hm
  rcases List.mem_cons.1 hm with rfl | hm
  · have hl : l.length = n := by rw [← hn, isDL_len h]
    rw [hl]
    exact len_def hT hd (.int _ _)
  · exact rowDefs_ok hT ht hd hn l 0 h d hm
end
/-- The request for its atom. -/
noncomputable def packB (n : Nat) : Bool := retD theProg (.int .i64 0) ((ev theProg (ctrL theProg []) 100000).call 19 [.agg [.int .i64 11, .opq 0, .pstr (nameP 0 (n + 1)), .nilslice]] (startD 64 nsTabs [] (rowD 22 2 0 [.int .i64 0])))
end Ev
end Go.Proofs.YtnjpdipombnigaaGreatDoor
