/-
  NamesRound: the tie: what the tables read as; no place twice.
-/
import Derived.Test.YtnjpdipombnigaaGreatDoorRows
import Derived.LaidByTextLater
import Derived.SevenTiedAt
namespace Go.Proofs.YtnjpdipombnigaaGreatDoor
open Go
theorem ns_t_1 (os : Os) (tape : Tape) : (DataW.laidRun Tryz.prog (varsWorld Tryz.prog 400 (varsId Tryz.prog) os tape).memory 8 (Rows.namesRoundRow.laid.map (·.1))).map (·.1) = some Rows.namesRoundRow.laid := by kernel_rfl
/-- Is that block among these? -/
def amongB (b : Nat) : List Nat → Bool
  | [] => false
  | x :: r => match Nat.beq b x with
    | true => true
    | false => amongB b r
theorem amongB_not {b : Nat} : ∀ {l : List Nat}, amongB b l = false → b ∉ l
  | [], _ => by simp
  | x :: r, h => by
    unfold amongB at h
    split at h
    · cases h
    · rename_i hb
      have hne : b ≠ x := fun e => by
        subst e
        rw [show Nat.beq b b = true from Nat.beq_refl b] at hb
        cases hb
      simp only [List.mem_cons, not_or]
      exact ⟨hne, amongB_not h⟩
/-- Places, block by block, each rising; b: the block that is gone through, with those ahead of it. -/
def rowsRise (seen : List Nat) (b lo : Nat) : List MemPlace → Bool
  | [] => true
  | .cell b' off :: r => match Nat.beq b' b with
    | true => Nat.ble lo off && rowsRise seen b (off + 1) r
    | false => !amongB b' seen && rowsRise (b' :: seen) b' (off + 1) r
  | .map _ :: _ => false
theorem rowsRise_ok : ∀ {l : List MemPlace} {seen : List Nat} {b lo : Nat}, b ∈ seen → rowsRise seen b lo l = true → l.Nodup ∧ ∀ p ∈ l, ∃ b' off, p = .cell b' off ∧ (b' ∉ seen ∨ (b' = b ∧ lo ≤ off))
  | [], _, _, _, _, _ => ⟨List.nodup_nil, fun p hp => by cases hp⟩
  | .cell b' off :: r, seen, b, lo, hin, h => by
    unfold rowsRise at h
    split at h
    · rename_i hb
      have hb := Nat.eq_of_beq_eq_true hb
      subst hb
      rw [Bool.and_eq_true] at h
      obtain ⟨h1, h2⟩ := h
      have h1 := Nat.le_of_ble_eq_true h1
      obtain ⟨k1, k2⟩ := rowsRise_ok hin h2
      have hn : MemPlace.cell b' off ∉ r := fun hm => by
        obtain ⟨b2, o2, e, h3⟩ := k2 _ hm
        cases e
        rcases h3 with h3 | ⟨_, h3⟩
        · exact h3 hin
        · omega
      refine ⟨List.nodup_cons.2 ⟨hn, k1⟩, fun p hp => ?_⟩
      rcases List.mem_cons.1 hp with rfl | hp
      · exact ⟨b', off, rfl, .inr ⟨rfl, h1⟩⟩
      · obtain ⟨b2, o2, e, h3⟩ := k2 _ hp
        exact ⟨b2, o2, e, h3.imp id fun ⟨h4, h5⟩ => ⟨h4, by omega⟩⟩
    · rw [Bool.and_eq_true] at h
      obtain ⟨h1, h2⟩ := h
      have h1 : amongB b' seen = false := by simpa using h1
      have h1 := amongB_not h1
      obtain ⟨k1, k2⟩ := rowsRise_ok (List.mem_cons_self ..) h2
      have hn : MemPlace.cell b' off ∉ r := fun hm => by
        obtain ⟨b2, o2, e, h3⟩ := k2 _ hm
        cases e
        rcases h3 with h3 | ⟨_, h3⟩
        · exact h3 (List.mem_cons_self ..)
        · omega
      refine ⟨List.nodup_cons.2 ⟨hn, k1⟩, fun p hp => ?_⟩
      rcases List.mem_cons.1 hp with rfl | hp
      · exact ⟨b', off, rfl, .inl h1⟩
      · obtain ⟨b2, o2, e, h3⟩ := k2 _ hp
        refine ⟨b2, o2, e, .inl fun hm => ?_⟩
        rcases h3 with h3 | ⟨h4, _⟩
        · exact h3 (List.mem_cons_of_mem _ hm)
        · subst h4
          exact h1 hm
  | .map _ :: _, _, _, _, _, h => by cases h
theorem ns_t_2a (os : Os) (tape : Tape) : (DataW.laidRun Tryz.prog (varsWorld Tryz.prog 400 (varsId Tryz.prog) os tape).memory 8 (Rows.namesRoundRow.laid.map (·.1))).map (fun x => rowsRise [1000000] 1000000 0 x.2) = some true := by kernel_rfl
end Go.Proofs.YtnjpdipombnigaaGreatDoor
