/-
  NamesRound: the tie.
-/
import Derived.Test.YtnjpdipombnigaaGreatDoorNsTa
import Derived.Test.YtnjpdipombnigaaGreatDoorNsTd
namespace Go.Proofs.YtnjpdipombnigaaGreatDoor
open Go
theorem ns_t_2b (os : Os) (tape : Tape) : (DataW.laidRun Tryz.prog (varsWorld Tryz.prog 400 (varsId Tryz.prog) os tape).memory 8 (Rows.namesRoundRow.laid.map (·.1))).map (fun x => laidRowsB Tryz.prog (varsWorld Tryz.prog 400 (varsId Tryz.prog) os tape).memory x.2) = some true := by kernel_rfl
theorem and_map {α : Type} {R : Option α} {f g h : α → Bool} (hfg : ∀ x, f x = true → g x = true) (ha : R.map f = some true) (hb : R.map h = some true) : R.map (fun x => g x && h x) = some true := by
  cases R with
  | none => cases ha
  | some x =>
    simp only [Option.map_some, Option.some.injEq] at ha hb ⊢
    rw [hfg x ha, hb]
    rfl
theorem ns_tie : Tryz.prog.laidByTextLater Rows.namesRoundRow.laid [.data, .data, .data, .listed, .data, .data] true :=
  Program.laidByTextLater_by_run 400 8 ns_t_w ns_t_w2 ns_t_root ns_t_k ns_t_g ns_t_n ns_t_d ns_t_1 (fun os tape => (and_map (fun _ hx => decide_eq_true (rowsRise_ok (List.mem_cons_self ..) hx).1) (ns_t_2a os tape) (ns_t_2b os tape))) ns_t_p
theorem ns_row_tie : Rows.namesRoundRow.laidByTextAt .later Tryz.pinned [.data, .data, .data, .listed, .data, .data] true :=
  OpenClaim.laidByTextAt_later rfl rfl ns_tie ns_noOwnUnsafe
end Go.Proofs.YtnjpdipombnigaaGreatDoor
