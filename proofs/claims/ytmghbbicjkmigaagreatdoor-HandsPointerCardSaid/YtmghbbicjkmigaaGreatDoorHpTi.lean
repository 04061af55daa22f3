/-
  HandsPointer: the tie.
-/
import Derived.Test.YtmghbbicjkmigaaGreatDoorHpTa
import Derived.Test.YtmghbbicjkmigaaGreatDoorHpTd
namespace Go.Proofs.YtmghbbicjkmigaaGreatDoor
open Go
theorem hp_t_2b (os : Os) (tape : Tape) : (DataW.laidRun Tryz.prog (varsWorld Tryz.prog 400 (varsId Tryz.prog) os tape).memory 8 (Rows.handsPointerRow.laid.map (·.1))).map (fun x => laidRowsB Tryz.prog (varsWorld Tryz.prog 400 (varsId Tryz.prog) os tape).memory x.2) = some true := by kernel_rfl
theorem and_map {α : Type} {R : Option α} {f g h : α → Bool} (hfg : ∀ x, f x = true → g x = true) (ha : R.map f = some true) (hb : R.map h = some true) : R.map (fun x => g x && h x) = some true := by
  cases R with
  | none => cases ha
  | some x =>
    simp only [Option.map_some, Option.some.injEq] at ha hb ⊢
    rw [hfg x ha, hb]
    rfl
theorem hp_tie : Tryz.prog.laidByTextLater Rows.handsPointerRow.laid [.data, .data, .data, .listed, .data, .data] true :=
  Program.laidByTextLater_by_run 400 8 hp_t_w hp_t_w2 hp_t_root hp_t_k hp_t_g hp_t_n hp_t_d hp_t_1 (fun os tape => (and_map (fun _ hx => decide_eq_true (rowsRise_ok (List.mem_cons_self ..) hx).1) (hp_t_2a os tape) (hp_t_2b os tape))) hp_t_p
theorem hp_row_tie : Rows.handsPointerRow.laidByTextAt .later Tryz.pinned [.data, .data, .data, .listed, .data, .data] true :=
  OpenClaim.laidByTextAt_later rfl rfl hp_tie hp_noOwnUnsafe
end Go.Proofs.YtmghbbicjkmigaaGreatDoor
