/-
  HandsGranted: the tie.
-/
import Derived.Test.YtanapnlfdoebdaaGreatDoorHgTa
import Derived.Test.YtanapnlfdoebdaaGreatDoorHgTd
namespace Go.Proofs.YtanapnlfdoebdaaGreatDoor
open Go
theorem hg_t_2b (os : Os) (tape : Tape) : (DataW.laidRun Tryz.prog (varsWorld Tryz.prog 400 (varsId Tryz.prog) os tape).memory 8 (Rows.handsGrantedRow.laid.map (·.1))).map (fun x => laidRowsB Tryz.prog (varsWorld Tryz.prog 400 (varsId Tryz.prog) os tape).memory x.2) = some true := by kernel_rfl
theorem and_map {α : Type} {R : Option α} {f g h : α → Bool} (hfg : ∀ x, f x = true → g x = true) (ha : R.map f = some true) (hb : R.map h = some true) : R.map (fun x => g x && h x) = some true := by
  cases R with
  | none => cases ha
  | some x =>
    simp only [Option.map_some, Option.some.injEq] at ha hb ⊢
    rw [hfg x ha, hb]
    rfl
theorem hg_tie : Tryz.prog.laidByTextLater Rows.handsGrantedRow.laid [.data, .data, .data, .listed, .data, .data, .data, .data, .data, .data] true :=
  Program.laidByTextLater_by_run 400 8 hg_t_w hg_t_w2 hg_t_root hg_t_k hg_t_g hg_t_n hg_t_d hg_t_1 (fun os tape => and_map (fun _ hx => decide_eq_true (rowsRise_ok (List.mem_cons_self ..) hx).1) (hg_t_2a os tape) (hg_t_2b os tape)) hg_t_p
theorem hg_row_tie : Rows.handsGrantedRow.laidByTextAt .later Tryz.pinned [.data, .data, .data, .listed, .data, .data, .data, .data, .data, .data] true :=
  OpenClaim.laidByTextAt_later rfl rfl hg_tie hg_noOwnUnsafe
end Go.Proofs.YtanapnlfdoebdaaGreatDoor
