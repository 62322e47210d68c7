/- The row of TopBroadConserves. -/
import Derived.Test.YtbhppbeepmllaaaGreatDoorWZaConserves7f3c1b3f
import Derived.Test.YtbhppbeepmllaaaGreatDoorWYConserves332e4dfc1
set_option linter.unusedVariables false
set_option linter.unusedSimpArgs false
set_option maxRecDepth 100000
set_option maxHeartbeats 2000000
namespace Go.Proofs.YtbhppbeepmllaaaGreatDoor
open Go.ChangeShapes Go.WideShapes Go.ChangeAt Go.RowKit

theorem topBroadConserves_row : Rows.TopBroadConservesSaid :=
 OpenClaim.holds_of_wide 7 Tryz.f7 rfl rfl rfl rfl rfl rfl rfl ⟨rfl, rfl, rfl, rfl, rfl⟩ rfl rfl rfl rfl rfl (by kernel_rfl) Tryz.func7 jfConserves
  (of_decide_eq_true (by kernel_rfl)) (by unfold Func.isWrapper; first | (rw [if_pos (by decide +kernel)]; kernel_rfl) | (rw [if_neg (by decide +kernel)]; exact ⟨rfl, rfl⟩))
  (fun os started H enc _ => topBroadConserves_lifted os started H enc)

end Go.Proofs.YtbhppbeepmllaaaGreatDoor
