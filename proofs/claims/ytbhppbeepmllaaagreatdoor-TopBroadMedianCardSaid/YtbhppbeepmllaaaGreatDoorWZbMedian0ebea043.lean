/- The row of TopBroadMedian. -/
import Derived.Test.YtbhppbeepmllaaaGreatDoorWZaMedianeeeaa987
import Derived.Test.YtbhppbeepmllaaaGreatDoorWYMedian3b62e9f91
set_option linter.unusedVariables false
set_option linter.unusedSimpArgs false
set_option maxRecDepth 100000
set_option maxHeartbeats 2000000
namespace Go.Proofs.YtbhppbeepmllaaaGreatDoor
open Go.ChangeShapes Go.WideShapes Go.ChangeAt Go.RowKit

theorem topBroadMedian_row : Rows.TopBroadMedianSaid :=
 OpenClaim.holds_of_wide 8 Tryz.f8 rfl rfl rfl rfl rfl rfl rfl ⟨rfl, rfl, rfl, rfl, rfl⟩ rfl rfl rfl rfl rfl (by kernel_rfl) Tryz.func8 jfMedian
  (of_decide_eq_true (by kernel_rfl)) (by unfold Func.isWrapper; first | (rw [if_pos (by decide +kernel)]; kernel_rfl) | (rw [if_neg (by decide +kernel)]; exact ⟨rfl, rfl⟩))
  (fun os started H enc _ => topBroadMedian_lifted os started H enc)

end Go.Proofs.YtbhppbeepmllaaaGreatDoor
