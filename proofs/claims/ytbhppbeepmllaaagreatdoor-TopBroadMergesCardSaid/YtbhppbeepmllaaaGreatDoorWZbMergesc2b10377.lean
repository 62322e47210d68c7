/- The row of TopBroadMerges. -/
import Derived.Test.YtbhppbeepmllaaaGreatDoorWZaMergesd259a1cd
import Derived.Test.YtbhppbeepmllaaaGreatDoorWYMerges37a33e000
set_option linter.unusedVariables false
set_option linter.unusedSimpArgs false
set_option maxRecDepth 100000
set_option maxHeartbeats 2000000
namespace Go.Proofs.YtbhppbeepmllaaaGreatDoor
open Go.ChangeShapes Go.WideShapes Go.ChangeAt Go.RowKit

theorem topBroadMerges_row : Rows.TopBroadMergesSaid :=
 OpenClaim.holds_of_wide 6 Tryz.f6 rfl rfl rfl rfl rfl rfl rfl ⟨rfl, rfl, rfl, rfl, rfl⟩ rfl rfl rfl rfl rfl (by kernel_rfl) Tryz.func6 jfMerges
  (of_decide_eq_true (by kernel_rfl)) (by unfold Func.isWrapper; first | (rw [if_pos (by decide +kernel)]; kernel_rfl) | (rw [if_neg (by decide +kernel)]; exact ⟨rfl, rfl⟩))
  (fun os started H enc _ => topBroadMerges_lifted os started H enc)

end Go.Proofs.YtbhppbeepmllaaaGreatDoor
