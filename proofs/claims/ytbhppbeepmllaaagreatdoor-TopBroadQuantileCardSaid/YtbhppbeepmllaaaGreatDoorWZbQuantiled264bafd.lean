/- The row of TopBroadQuantile. -/
import Derived.Test.YtbhppbeepmllaaaGreatDoorWZaQuantile73ef49e8
import Derived.Test.YtbhppbeepmllaaaGreatDoorWYQuantile3b1908efc
set_option linter.unusedVariables false
set_option linter.unusedSimpArgs false
set_option maxRecDepth 100000
set_option maxHeartbeats 2000000
namespace Go.Proofs.YtbhppbeepmllaaaGreatDoor
open Go.ChangeShapes Go.WideShapes Go.ChangeAt Go.RowKit

theorem topBroadQuantile_row : Rows.TopBroadQuantileSaid :=
 OpenClaim.holds_of_wide 5 Tryz.f5 rfl rfl rfl rfl rfl rfl rfl ⟨rfl, rfl, rfl, rfl, rfl⟩ rfl rfl rfl rfl rfl (by kernel_rfl) Tryz.func5 jfQuantile
  (of_decide_eq_true (by kernel_rfl)) (by unfold Func.isWrapper; first | (rw [if_pos (by decide +kernel)]; kernel_rfl) | (rw [if_neg (by decide +kernel)]; exact ⟨rfl, rfl⟩))
  (fun os started H enc _ => topBroadQuantile_lifted os started H enc)

end Go.Proofs.YtbhppbeepmllaaaGreatDoor
