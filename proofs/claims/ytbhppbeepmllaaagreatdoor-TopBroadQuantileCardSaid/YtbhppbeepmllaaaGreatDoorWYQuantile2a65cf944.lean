/- Closed facts of the row TopBroadQuantile. -/
import Derived.Test.YtbhppbeepmllaaaGreatDoorRows
import Derived.KernelRfl
import Derived.JoinedOf
set_option linter.unusedVariables false
set_option linter.unusedSimpArgs false
set_option maxRecDepth 100000
set_option maxHeartbeats 2000000
namespace Go.Proofs.YtbhppbeepmllaaaGreatDoor
theorem jfQuantile_11 : ((Rows.topBroadQuantileRow.recurses == Tryz.prog.recurses 5)) = true := by kernel_rfl
theorem jfQuantile_12 : ((Rows.topBroadQuantileRow.named == Tryz.prog.varsNamed 5)) = true := by kernel_rfl
end Go.Proofs.YtbhppbeepmllaaaGreatDoor
