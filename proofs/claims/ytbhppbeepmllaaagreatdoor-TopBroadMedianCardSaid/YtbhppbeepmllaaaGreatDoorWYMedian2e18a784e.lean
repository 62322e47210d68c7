/- Closed facts of the row TopBroadMedian. -/
import Derived.Test.YtbhppbeepmllaaaGreatDoorRows
import Derived.KernelRfl
import Derived.JoinedOf
set_option linter.unusedVariables false
set_option linter.unusedSimpArgs false
set_option maxRecDepth 100000
set_option maxHeartbeats 2000000
namespace Go.Proofs.YtbhppbeepmllaaaGreatDoor
theorem jfMedian_11 : ((Rows.topBroadMedianRow.recurses == Tryz.prog.recurses 8)) = true := by kernel_rfl
theorem jfMedian_12 : ((Rows.topBroadMedianRow.named == Tryz.prog.varsNamed 8)) = true := by kernel_rfl
end Go.Proofs.YtbhppbeepmllaaaGreatDoor
