/- Closed facts of the row TopBroadMedian. -/
import Derived.Test.YtbhppbeepmllaaaGreatDoorRows
import Derived.KernelRfl
import Derived.JoinedOf
set_option linter.unusedVariables false
set_option linter.unusedSimpArgs false
set_option maxRecDepth 100000
set_option maxHeartbeats 2000000
namespace Go.Proofs.YtbhppbeepmllaaaGreatDoor
theorem jfMedian_9 : ((Rows.topBroadMedianRow.inPlace == Tryz.prog.inPlace 8)) = true := by kernel_rfl
theorem jfMedian_10 : ((Rows.topBroadMedianRow.unfollowed == Tryz.prog.unfollowed 8)) = true := by kernel_rfl
end Go.Proofs.YtbhppbeepmllaaaGreatDoor
