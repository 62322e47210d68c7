/- Closed facts of the row TopBroadMerges. -/
import Derived.Test.YtbhppbeepmllaaaGreatDoorRows
import Derived.KernelRfl
import Derived.JoinedOf
set_option linter.unusedVariables false
set_option linter.unusedSimpArgs false
set_option maxRecDepth 100000
set_option maxHeartbeats 2000000
namespace Go.Proofs.YtbhppbeepmllaaaGreatDoor
theorem jfMerges_11 : ((Rows.topBroadMergesRow.recurses == Tryz.prog.recurses 6)) = true := by kernel_rfl
theorem jfMerges_12 : ((Rows.topBroadMergesRow.named == Tryz.prog.varsNamed 6)) = true := by kernel_rfl
end Go.Proofs.YtbhppbeepmllaaaGreatDoor
