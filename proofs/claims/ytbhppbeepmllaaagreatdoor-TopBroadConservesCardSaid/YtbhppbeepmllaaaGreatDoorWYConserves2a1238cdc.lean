/- Closed facts of the row TopBroadConserves. -/
import Derived.Test.YtbhppbeepmllaaaGreatDoorRows
import Derived.KernelRfl
import Derived.JoinedOf
set_option linter.unusedVariables false
set_option linter.unusedSimpArgs false
set_option maxRecDepth 100000
set_option maxHeartbeats 2000000
namespace Go.Proofs.YtbhppbeepmllaaaGreatDoor
theorem jfConserves_11 : ((Rows.topBroadConservesRow.recurses == Tryz.prog.recurses 7)) = true := by kernel_rfl
theorem jfConserves_12 : ((Rows.topBroadConservesRow.named == Tryz.prog.varsNamed 7)) = true := by kernel_rfl
end Go.Proofs.YtbhppbeepmllaaaGreatDoor
