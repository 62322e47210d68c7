/- Closed facts of the program: its types are laid out, its maps are rowed. -/
import Derived.Test.YtbhppbeepmllaaaGreatDoorRows
import Derived.KernelRfl
import Derived.JoinedOf
set_option linter.unusedVariables false
set_option linter.unusedSimpArgs false
set_option maxRecDepth 100000
set_option maxHeartbeats 2000000
namespace Go.Proofs.YtbhppbeepmllaaaGreatDoor
theorem laidOut : (laidOutB Tryz.prog) = true := by kernel_rfl
theorem pf_maps : (mapsRowed Tryz.prog) = true := by kernel_rfl
end Go.Proofs.YtbhppbeepmllaaaGreatDoor
