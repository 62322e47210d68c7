/- A closed fact of the program: it may be entered. -/
import Derived.Test.YtbhppbeepmllaaaGreatDoorRows
import Derived.KernelRfl
import Derived.JoinedOf
set_option linter.unusedVariables false
set_option linter.unusedSimpArgs false
set_option maxRecDepth 100000
set_option maxHeartbeats 2000000
namespace Go.Proofs.YtbhppbeepmllaaaGreatDoor
theorem pf_enter : (Tryz.prog.mayEnter) = true := by kernel_rfl
end Go.Proofs.YtbhppbeepmllaaaGreatDoor
