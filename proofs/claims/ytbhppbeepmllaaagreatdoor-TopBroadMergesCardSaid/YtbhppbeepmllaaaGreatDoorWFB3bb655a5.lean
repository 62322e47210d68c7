/- Closed facts of the program: its keys, its lifts, its make, its stops. -/
import Derived.Test.YtbhppbeepmllaaaGreatDoorRows
import Derived.KernelRfl
import Derived.JoinedOf
set_option linter.unusedVariables false
set_option linter.unusedSimpArgs false
set_option maxRecDepth 100000
set_option maxHeartbeats 2000000
namespace Go.Proofs.YtbhppbeepmllaaaGreatDoor
theorem pf_plain : (Tryz.prog.plainKeys == Rows.topBroadQuantileRow.plainKeys) = true := by kernel_rfl
theorem pf_heard : (Tryz.prog.stopsHeard) = true := by kernel_rfl
theorem pf_lifts : (Tryz.prog.liftsFinal == Rows.topBroadQuantileRow.lifted) = true := by kernel_rfl
theorem pf_make : (Tryz.prog.make == some Rows.topBroadQuantileRow.make) = true := by kernel_rfl
end Go.Proofs.YtbhppbeepmllaaaGreatDoor
