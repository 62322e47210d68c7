/- The law TopBroadMerges of the given program returns true for every input, and each argument reads behind the call as it read before. Conditions: the package-level variables that the row lists are laid as the program's text lays them (the card ties them). -/
import Derived.Test.YtbhppbeepmllaaaGreatDoorWZbMergesc2b10377
set_option linter.unusedVariables false
set_option linter.unusedSimpArgs false
set_option maxRecDepth 100000
set_option maxHeartbeats 2000000
namespace Go.Proofs.YtbhppbeepmllaaaGreatDoor
open Go.ChangeShapes Go.WideShapes Go.ChangeAt Go.RowKit

theorem topBroadMerges_holds : Rows.TopBroadMergesCardSaid :=
 Claim7.holds_tied_plain_at .later [] [.data, .data, .data, .data, .sentinel, .sentinel, .pinned] true (true, "277f8f4f4b7aaf69cd3523ca2e12eca3adaf17347f36da05452feb3abc053bbb") true topBroadMerges_row (fun _ h => by cases h) (by kernel_rfl) (fun _ h => by cases h) topBroadMerges_row_tie rfl ⟨rfl, rfl⟩ (by kernel_rfl) rfl
  (fun f fn hf hfn => by
   obtain rfl : f = 6 := Option.some.inj ((show Tryz.prog.funcNamed "gauger/gaugertop.TopBroadMerges" = some 6 by kernel_rfl).symm.trans hf) |>.symm
   obtain rfl : fn = Tryz.f6 := (Option.some.inj (Tryz.func6.symm.trans hfn)).symm
   exact ⟨by kernel_rfl, fun j t ht => by
    rw [Tryz.params6] at ht
    have hm : t ∈ [24, 25, 3] := by simpa using Array.mem_of_getElem? ht
    have hall : ([24, 25, 3].all fun u => !Tryz.prog.wantsStandIn u) = true := by kernel_rfl
    exact (show Tryz.prog.wantsStandIn t = false by simpa using List.all_eq_true.1 hall t hm)⟩)
  (by kernel_rfl)
#print axioms topBroadMerges_holds
end Go.Proofs.YtbhppbeepmllaaaGreatDoor
