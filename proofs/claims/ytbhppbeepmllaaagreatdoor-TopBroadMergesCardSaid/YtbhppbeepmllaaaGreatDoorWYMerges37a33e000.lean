/- All closed facts of the row TopBroadMerges. -/
import Derived.Test.YtbhppbeepmllaaaGreatDoorWFA1c15784a
import Derived.Test.YtbhppbeepmllaaaGreatDoorWFB3bb655a5
import Derived.Test.YtbhppbeepmllaaaGreatDoorWFCec14a281
import Derived.Test.YtbhppbeepmllaaaGreatDoorWYMerges177f48477
import Derived.Test.YtbhppbeepmllaaaGreatDoorWYMerges22d473b80
import Derived.Test.YtbhppbeepmllaaaGreatDoorRows
import Derived.KernelRfl
import Derived.JoinedOf
set_option linter.unusedVariables false
set_option linter.unusedSimpArgs false
set_option maxRecDepth 100000
set_option maxHeartbeats 2000000
namespace Go.Proofs.YtbhppbeepmllaaaGreatDoor
theorem jfMerges_0 : (Rows.topBroadMergesRow.wf (OpenSpec.ofChange Rows.topBroadMergesSpec)) = true := by kernel_rfl
theorem jfMerges_3 : (Tryz.f6.params.all (Tryz.prog.readableRec ·)) = true := by kernel_rfl
theorem jfMerges_4 : (namedTie Tryz.prog Rows.topBroadMergesRow.named Rows.topBroadMergesSpec.vars) = true := by kernel_rfl
theorem jfMerges_5 : ((Rows.topBroadMergesRow.stops == [])) = true := by kernel_rfl
theorem jfMerges_6 : ((Tryz.prog.stops == [])) = true := by kernel_rfl
theorem jfMerges_7 : ((Rows.topBroadMergesRow.knobs == [])) = true := by kernel_rfl
theorem jfMerges_8 : ((Tryz.prog.stopKnobs == [])) = true := by kernel_rfl
theorem jfMerges_13 : ((Rows.topBroadMergesRow.maps == (Tryz.f6.params.toList ++ Rows.topBroadMergesSpec.plain.varTypes Tryz.prog).any (Tryz.prog.mapsRec ·))) = true := by kernel_rfl
theorem jfMerges_14 : ((Rows.topBroadMergesRow.ifaces == (Tryz.f6.params.toList ++ Rows.topBroadMergesSpec.plain.varTypes Tryz.prog).any (Tryz.prog.ifacesRec ·))) = true := by kernel_rfl
theorem jfMerges_15 : ((Rows.topBroadMergesRow.mapsOut == Tryz.prog.mapsAmong Tryz.f6.resultTypes.toList)) = true := by kernel_rfl
theorem jfMerges_16 : ((Rows.topBroadMergesRow.loops == (Tryz.f6.params.toList ++ Rows.topBroadMergesSpec.plain.varTypes Tryz.prog).any (Tryz.prog.loopsFrom ·))) = true := by kernel_rfl
theorem jfMerges_17 : ((Rows.topBroadMergesRow.wideKeys == (Tryz.f6.params.toList ++ Rows.topBroadMergesSpec.plain.varTypes Tryz.prog ++ Tryz.f6.resultTypes.toList).any (Tryz.prog.wideKeysFrom ·))) = true := by kernel_rfl
theorem jfMerges_18 : (Rows.topBroadMergesSpec.vars.all (Tryz.prog.varReadable ·)) = true := by kernel_rfl
theorem jfMerges_19 : (Tryz.f6.resultTypes.all (fun t => Tryz.prog.readableRec t && decide (t < Tryz.prog.types.size))) = true := by kernel_rfl
theorem jfMerges_20 : ((Rows.topBroadMergesRow.ifacesOut == Tryz.f6.resultTypes.toList.any (Tryz.prog.ifacesRec ·))) = true := by kernel_rfl
theorem jfMerges_21 : ((Rows.topBroadMergesRow.loopsOut == Tryz.f6.resultTypes.toList.any (Tryz.prog.loopsFrom ·))) = true := by kernel_rfl
theorem jfMerges_23 : (Rows.topBroadMergesRow.shortTexts.isNone) = true := by kernel_rfl
theorem jfMerges_29 : ((Rows.topBroadMergesRow.pinned == Rows.topBroadMergesRow.pinnedBy)) = true := by kernel_rfl
theorem jfMerges_30 : ((Rows.topBroadMergesRow.veiled == (Tryz.f6.params.toList ++ Rows.topBroadMergesSpec.plain.varTypes Tryz.prog ++ Tryz.f6.resultTypes.toList).any (Tryz.prog.veiledRec ·))) = true := by kernel_rfl
theorem jfMerges_31 : (Rows.topBroadMergesRow.veiledFits Tryz.prog Tryz.f6.params.toList (Tryz.f6.params.toList ++ Rows.topBroadMergesSpec.plain.varTypes Tryz.prog ++ Tryz.f6.resultTypes.toList)) = true := by kernel_rfl
theorem jfMerges_1 : (laidOutB Tryz.prog) = true := laidOut
theorem jfMerges_2 : (mapsRowed Tryz.prog) = true := pf_maps
theorem jfMerges_22 : ((Rows.topBroadMergesRow.plainKeys == Tryz.prog.plainKeys)) = true := by rw [show Tryz.prog.plainKeys = Rows.topBroadQuantileRow.plainKeys from eq_of_beq pf_plain]; rfl
theorem jfMerges_24 : (Tryz.prog.stopsHeard) = true := pf_heard
theorem jfMerges_25 : (Tryz.prog.mayEnter) = true := pf_enter
theorem jfMerges_26 : ((Rows.topBroadMergesRow.lifted == Tryz.prog.liftsFinal)) = true := by rw [show Tryz.prog.liftsFinal = Rows.topBroadQuantileRow.lifted from eq_of_beq pf_lifts]; rfl
theorem jfMerges_27 : ((Tryz.prog.make == some Rows.topBroadMergesRow.make)) = true := by rw [show Tryz.prog.make = some Rows.topBroadQuantileRow.make from eq_of_beq pf_make]; rfl
theorem jfMerges : joinedFacts Tryz.prog 6 Tryz.f6 Rows.topBroadMergesSpec Rows.topBroadMergesRow = true := by
 unfold joinedFacts
 rw [jfMerges_0, jfMerges_1, jfMerges_2, jfMerges_3, jfMerges_4, jfMerges_5, jfMerges_6, jfMerges_7, jfMerges_8, jfMerges_9, jfMerges_10, jfMerges_11, jfMerges_12, jfMerges_13, jfMerges_14, jfMerges_15, jfMerges_16, jfMerges_17, jfMerges_18, jfMerges_19, jfMerges_20, jfMerges_21, jfMerges_22, jfMerges_23, jfMerges_24, jfMerges_25, jfMerges_26, jfMerges_27, jfMerges_29, jfMerges_30, jfMerges_31]
 kernel_rfl
end Go.Proofs.YtbhppbeepmllaaaGreatDoor
