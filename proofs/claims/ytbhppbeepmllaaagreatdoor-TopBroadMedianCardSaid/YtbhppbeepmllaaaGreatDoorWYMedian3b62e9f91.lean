/- All closed facts of the row TopBroadMedian. -/
import Derived.Test.YtbhppbeepmllaaaGreatDoorWFA1c15784a
import Derived.Test.YtbhppbeepmllaaaGreatDoorWFB3bb655a5
import Derived.Test.YtbhppbeepmllaaaGreatDoorWFCec14a281
import Derived.Test.YtbhppbeepmllaaaGreatDoorWYMedian1636348be
import Derived.Test.YtbhppbeepmllaaaGreatDoorWYMedian2e18a784e
import Derived.Test.YtbhppbeepmllaaaGreatDoorRows
import Derived.KernelRfl
import Derived.JoinedOf
set_option linter.unusedVariables false
set_option linter.unusedSimpArgs false
set_option maxRecDepth 100000
set_option maxHeartbeats 2000000
namespace Go.Proofs.YtbhppbeepmllaaaGreatDoor
theorem jfMedian_0 : (Rows.topBroadMedianRow.wf (OpenSpec.ofChange Rows.topBroadMedianSpec)) = true := by kernel_rfl
theorem jfMedian_3 : (Tryz.f8.params.all (Tryz.prog.readableRec ·)) = true := by kernel_rfl
theorem jfMedian_4 : (namedTie Tryz.prog Rows.topBroadMedianRow.named Rows.topBroadMedianSpec.vars) = true := by kernel_rfl
theorem jfMedian_5 : ((Rows.topBroadMedianRow.stops == [])) = true := by kernel_rfl
theorem jfMedian_6 : ((Tryz.prog.stops == [])) = true := by kernel_rfl
theorem jfMedian_7 : ((Rows.topBroadMedianRow.knobs == [])) = true := by kernel_rfl
theorem jfMedian_8 : ((Tryz.prog.stopKnobs == [])) = true := by kernel_rfl
theorem jfMedian_13 : ((Rows.topBroadMedianRow.maps == (Tryz.f8.params.toList ++ Rows.topBroadMedianSpec.plain.varTypes Tryz.prog).any (Tryz.prog.mapsRec ·))) = true := by kernel_rfl
theorem jfMedian_14 : ((Rows.topBroadMedianRow.ifaces == (Tryz.f8.params.toList ++ Rows.topBroadMedianSpec.plain.varTypes Tryz.prog).any (Tryz.prog.ifacesRec ·))) = true := by kernel_rfl
theorem jfMedian_15 : ((Rows.topBroadMedianRow.mapsOut == Tryz.prog.mapsAmong Tryz.f8.resultTypes.toList)) = true := by kernel_rfl
theorem jfMedian_16 : ((Rows.topBroadMedianRow.loops == (Tryz.f8.params.toList ++ Rows.topBroadMedianSpec.plain.varTypes Tryz.prog).any (Tryz.prog.loopsFrom ·))) = true := by kernel_rfl
theorem jfMedian_17 : ((Rows.topBroadMedianRow.wideKeys == (Tryz.f8.params.toList ++ Rows.topBroadMedianSpec.plain.varTypes Tryz.prog ++ Tryz.f8.resultTypes.toList).any (Tryz.prog.wideKeysFrom ·))) = true := by kernel_rfl
theorem jfMedian_18 : (Rows.topBroadMedianSpec.vars.all (Tryz.prog.varReadable ·)) = true := by kernel_rfl
theorem jfMedian_19 : (Tryz.f8.resultTypes.all (fun t => Tryz.prog.readableRec t && decide (t < Tryz.prog.types.size))) = true := by kernel_rfl
theorem jfMedian_20 : ((Rows.topBroadMedianRow.ifacesOut == Tryz.f8.resultTypes.toList.any (Tryz.prog.ifacesRec ·))) = true := by kernel_rfl
theorem jfMedian_21 : ((Rows.topBroadMedianRow.loopsOut == Tryz.f8.resultTypes.toList.any (Tryz.prog.loopsFrom ·))) = true := by kernel_rfl
theorem jfMedian_23 : (Rows.topBroadMedianRow.shortTexts.isNone) = true := by kernel_rfl
theorem jfMedian_28 : ((Rows.topBroadMedianRow.kinds == (if Rows.topBroadMedianRow.domain.isEmpty then [] else Tryz.f8.params.toList.map fun t => match Tryz.prog.underlying t with | some (.int k) => some k | _ => none))) = true := by kernel_rfl
theorem jfMedian_29 : ((Rows.topBroadMedianRow.pinned == Rows.topBroadMedianRow.pinnedBy)) = true := by kernel_rfl
theorem jfMedian_30 : ((Rows.topBroadMedianRow.veiled == (Tryz.f8.params.toList ++ Rows.topBroadMedianSpec.plain.varTypes Tryz.prog ++ Tryz.f8.resultTypes.toList).any (Tryz.prog.veiledRec ·))) = true := by kernel_rfl
theorem jfMedian_31 : (Rows.topBroadMedianRow.veiledFits Tryz.prog Tryz.f8.params.toList (Tryz.f8.params.toList ++ Rows.topBroadMedianSpec.plain.varTypes Tryz.prog ++ Tryz.f8.resultTypes.toList)) = true := by kernel_rfl
theorem jfMedian_1 : (laidOutB Tryz.prog) = true := laidOut
theorem jfMedian_2 : (mapsRowed Tryz.prog) = true := pf_maps
theorem jfMedian_22 : ((Rows.topBroadMedianRow.plainKeys == Tryz.prog.plainKeys)) = true := by rw [show Tryz.prog.plainKeys = Rows.topBroadQuantileRow.plainKeys from eq_of_beq pf_plain]; rfl
theorem jfMedian_24 : (Tryz.prog.stopsHeard) = true := pf_heard
theorem jfMedian_25 : (Tryz.prog.mayEnter) = true := pf_enter
theorem jfMedian_26 : ((Rows.topBroadMedianRow.lifted == Tryz.prog.liftsFinal)) = true := by rw [show Tryz.prog.liftsFinal = Rows.topBroadQuantileRow.lifted from eq_of_beq pf_lifts]; rfl
theorem jfMedian_27 : ((Tryz.prog.make == some Rows.topBroadMedianRow.make)) = true := by rw [show Tryz.prog.make = some Rows.topBroadQuantileRow.make from eq_of_beq pf_make]; rfl
theorem jfMedian : joinedFacts Tryz.prog 8 Tryz.f8 Rows.topBroadMedianSpec Rows.topBroadMedianRow = true := by
 unfold joinedFacts
 rw [jfMedian_0, jfMedian_1, jfMedian_2, jfMedian_3, jfMedian_4, jfMedian_5, jfMedian_6, jfMedian_7, jfMedian_8, jfMedian_9, jfMedian_10, jfMedian_11, jfMedian_12, jfMedian_13, jfMedian_14, jfMedian_15, jfMedian_16, jfMedian_17, jfMedian_18, jfMedian_19, jfMedian_20, jfMedian_21, jfMedian_22, jfMedian_23, jfMedian_24, jfMedian_25, jfMedian_26, jfMedian_27, jfMedian_29, jfMedian_30, jfMedian_31]
 kernel_rfl
end Go.Proofs.YtbhppbeepmllaaaGreatDoor
