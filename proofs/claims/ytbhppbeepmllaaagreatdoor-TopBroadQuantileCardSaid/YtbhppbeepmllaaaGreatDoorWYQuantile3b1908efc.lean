/- All closed facts of the row TopBroadQuantile. -/
import Derived.Test.YtbhppbeepmllaaaGreatDoorWFA1c15784a
import Derived.Test.YtbhppbeepmllaaaGreatDoorWFB3bb655a5
import Derived.Test.YtbhppbeepmllaaaGreatDoorWFCec14a281
import Derived.Test.YtbhppbeepmllaaaGreatDoorWYQuantile142d5c11d
import Derived.Test.YtbhppbeepmllaaaGreatDoorWYQuantile2a65cf944
import Derived.Test.YtbhppbeepmllaaaGreatDoorRows
import Derived.KernelRfl
import Derived.JoinedOf
set_option linter.unusedVariables false
set_option linter.unusedSimpArgs false
set_option maxRecDepth 100000
set_option maxHeartbeats 2000000
namespace Go.Proofs.YtbhppbeepmllaaaGreatDoor
theorem jfQuantile_0 : (Rows.topBroadQuantileRow.wf (OpenSpec.ofChange Rows.topBroadQuantileSpec)) = true := by kernel_rfl
theorem jfQuantile_3 : (Tryz.f5.params.all (Tryz.prog.readableRec ·)) = true := by kernel_rfl
theorem jfQuantile_4 : (namedTie Tryz.prog Rows.topBroadQuantileRow.named Rows.topBroadQuantileSpec.vars) = true := by kernel_rfl
theorem jfQuantile_5 : ((Rows.topBroadQuantileRow.stops == [])) = true := by kernel_rfl
theorem jfQuantile_6 : ((Tryz.prog.stops == [])) = true := by kernel_rfl
theorem jfQuantile_7 : ((Rows.topBroadQuantileRow.knobs == [])) = true := by kernel_rfl
theorem jfQuantile_8 : ((Tryz.prog.stopKnobs == [])) = true := by kernel_rfl
theorem jfQuantile_13 : ((Rows.topBroadQuantileRow.maps == (Tryz.f5.params.toList ++ Rows.topBroadQuantileSpec.plain.varTypes Tryz.prog).any (Tryz.prog.mapsRec ·))) = true := by kernel_rfl
theorem jfQuantile_14 : ((Rows.topBroadQuantileRow.ifaces == (Tryz.f5.params.toList ++ Rows.topBroadQuantileSpec.plain.varTypes Tryz.prog).any (Tryz.prog.ifacesRec ·))) = true := by kernel_rfl
theorem jfQuantile_15 : ((Rows.topBroadQuantileRow.mapsOut == Tryz.prog.mapsAmong Tryz.f5.resultTypes.toList)) = true := by kernel_rfl
theorem jfQuantile_16 : ((Rows.topBroadQuantileRow.loops == (Tryz.f5.params.toList ++ Rows.topBroadQuantileSpec.plain.varTypes Tryz.prog).any (Tryz.prog.loopsFrom ·))) = true := by kernel_rfl
theorem jfQuantile_17 : ((Rows.topBroadQuantileRow.wideKeys == (Tryz.f5.params.toList ++ Rows.topBroadQuantileSpec.plain.varTypes Tryz.prog ++ Tryz.f5.resultTypes.toList).any (Tryz.prog.wideKeysFrom ·))) = true := by kernel_rfl
theorem jfQuantile_18 : (Rows.topBroadQuantileSpec.vars.all (Tryz.prog.varReadable ·)) = true := by kernel_rfl
theorem jfQuantile_19 : (Tryz.f5.resultTypes.all (fun t => Tryz.prog.readableRec t && decide (t < Tryz.prog.types.size))) = true := by kernel_rfl
theorem jfQuantile_20 : ((Rows.topBroadQuantileRow.ifacesOut == Tryz.f5.resultTypes.toList.any (Tryz.prog.ifacesRec ·))) = true := by kernel_rfl
theorem jfQuantile_21 : ((Rows.topBroadQuantileRow.loopsOut == Tryz.f5.resultTypes.toList.any (Tryz.prog.loopsFrom ·))) = true := by kernel_rfl
theorem jfQuantile_23 : (Rows.topBroadQuantileRow.shortTexts.isNone) = true := by kernel_rfl
theorem jfQuantile_28 : ((Rows.topBroadQuantileRow.kinds == (if Rows.topBroadQuantileRow.domain.isEmpty then [] else Tryz.f5.params.toList.map fun t => match Tryz.prog.underlying t with | some (.int k) => some k | _ => none))) = true := by kernel_rfl
theorem jfQuantile_29 : ((Rows.topBroadQuantileRow.pinned == Rows.topBroadQuantileRow.pinnedBy)) = true := by kernel_rfl
theorem jfQuantile_30 : ((Rows.topBroadQuantileRow.veiled == (Tryz.f5.params.toList ++ Rows.topBroadQuantileSpec.plain.varTypes Tryz.prog ++ Tryz.f5.resultTypes.toList).any (Tryz.prog.veiledRec ·))) = true := by kernel_rfl
theorem jfQuantile_31 : (Rows.topBroadQuantileRow.veiledFits Tryz.prog Tryz.f5.params.toList (Tryz.f5.params.toList ++ Rows.topBroadQuantileSpec.plain.varTypes Tryz.prog ++ Tryz.f5.resultTypes.toList)) = true := by kernel_rfl
theorem jfQuantile_1 : (laidOutB Tryz.prog) = true := laidOut
theorem jfQuantile_2 : (mapsRowed Tryz.prog) = true := pf_maps
theorem jfQuantile_22 : ((Rows.topBroadQuantileRow.plainKeys == Tryz.prog.plainKeys)) = true := by rw [show Tryz.prog.plainKeys = Rows.topBroadQuantileRow.plainKeys from eq_of_beq pf_plain]; rfl
theorem jfQuantile_24 : (Tryz.prog.stopsHeard) = true := pf_heard
theorem jfQuantile_25 : (Tryz.prog.mayEnter) = true := pf_enter
theorem jfQuantile_26 : ((Rows.topBroadQuantileRow.lifted == Tryz.prog.liftsFinal)) = true := by rw [show Tryz.prog.liftsFinal = Rows.topBroadQuantileRow.lifted from eq_of_beq pf_lifts]; rfl
theorem jfQuantile_27 : ((Tryz.prog.make == some Rows.topBroadQuantileRow.make)) = true := by rw [show Tryz.prog.make = some Rows.topBroadQuantileRow.make from eq_of_beq pf_make]; rfl
theorem jfQuantile : joinedFacts Tryz.prog 5 Tryz.f5 Rows.topBroadQuantileSpec Rows.topBroadQuantileRow = true := by
 unfold joinedFacts
 rw [jfQuantile_0, jfQuantile_1, jfQuantile_2, jfQuantile_3, jfQuantile_4, jfQuantile_5, jfQuantile_6, jfQuantile_7, jfQuantile_8, jfQuantile_9, jfQuantile_10, jfQuantile_11, jfQuantile_12, jfQuantile_13, jfQuantile_14, jfQuantile_15, jfQuantile_16, jfQuantile_17, jfQuantile_18, jfQuantile_19, jfQuantile_20, jfQuantile_21, jfQuantile_22, jfQuantile_23, jfQuantile_24, jfQuantile_25, jfQuantile_26, jfQuantile_27, jfQuantile_29, jfQuantile_30, jfQuantile_31]
 kernel_rfl
end Go.Proofs.YtbhppbeepmllaaaGreatDoor
