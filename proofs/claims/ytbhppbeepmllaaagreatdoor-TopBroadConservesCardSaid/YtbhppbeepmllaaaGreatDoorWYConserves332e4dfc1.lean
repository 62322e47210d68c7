/- All closed facts of the row TopBroadConserves. -/
import Derived.Test.YtbhppbeepmllaaaGreatDoorWFA1c15784a
import Derived.Test.YtbhppbeepmllaaaGreatDoorWFB3bb655a5
import Derived.Test.YtbhppbeepmllaaaGreatDoorWFCec14a281
import Derived.Test.YtbhppbeepmllaaaGreatDoorWYConserves124436d9a
import Derived.Test.YtbhppbeepmllaaaGreatDoorWYConserves2a1238cdc
import Derived.Test.YtbhppbeepmllaaaGreatDoorRows
import Derived.KernelRfl
import Derived.JoinedOf
set_option linter.unusedVariables false
set_option linter.unusedSimpArgs false
set_option maxRecDepth 100000
set_option maxHeartbeats 2000000
namespace Go.Proofs.YtbhppbeepmllaaaGreatDoor
theorem jfConserves_0 : (Rows.topBroadConservesRow.wf (OpenSpec.ofChange Rows.topBroadConservesSpec)) = true := by kernel_rfl
theorem jfConserves_3 : (Tryz.f7.params.all (Tryz.prog.readableRec ·)) = true := by kernel_rfl
theorem jfConserves_4 : (namedTie Tryz.prog Rows.topBroadConservesRow.named Rows.topBroadConservesSpec.vars) = true := by kernel_rfl
theorem jfConserves_5 : ((Rows.topBroadConservesRow.stops == [])) = true := by kernel_rfl
theorem jfConserves_6 : ((Tryz.prog.stops == [])) = true := by kernel_rfl
theorem jfConserves_7 : ((Rows.topBroadConservesRow.knobs == [])) = true := by kernel_rfl
theorem jfConserves_8 : ((Tryz.prog.stopKnobs == [])) = true := by kernel_rfl
theorem jfConserves_13 : ((Rows.topBroadConservesRow.maps == (Tryz.f7.params.toList ++ Rows.topBroadConservesSpec.plain.varTypes Tryz.prog).any (Tryz.prog.mapsRec ·))) = true := by kernel_rfl
theorem jfConserves_14 : ((Rows.topBroadConservesRow.ifaces == (Tryz.f7.params.toList ++ Rows.topBroadConservesSpec.plain.varTypes Tryz.prog).any (Tryz.prog.ifacesRec ·))) = true := by kernel_rfl
theorem jfConserves_15 : ((Rows.topBroadConservesRow.mapsOut == Tryz.prog.mapsAmong Tryz.f7.resultTypes.toList)) = true := by kernel_rfl
theorem jfConserves_16 : ((Rows.topBroadConservesRow.loops == (Tryz.f7.params.toList ++ Rows.topBroadConservesSpec.plain.varTypes Tryz.prog).any (Tryz.prog.loopsFrom ·))) = true := by kernel_rfl
theorem jfConserves_17 : ((Rows.topBroadConservesRow.wideKeys == (Tryz.f7.params.toList ++ Rows.topBroadConservesSpec.plain.varTypes Tryz.prog ++ Tryz.f7.resultTypes.toList).any (Tryz.prog.wideKeysFrom ·))) = true := by kernel_rfl
theorem jfConserves_18 : (Rows.topBroadConservesSpec.vars.all (Tryz.prog.varReadable ·)) = true := by kernel_rfl
theorem jfConserves_19 : (Tryz.f7.resultTypes.all (fun t => Tryz.prog.readableRec t && decide (t < Tryz.prog.types.size))) = true := by kernel_rfl
theorem jfConserves_20 : ((Rows.topBroadConservesRow.ifacesOut == Tryz.f7.resultTypes.toList.any (Tryz.prog.ifacesRec ·))) = true := by kernel_rfl
theorem jfConserves_21 : ((Rows.topBroadConservesRow.loopsOut == Tryz.f7.resultTypes.toList.any (Tryz.prog.loopsFrom ·))) = true := by kernel_rfl
theorem jfConserves_23 : (Rows.topBroadConservesRow.shortTexts.isNone) = true := by kernel_rfl
theorem jfConserves_28 : ((Rows.topBroadConservesRow.kinds == (if Rows.topBroadConservesRow.domain.isEmpty then [] else Tryz.f7.params.toList.map fun t => match Tryz.prog.underlying t with | some (.int k) => some k | _ => none))) = true := by kernel_rfl
theorem jfConserves_29 : ((Rows.topBroadConservesRow.pinned == Rows.topBroadConservesRow.pinnedBy)) = true := by kernel_rfl
theorem jfConserves_30 : ((Rows.topBroadConservesRow.veiled == (Tryz.f7.params.toList ++ Rows.topBroadConservesSpec.plain.varTypes Tryz.prog ++ Tryz.f7.resultTypes.toList).any (Tryz.prog.veiledRec ·))) = true := by kernel_rfl
theorem jfConserves_31 : (Rows.topBroadConservesRow.veiledFits Tryz.prog Tryz.f7.params.toList (Tryz.f7.params.toList ++ Rows.topBroadConservesSpec.plain.varTypes Tryz.prog ++ Tryz.f7.resultTypes.toList)) = true := by kernel_rfl
theorem jfConserves_1 : (laidOutB Tryz.prog) = true := laidOut
theorem jfConserves_2 : (mapsRowed Tryz.prog) = true := pf_maps
theorem jfConserves_22 : ((Rows.topBroadConservesRow.plainKeys == Tryz.prog.plainKeys)) = true := by rw [show Tryz.prog.plainKeys = Rows.topBroadQuantileRow.plainKeys from eq_of_beq pf_plain]; rfl
theorem jfConserves_24 : (Tryz.prog.stopsHeard) = true := pf_heard
theorem jfConserves_25 : (Tryz.prog.mayEnter) = true := pf_enter
theorem jfConserves_26 : ((Rows.topBroadConservesRow.lifted == Tryz.prog.liftsFinal)) = true := by rw [show Tryz.prog.liftsFinal = Rows.topBroadQuantileRow.lifted from eq_of_beq pf_lifts]; rfl
theorem jfConserves_27 : ((Tryz.prog.make == some Rows.topBroadConservesRow.make)) = true := by rw [show Tryz.prog.make = some Rows.topBroadQuantileRow.make from eq_of_beq pf_make]; rfl
theorem jfConserves : joinedFacts Tryz.prog 7 Tryz.f7 Rows.topBroadConservesSpec Rows.topBroadConservesRow = true := by
 unfold joinedFacts
 rw [jfConserves_0, jfConserves_1, jfConserves_2, jfConserves_3, jfConserves_4, jfConserves_5, jfConserves_6, jfConserves_7, jfConserves_8, jfConserves_9, jfConserves_10, jfConserves_11, jfConserves_12, jfConserves_13, jfConserves_14, jfConserves_15, jfConserves_16, jfConserves_17, jfConserves_18, jfConserves_19, jfConserves_20, jfConserves_21, jfConserves_22, jfConserves_23, jfConserves_24, jfConserves_25, jfConserves_26, jfConserves_27, jfConserves_29, jfConserves_30, jfConserves_31]
 kernel_rfl
end Go.Proofs.YtbhppbeepmllaaaGreatDoor
