/-
  DERIVED. GIVEN WITH THE SEED: THE CARDS: each row of YtbhppbeepmllaaaGreatDoorRows.lean that lists a variable, with what it lists TIED to the program's text (the seventh form; the later family's looks); each row that meets fmt, with fmt's text TOLD by the authors' own Lean function (tested against real Go, not proved from fmt's source: count such statements apart). THE CARD IS WHAT COUNTS. Prove the row's statement (the work); the ties are given (YtbhppbeepmllaaaGreatDoorTie.lean); close each card by the builder's one call (the guide's Derived/Test/ToyasCard.lean, 'card_holds'). Laid BY PROGRAM, IN A SANDBOX (cutbox-door.mjs). By AI agents, Wed Nov 11 2026. No macro, syntax, notation, axiom, sorry.
-/
import Derived.Test.YtbhppbeepmllaaaGreatDoorRows
import GoSem.ClaimSeven
namespace Go.Proofs.YtbhppbeepmllaaaGreatDoor
namespace Rows

/-- THE TIED CARD OF 'gaugertop.TopBroadCells'. -/
def topBroadCellsCard : Claim7 := { stood := { row := topBroadCellsRow, standIns := [], harness := (true, "277f8f4f4b7aaf69cd3523ca2e12eca3adaf17347f36da05452feb3abc053bbb"), looks := true }, kinds := [], alts := [], laidByText := true, laidKinds := [.data, .data, .data, .data, .sentinel, .sentinel, .pinned], laidTests := true, laidLooks := .later }
def TopBroadCellsCardSaid : Prop := Claim7.holds Tryz.pinned (.plain (OpenSpec.ofChange topBroadCellsSpec)) topBroadCellsCard

/-- THE TIED CARD OF 'gaugertop.TopBroadHeavy'. -/
def topBroadHeavyCard : Claim7 := { stood := { row := topBroadHeavyRow, standIns := [], harness := (true, "277f8f4f4b7aaf69cd3523ca2e12eca3adaf17347f36da05452feb3abc053bbb"), looks := true }, kinds := [], alts := [], laidByText := true, laidKinds := [.data, .data, .data, .data, .sentinel, .sentinel, .pinned], laidTests := true, laidLooks := .later }
def TopBroadHeavyCardSaid : Prop := Claim7.holds Tryz.pinned (.plain (OpenSpec.ofChange topBroadHeavySpec)) topBroadHeavyCard

/-- THE TIED CARD OF 'gaugertop.TopBroadQuantile'. -/
def topBroadQuantileCard : Claim7 := { stood := { row := topBroadQuantileRow, standIns := [], harness := (true, "277f8f4f4b7aaf69cd3523ca2e12eca3adaf17347f36da05452feb3abc053bbb"), looks := true }, kinds := [], alts := [], laidByText := true, laidKinds := [.data, .data, .data, .data, .sentinel, .sentinel, .pinned], laidTests := true, laidLooks := .later }
def TopBroadQuantileCardSaid : Prop := Claim7.holds Tryz.pinned (.plain (OpenSpec.ofChange topBroadQuantileSpec)) topBroadQuantileCard

/-- THE TIED CARD OF 'gaugertop.TopBroadMerges'. -/
def topBroadMergesCard : Claim7 := { stood := { row := topBroadMergesRow, standIns := [], harness := (true, "277f8f4f4b7aaf69cd3523ca2e12eca3adaf17347f36da05452feb3abc053bbb"), looks := true }, kinds := [], alts := [], laidByText := true, laidKinds := [.data, .data, .data, .data, .sentinel, .sentinel, .pinned], laidTests := true, laidLooks := .later }
def TopBroadMergesCardSaid : Prop := Claim7.holds Tryz.pinned (.plain (OpenSpec.ofChange topBroadMergesSpec)) topBroadMergesCard

/-- THE TIED CARD OF 'gaugertop.TopBroadConserves'. -/
def topBroadConservesCard : Claim7 := { stood := { row := topBroadConservesRow, standIns := [], harness := (true, "277f8f4f4b7aaf69cd3523ca2e12eca3adaf17347f36da05452feb3abc053bbb"), looks := true }, kinds := [], alts := [], laidByText := true, laidKinds := [.data, .data, .data, .data, .sentinel, .sentinel, .pinned], laidTests := true, laidLooks := .later }
def TopBroadConservesCardSaid : Prop := Claim7.holds Tryz.pinned (.plain (OpenSpec.ofChange topBroadConservesSpec)) topBroadConservesCard

/-- THE TIED CARD OF 'gaugertop.TopBroadMedian'. -/
def topBroadMedianCard : Claim7 := { stood := { row := topBroadMedianRow, standIns := [], harness := (true, "277f8f4f4b7aaf69cd3523ca2e12eca3adaf17347f36da05452feb3abc053bbb"), looks := true }, kinds := [], alts := [], laidByText := true, laidKinds := [.data, .data, .data, .data, .sentinel, .sentinel, .pinned], laidTests := true, laidLooks := .later }
def TopBroadMedianCardSaid : Prop := Claim7.holds Tryz.pinned (.plain (OpenSpec.ofChange topBroadMedianSpec)) topBroadMedianCard

/-- THE TIED CARD OF 'gaugertop.TopBroadInner'. -/
def topBroadInnerCard : Claim7 := { stood := { row := topBroadInnerRow, standIns := [], harness := (true, "277f8f4f4b7aaf69cd3523ca2e12eca3adaf17347f36da05452feb3abc053bbb"), looks := true }, kinds := [], alts := [], laidByText := true, laidKinds := [.data, .data, .data, .data, .sentinel, .sentinel, .pinned], laidTests := true, laidLooks := .later }
def TopBroadInnerCardSaid : Prop := Claim7.holds Tryz.pinned (.plain (OpenSpec.ofChange topBroadInnerSpec)) topBroadInnerCard

/-- THE SECOND FORM's CARD OF 'gaugertop.TopBroadCells'. -/
def topBroadCellsUptoCard : Claim7 := { stood := { row := topBroadCellsUptoRow, standIns := [], harness := (true, "277f8f4f4b7aaf69cd3523ca2e12eca3adaf17347f36da05452feb3abc053bbb"), looks := true }, kinds := [], alts := [], laidByText := true, laidKinds := [.data, .data, .data, .data, .sentinel, .sentinel, .pinned], laidTests := true, laidLooks := .later }
def TopBroadCellsUptoCardSaid : Prop := Claim7.holds Tryz.pinned (.plain (OpenSpec.upto topBroadCellsSpec)) topBroadCellsUptoCard

/-- THE SECOND FORM's CARD OF 'gaugertop.TopBroadHeavy'. -/
def topBroadHeavyUptoCard : Claim7 := { stood := { row := topBroadHeavyUptoRow, standIns := [], harness := (true, "277f8f4f4b7aaf69cd3523ca2e12eca3adaf17347f36da05452feb3abc053bbb"), looks := true }, kinds := [], alts := [], laidByText := true, laidKinds := [.data, .data, .data, .data, .sentinel, .sentinel, .pinned], laidTests := true, laidLooks := .later }
def TopBroadHeavyUptoCardSaid : Prop := Claim7.holds Tryz.pinned (.plain (OpenSpec.upto topBroadHeavySpec)) topBroadHeavyUptoCard

/-- THE SECOND FORM's CARD OF 'gaugertop.TopBroadQuantile'. -/
def topBroadQuantileUptoCard : Claim7 := { stood := { row := topBroadQuantileUptoRow, standIns := [], harness := (true, "277f8f4f4b7aaf69cd3523ca2e12eca3adaf17347f36da05452feb3abc053bbb"), looks := true }, kinds := [], alts := [], laidByText := true, laidKinds := [.data, .data, .data, .data, .sentinel, .sentinel, .pinned], laidTests := true, laidLooks := .later }
def TopBroadQuantileUptoCardSaid : Prop := Claim7.holds Tryz.pinned (.plain (OpenSpec.upto topBroadQuantileSpec)) topBroadQuantileUptoCard

/-- THE SECOND FORM's CARD OF 'gaugertop.TopBroadMerges'. -/
def topBroadMergesUptoCard : Claim7 := { stood := { row := topBroadMergesUptoRow, standIns := [], harness := (true, "277f8f4f4b7aaf69cd3523ca2e12eca3adaf17347f36da05452feb3abc053bbb"), looks := true }, kinds := [], alts := [], laidByText := true, laidKinds := [.data, .data, .data, .data, .sentinel, .sentinel, .pinned], laidTests := true, laidLooks := .later }
def TopBroadMergesUptoCardSaid : Prop := Claim7.holds Tryz.pinned (.plain (OpenSpec.upto topBroadMergesSpec)) topBroadMergesUptoCard

/-- THE SECOND FORM's CARD OF 'gaugertop.TopBroadConserves'. -/
def topBroadConservesUptoCard : Claim7 := { stood := { row := topBroadConservesUptoRow, standIns := [], harness := (true, "277f8f4f4b7aaf69cd3523ca2e12eca3adaf17347f36da05452feb3abc053bbb"), looks := true }, kinds := [], alts := [], laidByText := true, laidKinds := [.data, .data, .data, .data, .sentinel, .sentinel, .pinned], laidTests := true, laidLooks := .later }
def TopBroadConservesUptoCardSaid : Prop := Claim7.holds Tryz.pinned (.plain (OpenSpec.upto topBroadConservesSpec)) topBroadConservesUptoCard

/-- THE SECOND FORM's CARD OF 'gaugertop.TopBroadMedian'. -/
def topBroadMedianUptoCard : Claim7 := { stood := { row := topBroadMedianUptoRow, standIns := [], harness := (true, "277f8f4f4b7aaf69cd3523ca2e12eca3adaf17347f36da05452feb3abc053bbb"), looks := true }, kinds := [], alts := [], laidByText := true, laidKinds := [.data, .data, .data, .data, .sentinel, .sentinel, .pinned], laidTests := true, laidLooks := .later }
def TopBroadMedianUptoCardSaid : Prop := Claim7.holds Tryz.pinned (.plain (OpenSpec.upto topBroadMedianSpec)) topBroadMedianUptoCard

/-- THE SECOND FORM's CARD OF 'gaugertop.TopBroadInner'. -/
def topBroadInnerUptoCard : Claim7 := { stood := { row := topBroadInnerUptoRow, standIns := [], harness := (true, "277f8f4f4b7aaf69cd3523ca2e12eca3adaf17347f36da05452feb3abc053bbb"), looks := true }, kinds := [], alts := [], laidByText := true, laidKinds := [.data, .data, .data, .data, .sentinel, .sentinel, .pinned], laidTests := true, laidLooks := .later }
def TopBroadInnerUptoCardSaid : Prop := Claim7.holds Tryz.pinned (.plain (OpenSpec.upto topBroadInnerSpec)) topBroadInnerUptoCard
end Rows
end Go.Proofs.YtbhppbeepmllaaaGreatDoor
