/-
  DERIVED. GIVEN WITH THE SEED: THE CARDS: each row of YtfbdfiepnepgpaaDoorRows.lean that lists a variable, with what it lists TIED to the program's text (the seventh form; the later family's looks); each row that meets fmt, with fmt's text TOLD by the authors' own Lean function (tested against real Go, not proved from fmt's source: count such statements apart). THE CARD IS WHAT COUNTS. Prove the row's statement (the work); the ties are given (YtfbdfiepnepgpaaDoorTie.lean); close each card by the builder's one call (the guide's Derived/Test/ToyasCard.lean, 'card_holds'). Laid BY PROGRAM, IN A SANDBOX (cutbox-door.mjs). By AI agents, Wed Nov 11 2026. No macro, syntax, notation, axiom, sorry.
-/
import Derived.Test.YtfbdfiepnepgpaaDoorRows
import GoSem.ClaimSeven
namespace Go.Proofs.YtfbdfiepnepgpaaDoor
namespace Rows

/-- THE TIED CARD OF 'laws.FnMeterAdd'. -/
def fnMeterAddCard : Claim7 := { stood := { row := fnMeterAddRow, standIns := [], harness := (true, "3bc2dc7f5b4b0783c2c4d0fe6e33de51c9754486a915a7a1e6a36f6aa9580531"), looks := false }, kinds := [], alts := [], laidByText := true, laidKinds := [.data, .data, .data], laidTests := true, laidLooks := .later }
def FnMeterAddCardSaid : Prop := Claim7.holds Tryd.pinned (.plain (OpenSpec.ofChange fnMeterAddSpec)) fnMeterAddCard

/-- THE TIED CARD OF 'laws.FnMeterUse'. -/
def fnMeterUseCard : Claim7 := { stood := { row := fnMeterUseRow, standIns := [], harness := (true, "3bc2dc7f5b4b0783c2c4d0fe6e33de51c9754486a915a7a1e6a36f6aa9580531"), looks := false }, kinds := [], alts := [], laidByText := true, laidKinds := [.data, .data, .data], laidTests := true, laidLooks := .later }
def FnMeterUseCardSaid : Prop := Claim7.holds Tryd.pinned (.plain (OpenSpec.ofChange fnMeterUseSpec)) fnMeterUseCard

/-- THE TIED CARD OF 'laws.FnTapsValid'. -/
def fnTapsValidCard : Claim7 := { stood := { row := fnTapsValidRow, standIns := [], harness := (true, "3bc2dc7f5b4b0783c2c4d0fe6e33de51c9754486a915a7a1e6a36f6aa9580531"), looks := false }, kinds := [], alts := [], laidByText := true, laidKinds := [.data, .data, .data], laidTests := true, laidLooks := .later }
def FnTapsValidCardSaid : Prop := Claim7.holds Tryd.pinned (.plain (OpenSpec.ofChange fnTapsValidSpec)) fnTapsValidCard

/-- THE TIED CARD OF 'laws.FnJobsValid'. -/
def fnJobsValidCard : Claim7 := { stood := { row := fnJobsValidRow, standIns := [], harness := (true, "3bc2dc7f5b4b0783c2c4d0fe6e33de51c9754486a915a7a1e6a36f6aa9580531"), looks := false }, kinds := [], alts := [], laidByText := true, laidKinds := [.data, .data, .data], laidTests := true, laidLooks := .later }
def FnJobsValidCardSaid : Prop := Claim7.holds Tryd.pinned (.plain (OpenSpec.ofChange fnJobsValidSpec)) fnJobsValidCard

/-- THE TIED CARD OF 'laws.FnPlantsValid'. -/
def fnPlantsValidCard : Claim7 := { stood := { row := fnPlantsValidRow, standIns := [], harness := (true, "3bc2dc7f5b4b0783c2c4d0fe6e33de51c9754486a915a7a1e6a36f6aa9580531"), looks := false }, kinds := [], alts := [], laidByText := true, laidKinds := [.data, .data, .data], laidTests := true, laidLooks := .later }
def FnPlantsValidCardSaid : Prop := Claim7.holds Tryd.pinned (.plain (OpenSpec.ofChange fnPlantsValidSpec)) fnPlantsValidCard

/-- THE TIED CARD OF 'laws.FnBandsValid'. -/
def fnBandsValidCard : Claim7 := { stood := { row := fnBandsValidRow, standIns := [], harness := (true, "3bc2dc7f5b4b0783c2c4d0fe6e33de51c9754486a915a7a1e6a36f6aa9580531"), looks := false }, kinds := [], alts := [], laidByText := true, laidKinds := [.data, .data, .data], laidTests := true, laidLooks := .later }
def FnBandsValidCardSaid : Prop := Claim7.holds Tryd.pinned (.plain (OpenSpec.ofChange fnBandsValidSpec)) fnBandsValidCard

/-- THE TIED CARD OF 'laws.FnPriceAt'. -/
def fnPriceAtCard : Claim7 := { stood := { row := fnPriceAtRow, standIns := [], harness := (true, "3bc2dc7f5b4b0783c2c4d0fe6e33de51c9754486a915a7a1e6a36f6aa9580531"), looks := false }, kinds := [], alts := [], laidByText := true, laidKinds := [.data, .data, .data], laidTests := true, laidLooks := .later }
def FnPriceAtCardSaid : Prop := Claim7.holds Tryd.pinned (.plain (OpenSpec.ofChange fnPriceAtSpec)) fnPriceAtCard

/-- THE TIED CARD OF 'laws.FnPhaseSum'. -/
def fnPhaseSumCard : Claim7 := { stood := { row := fnPhaseSumRow, standIns := [], harness := (true, "3bc2dc7f5b4b0783c2c4d0fe6e33de51c9754486a915a7a1e6a36f6aa9580531"), looks := false }, kinds := [], alts := [], laidByText := true, laidKinds := [.data, .data, .data], laidTests := true, laidLooks := .later }
def FnPhaseSumCardSaid : Prop := Claim7.holds Tryd.pinned (.plain (OpenSpec.ofChange fnPhaseSumSpec)) fnPhaseSumCard

/-- THE TIED CARD OF 'laws.FnBill'. -/
def fnBillCard : Claim7 := { stood := { row := fnBillRow, standIns := [], harness := (true, "3bc2dc7f5b4b0783c2c4d0fe6e33de51c9754486a915a7a1e6a36f6aa9580531"), looks := false }, kinds := [], alts := [], laidByText := true, laidKinds := [.data, .data, .data], laidTests := true, laidLooks := .later }
def FnBillCardSaid : Prop := Claim7.holds Tryd.pinned (.plain (OpenSpec.ofChange fnBillSpec)) fnBillCard

/-- THE TIED CARD OF 'laws.FnPhaseNext'. -/
def fnPhaseNextCard : Claim7 := { stood := { row := fnPhaseNextRow, standIns := [], harness := (true, "3bc2dc7f5b4b0783c2c4d0fe6e33de51c9754486a915a7a1e6a36f6aa9580531"), looks := false }, kinds := [], alts := [], laidByText := true, laidKinds := [.data, .data, .data], laidTests := true, laidLooks := .later }
def FnPhaseNextCardSaid : Prop := Claim7.holds Tryd.pinned (.plain (OpenSpec.ofChange fnPhaseNextSpec)) fnPhaseNextCard

/-- THE TIED CARD OF 'laws.FnImbalance'. -/
def fnImbalanceCard : Claim7 := { stood := { row := fnImbalanceRow, standIns := [], harness := (true, "3bc2dc7f5b4b0783c2c4d0fe6e33de51c9754486a915a7a1e6a36f6aa9580531"), looks := false }, kinds := [], alts := [], laidByText := true, laidKinds := [.data, .data, .data], laidTests := true, laidLooks := .later }
def FnImbalanceCardSaid : Prop := Claim7.holds Tryd.pinned (.plain (OpenSpec.ofChange fnImbalanceSpec)) fnImbalanceCard

/-- THE TIED CARD OF 'laws.FnBestPhases'. -/
def fnBestPhasesCard : Claim7 := { stood := { row := fnBestPhasesRow, standIns := [], harness := (true, "3bc2dc7f5b4b0783c2c4d0fe6e33de51c9754486a915a7a1e6a36f6aa9580531"), looks := false }, kinds := [], alts := [], laidByText := true, laidKinds := [.data, .data, .data], laidTests := true, laidLooks := .later }
def FnBestPhasesCardSaid : Prop := Claim7.holds Tryd.pinned (.plain (OpenSpec.ofChange fnBestPhasesSpec)) fnBestPhasesCard

/-- THE SECOND FORM's CARD OF 'laws.FnMeterAdd'. -/
def fnMeterAddUptoCard : Claim7 := { stood := { row := fnMeterAddUptoRow, standIns := [], harness := (true, "3bc2dc7f5b4b0783c2c4d0fe6e33de51c9754486a915a7a1e6a36f6aa9580531"), looks := false }, kinds := [], alts := [], laidByText := true, laidKinds := [.data, .data, .data], laidTests := true, laidLooks := .later }
def FnMeterAddUptoCardSaid : Prop := Claim7.holds Tryd.pinned (.plain (OpenSpec.upto fnMeterAddSpec)) fnMeterAddUptoCard

/-- THE SECOND FORM's CARD OF 'laws.FnMeterUse'. -/
def fnMeterUseUptoCard : Claim7 := { stood := { row := fnMeterUseUptoRow, standIns := [], harness := (true, "3bc2dc7f5b4b0783c2c4d0fe6e33de51c9754486a915a7a1e6a36f6aa9580531"), looks := false }, kinds := [], alts := [], laidByText := true, laidKinds := [.data, .data, .data], laidTests := true, laidLooks := .later }
def FnMeterUseUptoCardSaid : Prop := Claim7.holds Tryd.pinned (.plain (OpenSpec.upto fnMeterUseSpec)) fnMeterUseUptoCard

/-- THE SECOND FORM's CARD OF 'laws.FnTapsValid'. -/
def fnTapsValidUptoCard : Claim7 := { stood := { row := fnTapsValidUptoRow, standIns := [], harness := (true, "3bc2dc7f5b4b0783c2c4d0fe6e33de51c9754486a915a7a1e6a36f6aa9580531"), looks := false }, kinds := [], alts := [], laidByText := true, laidKinds := [.data, .data, .data], laidTests := true, laidLooks := .later }
def FnTapsValidUptoCardSaid : Prop := Claim7.holds Tryd.pinned (.plain (OpenSpec.upto fnTapsValidSpec)) fnTapsValidUptoCard

/-- THE SECOND FORM's CARD OF 'laws.FnJobsValid'. -/
def fnJobsValidUptoCard : Claim7 := { stood := { row := fnJobsValidUptoRow, standIns := [], harness := (true, "3bc2dc7f5b4b0783c2c4d0fe6e33de51c9754486a915a7a1e6a36f6aa9580531"), looks := false }, kinds := [], alts := [], laidByText := true, laidKinds := [.data, .data, .data], laidTests := true, laidLooks := .later }
def FnJobsValidUptoCardSaid : Prop := Claim7.holds Tryd.pinned (.plain (OpenSpec.upto fnJobsValidSpec)) fnJobsValidUptoCard

/-- THE SECOND FORM's CARD OF 'laws.FnPlantsValid'. -/
def fnPlantsValidUptoCard : Claim7 := { stood := { row := fnPlantsValidUptoRow, standIns := [], harness := (true, "3bc2dc7f5b4b0783c2c4d0fe6e33de51c9754486a915a7a1e6a36f6aa9580531"), looks := false }, kinds := [], alts := [], laidByText := true, laidKinds := [.data, .data, .data], laidTests := true, laidLooks := .later }
def FnPlantsValidUptoCardSaid : Prop := Claim7.holds Tryd.pinned (.plain (OpenSpec.upto fnPlantsValidSpec)) fnPlantsValidUptoCard

/-- THE SECOND FORM's CARD OF 'laws.FnBandsValid'. -/
def fnBandsValidUptoCard : Claim7 := { stood := { row := fnBandsValidUptoRow, standIns := [], harness := (true, "3bc2dc7f5b4b0783c2c4d0fe6e33de51c9754486a915a7a1e6a36f6aa9580531"), looks := false }, kinds := [], alts := [], laidByText := true, laidKinds := [.data, .data, .data], laidTests := true, laidLooks := .later }
def FnBandsValidUptoCardSaid : Prop := Claim7.holds Tryd.pinned (.plain (OpenSpec.upto fnBandsValidSpec)) fnBandsValidUptoCard

/-- THE SECOND FORM's CARD OF 'laws.FnPriceAt'. -/
def fnPriceAtUptoCard : Claim7 := { stood := { row := fnPriceAtUptoRow, standIns := [], harness := (true, "3bc2dc7f5b4b0783c2c4d0fe6e33de51c9754486a915a7a1e6a36f6aa9580531"), looks := false }, kinds := [], alts := [], laidByText := true, laidKinds := [.data, .data, .data], laidTests := true, laidLooks := .later }
def FnPriceAtUptoCardSaid : Prop := Claim7.holds Tryd.pinned (.plain (OpenSpec.upto fnPriceAtSpec)) fnPriceAtUptoCard

/-- THE SECOND FORM's CARD OF 'laws.FnPhaseSum'. -/
def fnPhaseSumUptoCard : Claim7 := { stood := { row := fnPhaseSumUptoRow, standIns := [], harness := (true, "3bc2dc7f5b4b0783c2c4d0fe6e33de51c9754486a915a7a1e6a36f6aa9580531"), looks := false }, kinds := [], alts := [], laidByText := true, laidKinds := [.data, .data, .data], laidTests := true, laidLooks := .later }
def FnPhaseSumUptoCardSaid : Prop := Claim7.holds Tryd.pinned (.plain (OpenSpec.upto fnPhaseSumSpec)) fnPhaseSumUptoCard

/-- THE SECOND FORM's CARD OF 'laws.FnBill'. -/
def fnBillUptoCard : Claim7 := { stood := { row := fnBillUptoRow, standIns := [], harness := (true, "3bc2dc7f5b4b0783c2c4d0fe6e33de51c9754486a915a7a1e6a36f6aa9580531"), looks := false }, kinds := [], alts := [], laidByText := true, laidKinds := [.data, .data, .data], laidTests := true, laidLooks := .later }
def FnBillUptoCardSaid : Prop := Claim7.holds Tryd.pinned (.plain (OpenSpec.upto fnBillSpec)) fnBillUptoCard

/-- THE SECOND FORM's CARD OF 'laws.FnPhaseNext'. -/
def fnPhaseNextUptoCard : Claim7 := { stood := { row := fnPhaseNextUptoRow, standIns := [], harness := (true, "3bc2dc7f5b4b0783c2c4d0fe6e33de51c9754486a915a7a1e6a36f6aa9580531"), looks := false }, kinds := [], alts := [], laidByText := true, laidKinds := [.data, .data, .data], laidTests := true, laidLooks := .later }
def FnPhaseNextUptoCardSaid : Prop := Claim7.holds Tryd.pinned (.plain (OpenSpec.upto fnPhaseNextSpec)) fnPhaseNextUptoCard

/-- THE SECOND FORM's CARD OF 'laws.FnImbalance'. -/
def fnImbalanceUptoCard : Claim7 := { stood := { row := fnImbalanceUptoRow, standIns := [], harness := (true, "3bc2dc7f5b4b0783c2c4d0fe6e33de51c9754486a915a7a1e6a36f6aa9580531"), looks := false }, kinds := [], alts := [], laidByText := true, laidKinds := [.data, .data, .data], laidTests := true, laidLooks := .later }
def FnImbalanceUptoCardSaid : Prop := Claim7.holds Tryd.pinned (.plain (OpenSpec.upto fnImbalanceSpec)) fnImbalanceUptoCard

/-- THE SECOND FORM's CARD OF 'laws.FnBestPhases'. -/
def fnBestPhasesUptoCard : Claim7 := { stood := { row := fnBestPhasesUptoRow, standIns := [], harness := (true, "3bc2dc7f5b4b0783c2c4d0fe6e33de51c9754486a915a7a1e6a36f6aa9580531"), looks := false }, kinds := [], alts := [], laidByText := true, laidKinds := [.data, .data, .data], laidTests := true, laidLooks := .later }
def FnBestPhasesUptoCardSaid : Prop := Claim7.holds Tryd.pinned (.plain (OpenSpec.upto fnBestPhasesSpec)) fnBestPhasesUptoCard
end Rows
end Go.Proofs.YtfbdfiepnepgpaaDoor
