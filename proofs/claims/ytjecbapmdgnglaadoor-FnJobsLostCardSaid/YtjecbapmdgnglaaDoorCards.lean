/-
  DERIVED. GIVEN WITH THE SEED: THE CARDS: each row of YtjecbapmdgnglaaDoorRows.lean that lists a variable, with what it lists TIED to the program's text (the seventh form; the later family's looks); each row that meets fmt, with fmt's text TOLD by the authors' own Lean function (tested against real Go, not proved from fmt's source: count such statements apart). THE CARD IS WHAT COUNTS. Prove the row's statement (the work); the ties are given (YtjecbapmdgnglaaDoorTie.lean); close each card by the builder's one call (the guide's Derived/Test/ToyasCard.lean, 'card_holds'). Laid BY PROGRAM, IN A SANDBOX (cutbox-door.mjs). By AI agents, Wed Nov 11 2026. No macro, syntax, notation, axiom, sorry.
-/
import Derived.Test.YtjecbapmdgnglaaDoorRows
import GoSem.ClaimSeven
namespace Go.Proofs.YtjecbapmdgnglaaDoor
namespace Rows

/-- THE TIED CARD OF 'laws.FnBill'. -/
def fnBillCard : Claim7 := { stood := { row := fnBillRow, standIns := [], harness := (true, "d2c580820232595620334d5f605842bd24780e96d0b47608cf6f1721c5c7c926"), looks := false }, kinds := [], alts := [], laidByText := true, laidKinds := [.data, .data, .data], laidTests := true, laidLooks := .later }
def FnBillCardSaid : Prop := Claim7.holds Tryd.pinned (.plain (OpenSpec.ofChange fnBillSpec)) fnBillCard

/-- THE TIED CARD OF 'laws.FnPhaseNext'. -/
def fnPhaseNextCard : Claim7 := { stood := { row := fnPhaseNextRow, standIns := [], harness := (true, "d2c580820232595620334d5f605842bd24780e96d0b47608cf6f1721c5c7c926"), looks := false }, kinds := [], alts := [], laidByText := true, laidKinds := [.data, .data, .data], laidTests := true, laidLooks := .later }
def FnPhaseNextCardSaid : Prop := Claim7.holds Tryd.pinned (.plain (OpenSpec.ofChange fnPhaseNextSpec)) fnPhaseNextCard

/-- THE TIED CARD OF 'laws.FnImbalance'. -/
def fnImbalanceCard : Claim7 := { stood := { row := fnImbalanceRow, standIns := [], harness := (true, "d2c580820232595620334d5f605842bd24780e96d0b47608cf6f1721c5c7c926"), looks := false }, kinds := [], alts := [], laidByText := true, laidKinds := [.data, .data, .data], laidTests := true, laidLooks := .later }
def FnImbalanceCardSaid : Prop := Claim7.holds Tryd.pinned (.plain (OpenSpec.ofChange fnImbalanceSpec)) fnImbalanceCard

/-- THE TIED CARD OF 'laws.FnBestPhases'. -/
def fnBestPhasesCard : Claim7 := { stood := { row := fnBestPhasesRow, standIns := [], harness := (true, "d2c580820232595620334d5f605842bd24780e96d0b47608cf6f1721c5c7c926"), looks := false }, kinds := [], alts := [], laidByText := true, laidKinds := [.data, .data, .data], laidTests := true, laidLooks := .later }
def FnBestPhasesCardSaid : Prop := Claim7.holds Tryd.pinned (.plain (OpenSpec.ofChange fnBestPhasesSpec)) fnBestPhasesCard

/-- THE TIED CARD OF 'laws.FnStartOrder'. -/
def fnStartOrderCard : Claim7 := { stood := { row := fnStartOrderRow, standIns := [], harness := (true, "d2c580820232595620334d5f605842bd24780e96d0b47608cf6f1721c5c7c926"), looks := false }, kinds := [], alts := [], laidByText := true, laidKinds := [.data, .data, .data], laidTests := true, laidLooks := .later }
def FnStartOrderCardSaid : Prop := Claim7.holds Tryd.pinned (.plain (OpenSpec.ofChange fnStartOrderSpec)) fnStartOrderCard

/-- THE TIED CARD OF 'laws.FnStartRun'. -/
def fnStartRunCard : Claim7 := { stood := { row := fnStartRunRow, standIns := [], harness := (true, "d2c580820232595620334d5f605842bd24780e96d0b47608cf6f1721c5c7c926"), looks := false }, kinds := [], alts := [], laidByText := true, laidKinds := [.data, .data, .data], laidTests := true, laidLooks := .later }
def FnStartRunCardSaid : Prop := Claim7.holds Tryd.pinned (.plain (OpenSpec.ofChange fnStartRunSpec)) fnStartRunCard

/-- THE TIED CARD OF 'laws.FnStartPower'. -/
def fnStartPowerCard : Claim7 := { stood := { row := fnStartPowerRow, standIns := [], harness := (true, "d2c580820232595620334d5f605842bd24780e96d0b47608cf6f1721c5c7c926"), looks := false }, kinds := [], alts := [], laidByText := true, laidKinds := [.data, .data, .data], laidTests := true, laidLooks := .later }
def FnStartPowerCardSaid : Prop := Claim7.holds Tryd.pinned (.plain (OpenSpec.ofChange fnStartPowerSpec)) fnStartPowerCard

/-- THE TIED CARD OF 'laws.FnRoomsValid'. -/
def fnRoomsValidCard : Claim7 := { stood := { row := fnRoomsValidRow, standIns := [], harness := (true, "d2c580820232595620334d5f605842bd24780e96d0b47608cf6f1721c5c7c926"), looks := false }, kinds := [], alts := [], laidByText := true, laidKinds := [.data, .data, .data], laidTests := true, laidLooks := .later }
def FnRoomsValidCardSaid : Prop := Claim7.holds Tryd.pinned (.plain (OpenSpec.ofChange fnRoomsValidSpec)) fnRoomsValidCard

/-- THE TIED CARD OF 'laws.FnRoomMay'. -/
def fnRoomMayCard : Claim7 := { stood := { row := fnRoomMayRow, standIns := [], harness := (true, "d2c580820232595620334d5f605842bd24780e96d0b47608cf6f1721c5c7c926"), looks := false }, kinds := [], alts := [], laidByText := true, laidKinds := [.data, .data, .data], laidTests := true, laidLooks := .later }
def FnRoomMayCardSaid : Prop := Claim7.holds Tryd.pinned (.plain (OpenSpec.ofChange fnRoomMaySpec)) fnRoomMayCard

/-- THE TIED CARD OF 'laws.FnBestJobs'. -/
def fnBestJobsCard : Claim7 := { stood := { row := fnBestJobsRow, standIns := [], harness := (true, "d2c580820232595620334d5f605842bd24780e96d0b47608cf6f1721c5c7c926"), looks := false }, kinds := [], alts := [], laidByText := true, laidKinds := [.data, .data, .data], laidTests := true, laidLooks := .later }
def FnBestJobsCardSaid : Prop := Claim7.holds Tryd.pinned (.plain (OpenSpec.ofChange fnBestJobsSpec)) fnBestJobsCard

/-- THE TIED CARD OF 'laws.FnJobsLost'. -/
def fnJobsLostCard : Claim7 := { stood := { row := fnJobsLostRow, standIns := [], harness := (true, "d2c580820232595620334d5f605842bd24780e96d0b47608cf6f1721c5c7c926"), looks := false }, kinds := [], alts := [], laidByText := true, laidKinds := [.data, .data, .data], laidTests := true, laidLooks := .later }
def FnJobsLostCardSaid : Prop := Claim7.holds Tryd.pinned (.plain (OpenSpec.ofChange fnJobsLostSpec)) fnJobsLostCard

/-- THE TIED CARD OF 'laws.FnLeastLost'. -/
def fnLeastLostCard : Claim7 := { stood := { row := fnLeastLostRow, standIns := [], harness := (true, "d2c580820232595620334d5f605842bd24780e96d0b47608cf6f1721c5c7c926"), looks := false }, kinds := [], alts := [], laidByText := true, laidKinds := [.data, .data, .data], laidTests := true, laidLooks := .later }
def FnLeastLostCardSaid : Prop := Claim7.holds Tryd.pinned (.plain (OpenSpec.ofChange fnLeastLostSpec)) fnLeastLostCard

/-- THE SECOND FORM's CARD OF 'laws.FnBill'. -/
def fnBillUptoCard : Claim7 := { stood := { row := fnBillUptoRow, standIns := [], harness := (true, "d2c580820232595620334d5f605842bd24780e96d0b47608cf6f1721c5c7c926"), looks := false }, kinds := [], alts := [], laidByText := true, laidKinds := [.data, .data, .data], laidTests := true, laidLooks := .later }
def FnBillUptoCardSaid : Prop := Claim7.holds Tryd.pinned (.plain (OpenSpec.upto fnBillSpec)) fnBillUptoCard

/-- THE SECOND FORM's CARD OF 'laws.FnPhaseNext'. -/
def fnPhaseNextUptoCard : Claim7 := { stood := { row := fnPhaseNextUptoRow, standIns := [], harness := (true, "d2c580820232595620334d5f605842bd24780e96d0b47608cf6f1721c5c7c926"), looks := false }, kinds := [], alts := [], laidByText := true, laidKinds := [.data, .data, .data], laidTests := true, laidLooks := .later }
def FnPhaseNextUptoCardSaid : Prop := Claim7.holds Tryd.pinned (.plain (OpenSpec.upto fnPhaseNextSpec)) fnPhaseNextUptoCard

/-- THE SECOND FORM's CARD OF 'laws.FnImbalance'. -/
def fnImbalanceUptoCard : Claim7 := { stood := { row := fnImbalanceUptoRow, standIns := [], harness := (true, "d2c580820232595620334d5f605842bd24780e96d0b47608cf6f1721c5c7c926"), looks := false }, kinds := [], alts := [], laidByText := true, laidKinds := [.data, .data, .data], laidTests := true, laidLooks := .later }
def FnImbalanceUptoCardSaid : Prop := Claim7.holds Tryd.pinned (.plain (OpenSpec.upto fnImbalanceSpec)) fnImbalanceUptoCard

/-- THE SECOND FORM's CARD OF 'laws.FnBestPhases'. -/
def fnBestPhasesUptoCard : Claim7 := { stood := { row := fnBestPhasesUptoRow, standIns := [], harness := (true, "d2c580820232595620334d5f605842bd24780e96d0b47608cf6f1721c5c7c926"), looks := false }, kinds := [], alts := [], laidByText := true, laidKinds := [.data, .data, .data], laidTests := true, laidLooks := .later }
def FnBestPhasesUptoCardSaid : Prop := Claim7.holds Tryd.pinned (.plain (OpenSpec.upto fnBestPhasesSpec)) fnBestPhasesUptoCard

/-- THE SECOND FORM's CARD OF 'laws.FnStartOrder'. -/
def fnStartOrderUptoCard : Claim7 := { stood := { row := fnStartOrderUptoRow, standIns := [], harness := (true, "d2c580820232595620334d5f605842bd24780e96d0b47608cf6f1721c5c7c926"), looks := false }, kinds := [], alts := [], laidByText := true, laidKinds := [.data, .data, .data], laidTests := true, laidLooks := .later }
def FnStartOrderUptoCardSaid : Prop := Claim7.holds Tryd.pinned (.plain (OpenSpec.upto fnStartOrderSpec)) fnStartOrderUptoCard

/-- THE SECOND FORM's CARD OF 'laws.FnStartRun'. -/
def fnStartRunUptoCard : Claim7 := { stood := { row := fnStartRunUptoRow, standIns := [], harness := (true, "d2c580820232595620334d5f605842bd24780e96d0b47608cf6f1721c5c7c926"), looks := false }, kinds := [], alts := [], laidByText := true, laidKinds := [.data, .data, .data], laidTests := true, laidLooks := .later }
def FnStartRunUptoCardSaid : Prop := Claim7.holds Tryd.pinned (.plain (OpenSpec.upto fnStartRunSpec)) fnStartRunUptoCard

/-- THE SECOND FORM's CARD OF 'laws.FnStartPower'. -/
def fnStartPowerUptoCard : Claim7 := { stood := { row := fnStartPowerUptoRow, standIns := [], harness := (true, "d2c580820232595620334d5f605842bd24780e96d0b47608cf6f1721c5c7c926"), looks := false }, kinds := [], alts := [], laidByText := true, laidKinds := [.data, .data, .data], laidTests := true, laidLooks := .later }
def FnStartPowerUptoCardSaid : Prop := Claim7.holds Tryd.pinned (.plain (OpenSpec.upto fnStartPowerSpec)) fnStartPowerUptoCard

/-- THE SECOND FORM's CARD OF 'laws.FnRoomsValid'. -/
def fnRoomsValidUptoCard : Claim7 := { stood := { row := fnRoomsValidUptoRow, standIns := [], harness := (true, "d2c580820232595620334d5f605842bd24780e96d0b47608cf6f1721c5c7c926"), looks := false }, kinds := [], alts := [], laidByText := true, laidKinds := [.data, .data, .data], laidTests := true, laidLooks := .later }
def FnRoomsValidUptoCardSaid : Prop := Claim7.holds Tryd.pinned (.plain (OpenSpec.upto fnRoomsValidSpec)) fnRoomsValidUptoCard

/-- THE SECOND FORM's CARD OF 'laws.FnRoomMay'. -/
def fnRoomMayUptoCard : Claim7 := { stood := { row := fnRoomMayUptoRow, standIns := [], harness := (true, "d2c580820232595620334d5f605842bd24780e96d0b47608cf6f1721c5c7c926"), looks := false }, kinds := [], alts := [], laidByText := true, laidKinds := [.data, .data, .data], laidTests := true, laidLooks := .later }
def FnRoomMayUptoCardSaid : Prop := Claim7.holds Tryd.pinned (.plain (OpenSpec.upto fnRoomMaySpec)) fnRoomMayUptoCard

/-- THE SECOND FORM's CARD OF 'laws.FnBestJobs'. -/
def fnBestJobsUptoCard : Claim7 := { stood := { row := fnBestJobsUptoRow, standIns := [], harness := (true, "d2c580820232595620334d5f605842bd24780e96d0b47608cf6f1721c5c7c926"), looks := false }, kinds := [], alts := [], laidByText := true, laidKinds := [.data, .data, .data], laidTests := true, laidLooks := .later }
def FnBestJobsUptoCardSaid : Prop := Claim7.holds Tryd.pinned (.plain (OpenSpec.upto fnBestJobsSpec)) fnBestJobsUptoCard

/-- THE SECOND FORM's CARD OF 'laws.FnJobsLost'. -/
def fnJobsLostUptoCard : Claim7 := { stood := { row := fnJobsLostUptoRow, standIns := [], harness := (true, "d2c580820232595620334d5f605842bd24780e96d0b47608cf6f1721c5c7c926"), looks := false }, kinds := [], alts := [], laidByText := true, laidKinds := [.data, .data, .data], laidTests := true, laidLooks := .later }
def FnJobsLostUptoCardSaid : Prop := Claim7.holds Tryd.pinned (.plain (OpenSpec.upto fnJobsLostSpec)) fnJobsLostUptoCard

/-- THE SECOND FORM's CARD OF 'laws.FnLeastLost'. -/
def fnLeastLostUptoCard : Claim7 := { stood := { row := fnLeastLostUptoRow, standIns := [], harness := (true, "d2c580820232595620334d5f605842bd24780e96d0b47608cf6f1721c5c7c926"), looks := false }, kinds := [], alts := [], laidByText := true, laidKinds := [.data, .data, .data], laidTests := true, laidLooks := .later }
def FnLeastLostUptoCardSaid : Prop := Claim7.holds Tryd.pinned (.plain (OpenSpec.upto fnLeastLostSpec)) fnLeastLostUptoCard
end Rows
end Go.Proofs.YtjecbapmdgnglaaDoor
