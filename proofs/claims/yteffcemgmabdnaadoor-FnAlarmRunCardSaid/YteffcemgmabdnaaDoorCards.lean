/-
  DERIVED. GIVEN WITH THE SEED: THE CARDS: each row of YteffcemgmabdnaaDoorRows.lean that lists a variable, with what it lists TIED to the program's text (the seventh form; the later family's looks); each row that meets fmt, with fmt's text TOLD by the authors' own Lean function (tested against real Go, not proved from fmt's source: count such statements apart). THE CARD IS WHAT COUNTS. Prove the row's statement (the work); the ties are given (YteffcemgmabdnaaDoorTie.lean); close each card by the builder's one call (the guide's Derived/Test/ToyasCard.lean, 'card_holds'). Laid BY PROGRAM, IN A SANDBOX (cutbox-door.mjs). By AI agents, Wed Nov 11 2026. No macro, syntax, notation, axiom, sorry.
-/
import Derived.Test.YteffcemgmabdnaaDoorRows
import GoSem.ClaimSeven
namespace Go.Proofs.YteffcemgmabdnaaDoor
namespace Rows

/-- THE TIED CARD OF 'laws.FnAlarmRun'. -/
def fnAlarmRunCard : Claim7 := { stood := { row := fnAlarmRunRow, standIns := [], harness := (true, "b7e531c998dbac989a6cb2ee4eb230c6077a004a80300ff174bec41f0f22b6aa"), looks := false }, kinds := [], alts := [], laidByText := true, laidKinds := [.data, .data, .data, .data], laidTests := true, laidLooks := .later }
def FnAlarmRunCardSaid : Prop := Claim7.holds Tryd.pinned (.plain (OpenSpec.ofChange fnAlarmRunSpec)) fnAlarmRunCard

/-- THE TIED CARD OF 'laws.FnRoomsValid'. -/
def fnRoomsValidCard : Claim7 := { stood := { row := fnRoomsValidRow, standIns := [], harness := (true, "b7e531c998dbac989a6cb2ee4eb230c6077a004a80300ff174bec41f0f22b6aa"), looks := false }, kinds := [], alts := [], laidByText := true, laidKinds := [.data, .data, .data], laidTests := true, laidLooks := .later }
def FnRoomsValidCardSaid : Prop := Claim7.holds Tryd.pinned (.plain (OpenSpec.ofChange fnRoomsValidSpec)) fnRoomsValidCard

/-- THE TIED CARD OF 'laws.FnAlarmTell'. -/
def fnAlarmTellCard : Claim7 := { stood := { row := fnAlarmTellRow, standIns := [], harness := (true, "b7e531c998dbac989a6cb2ee4eb230c6077a004a80300ff174bec41f0f22b6aa"), looks := false }, kinds := [], alts := [], laidByText := true, laidKinds := [.data, .data, .data, .data], laidTests := true, laidLooks := .later }
def FnAlarmTellCardSaid : Prop := Claim7.holds Tryd.pinned (.plain (OpenSpec.ofChange fnAlarmTellSpec)) fnAlarmTellCard

/-- THE TIED CARD OF 'laws.FnImbalance'. -/
def fnImbalanceCard : Claim7 := { stood := { row := fnImbalanceRow, standIns := [], harness := (true, "b7e531c998dbac989a6cb2ee4eb230c6077a004a80300ff174bec41f0f22b6aa"), looks := false }, kinds := [], alts := [], laidByText := true, laidKinds := [.data, .data, .data], laidTests := true, laidLooks := .later }
def FnImbalanceCardSaid : Prop := Claim7.holds Tryd.pinned (.plain (OpenSpec.ofChange fnImbalanceSpec)) fnImbalanceCard

/-- THE TIED CARD OF 'laws.FnRoomMay'. -/
def fnRoomMayCard : Claim7 := { stood := { row := fnRoomMayRow, standIns := [], harness := (true, "b7e531c998dbac989a6cb2ee4eb230c6077a004a80300ff174bec41f0f22b6aa"), looks := false }, kinds := [], alts := [], laidByText := true, laidKinds := [.data, .data, .data], laidTests := true, laidLooks := .later }
def FnRoomMayCardSaid : Prop := Claim7.holds Tryd.pinned (.plain (OpenSpec.ofChange fnRoomMaySpec)) fnRoomMayCard

/-- THE TIED CARD OF 'laws.FnBestPhases'. -/
def fnBestPhasesCard : Claim7 := { stood := { row := fnBestPhasesRow, standIns := [], harness := (true, "b7e531c998dbac989a6cb2ee4eb230c6077a004a80300ff174bec41f0f22b6aa"), looks := false }, kinds := [], alts := [], laidByText := true, laidKinds := [.data, .data, .data], laidTests := true, laidLooks := .later }
def FnBestPhasesCardSaid : Prop := Claim7.holds Tryd.pinned (.plain (OpenSpec.ofChange fnBestPhasesSpec)) fnBestPhasesCard

/-- THE TIED CARD OF 'laws.FnAlarmNext'. -/
def fnAlarmNextCard : Claim7 := { stood := { row := fnAlarmNextRow, standIns := [], harness := (true, "b7e531c998dbac989a6cb2ee4eb230c6077a004a80300ff174bec41f0f22b6aa"), looks := false }, kinds := [], alts := [], laidByText := true, laidKinds := [.data, .data, .data], laidTests := true, laidLooks := .later }
def FnAlarmNextCardSaid : Prop := Claim7.holds Tryd.pinned (.plain (OpenSpec.ofChange fnAlarmNextSpec)) fnAlarmNextCard

/-- THE TIED CARD OF 'laws.FnAckOrder'. -/
def fnAckOrderCard : Claim7 := { stood := { row := fnAckOrderRow, standIns := [], harness := (true, "b7e531c998dbac989a6cb2ee4eb230c6077a004a80300ff174bec41f0f22b6aa"), looks := false }, kinds := [], alts := [], laidByText := true, laidKinds := [.data, .data, .data, .data], laidTests := true, laidLooks := .later }
def FnAckOrderCardSaid : Prop := Claim7.holds Tryd.pinned (.plain (OpenSpec.ofChange fnAckOrderSpec)) fnAckOrderCard

/-- THE SECOND FORM's CARD OF 'laws.FnAlarmRun'. -/
def fnAlarmRunUptoCard : Claim7 := { stood := { row := fnAlarmRunUptoRow, standIns := [], harness := (true, "b7e531c998dbac989a6cb2ee4eb230c6077a004a80300ff174bec41f0f22b6aa"), looks := false }, kinds := [], alts := [], laidByText := true, laidKinds := [.data, .data, .data, .data], laidTests := true, laidLooks := .later }
def FnAlarmRunUptoCardSaid : Prop := Claim7.holds Tryd.pinned (.plain (OpenSpec.upto fnAlarmRunSpec)) fnAlarmRunUptoCard

/-- THE SECOND FORM's CARD OF 'laws.FnRoomsValid'. -/
def fnRoomsValidUptoCard : Claim7 := { stood := { row := fnRoomsValidUptoRow, standIns := [], harness := (true, "b7e531c998dbac989a6cb2ee4eb230c6077a004a80300ff174bec41f0f22b6aa"), looks := false }, kinds := [], alts := [], laidByText := true, laidKinds := [.data, .data, .data], laidTests := true, laidLooks := .later }
def FnRoomsValidUptoCardSaid : Prop := Claim7.holds Tryd.pinned (.plain (OpenSpec.upto fnRoomsValidSpec)) fnRoomsValidUptoCard

/-- THE SECOND FORM's CARD OF 'laws.FnAlarmTell'. -/
def fnAlarmTellUptoCard : Claim7 := { stood := { row := fnAlarmTellUptoRow, standIns := [], harness := (true, "b7e531c998dbac989a6cb2ee4eb230c6077a004a80300ff174bec41f0f22b6aa"), looks := false }, kinds := [], alts := [], laidByText := true, laidKinds := [.data, .data, .data, .data], laidTests := true, laidLooks := .later }
def FnAlarmTellUptoCardSaid : Prop := Claim7.holds Tryd.pinned (.plain (OpenSpec.upto fnAlarmTellSpec)) fnAlarmTellUptoCard

/-- THE SECOND FORM's CARD OF 'laws.FnImbalance'. -/
def fnImbalanceUptoCard : Claim7 := { stood := { row := fnImbalanceUptoRow, standIns := [], harness := (true, "b7e531c998dbac989a6cb2ee4eb230c6077a004a80300ff174bec41f0f22b6aa"), looks := false }, kinds := [], alts := [], laidByText := true, laidKinds := [.data, .data, .data], laidTests := true, laidLooks := .later }
def FnImbalanceUptoCardSaid : Prop := Claim7.holds Tryd.pinned (.plain (OpenSpec.upto fnImbalanceSpec)) fnImbalanceUptoCard

/-- THE SECOND FORM's CARD OF 'laws.FnRoomMay'. -/
def fnRoomMayUptoCard : Claim7 := { stood := { row := fnRoomMayUptoRow, standIns := [], harness := (true, "b7e531c998dbac989a6cb2ee4eb230c6077a004a80300ff174bec41f0f22b6aa"), looks := false }, kinds := [], alts := [], laidByText := true, laidKinds := [.data, .data, .data], laidTests := true, laidLooks := .later }
def FnRoomMayUptoCardSaid : Prop := Claim7.holds Tryd.pinned (.plain (OpenSpec.upto fnRoomMaySpec)) fnRoomMayUptoCard

/-- THE SECOND FORM's CARD OF 'laws.FnBestPhases'. -/
def fnBestPhasesUptoCard : Claim7 := { stood := { row := fnBestPhasesUptoRow, standIns := [], harness := (true, "b7e531c998dbac989a6cb2ee4eb230c6077a004a80300ff174bec41f0f22b6aa"), looks := false }, kinds := [], alts := [], laidByText := true, laidKinds := [.data, .data, .data], laidTests := true, laidLooks := .later }
def FnBestPhasesUptoCardSaid : Prop := Claim7.holds Tryd.pinned (.plain (OpenSpec.upto fnBestPhasesSpec)) fnBestPhasesUptoCard

/-- THE SECOND FORM's CARD OF 'laws.FnAlarmNext'. -/
def fnAlarmNextUptoCard : Claim7 := { stood := { row := fnAlarmNextUptoRow, standIns := [], harness := (true, "b7e531c998dbac989a6cb2ee4eb230c6077a004a80300ff174bec41f0f22b6aa"), looks := false }, kinds := [], alts := [], laidByText := true, laidKinds := [.data, .data, .data], laidTests := true, laidLooks := .later }
def FnAlarmNextUptoCardSaid : Prop := Claim7.holds Tryd.pinned (.plain (OpenSpec.upto fnAlarmNextSpec)) fnAlarmNextUptoCard

/-- THE SECOND FORM's CARD OF 'laws.FnAckOrder'. -/
def fnAckOrderUptoCard : Claim7 := { stood := { row := fnAckOrderUptoRow, standIns := [], harness := (true, "b7e531c998dbac989a6cb2ee4eb230c6077a004a80300ff174bec41f0f22b6aa"), looks := false }, kinds := [], alts := [], laidByText := true, laidKinds := [.data, .data, .data, .data], laidTests := true, laidLooks := .later }
def FnAckOrderUptoCardSaid : Prop := Claim7.holds Tryd.pinned (.plain (OpenSpec.upto fnAckOrderSpec)) fnAckOrderUptoCard
end Rows
end Go.Proofs.YteffcemgmabdnaaDoor
