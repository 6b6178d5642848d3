/-
  DERIVED. GIVEN WITH THE SEED: THE CARDS: each row of YtijnahflfbjgiaaDoorRows.lean that lists a variable, with what it lists TIED to the program's text (the seventh form; the later family's looks); each row that meets fmt, with fmt's text TOLD by the authors' own Lean function (tested against real Go, not proved from fmt's source: count such statements apart). THE CARD IS WHAT COUNTS. Prove the row's statement (the work); the ties are given (YtijnahflfbjgiaaDoorTie.lean); close each card by the builder's one call (the guide's Derived/Test/ToyasCard.lean, 'card_holds'). Laid BY PROGRAM, IN A SANDBOX (cutbox-door.mjs). By AI agents, Wed Nov 11 2026. No macro, syntax, notation, axiom, sorry.
-/
import Derived.Test.YtijnahflfbjgiaaDoorRows
import GoSem.ClaimSeven
namespace Go.Proofs.YtijnahflfbjgiaaDoor
namespace Rows

/-- THE TIED CARD OF 'laws.FnAlarmTell'. -/
def fnAlarmTellCard : Claim7 := { stood := { row := fnAlarmTellRow, standIns := [], harness := (true, "d5a09e215dcac2389ca0f3f78def62b44b61b2f435237f5b34a72ae7ef454e8a"), looks := false }, kinds := [], alts := [], laidByText := true, laidKinds := [.data, .data, .data, .data], laidTests := true, laidLooks := .later }
def FnAlarmTellCardSaid : Prop := Claim7.holds Tryd.pinned (.plain (OpenSpec.ofChange fnAlarmTellSpec)) fnAlarmTellCard

/-- THE TIED CARD OF 'laws.FnAckOrder'. -/
def fnAckOrderCard : Claim7 := { stood := { row := fnAckOrderRow, standIns := [], harness := (true, "d5a09e215dcac2389ca0f3f78def62b44b61b2f435237f5b34a72ae7ef454e8a"), looks := false }, kinds := [], alts := [], laidByText := true, laidKinds := [.data, .data, .data, .data], laidTests := true, laidLooks := .later }
def FnAckOrderCardSaid : Prop := Claim7.holds Tryd.pinned (.plain (OpenSpec.ofChange fnAckOrderSpec)) fnAckOrderCard

/-- THE TIED CARD OF 'laws.FnRoomsValid'. -/
def fnRoomsValidCard : Claim7 := { stood := { row := fnRoomsValidRow, standIns := [], harness := (true, "d5a09e215dcac2389ca0f3f78def62b44b61b2f435237f5b34a72ae7ef454e8a"), looks := false }, kinds := [], alts := [], laidByText := true, laidKinds := [.data, .data, .data], laidTests := true, laidLooks := .later }
def FnRoomsValidCardSaid : Prop := Claim7.holds Tryd.pinned (.plain (OpenSpec.ofChange fnRoomsValidSpec)) fnRoomsValidCard

/-- THE TIED CARD OF 'laws.FnRoomMay'. -/
def fnRoomMayCard : Claim7 := { stood := { row := fnRoomMayRow, standIns := [], harness := (true, "d5a09e215dcac2389ca0f3f78def62b44b61b2f435237f5b34a72ae7ef454e8a"), looks := false }, kinds := [], alts := [], laidByText := true, laidKinds := [.data, .data, .data], laidTests := true, laidLooks := .later }
def FnRoomMayCardSaid : Prop := Claim7.holds Tryd.pinned (.plain (OpenSpec.ofChange fnRoomMaySpec)) fnRoomMayCard

/-- THE TIED CARD OF 'laws.FnCutCapacity'. -/
def fnCutCapacityCard : Claim7 := { stood := { row := fnCutCapacityRow, standIns := [], harness := (true, "d5a09e215dcac2389ca0f3f78def62b44b61b2f435237f5b34a72ae7ef454e8a"), looks := false }, kinds := [], alts := [], laidByText := true, laidKinds := [.data, .data, .data], laidTests := true, laidLooks := .later }
def FnCutCapacityCardSaid : Prop := Claim7.holds Tryd.pinned (.plain (OpenSpec.ofChange fnCutCapacitySpec)) fnCutCapacityCard

/-- THE TIED CARD OF 'laws.FnFlowValue'. -/
def fnFlowValueCard : Claim7 := { stood := { row := fnFlowValueRow, standIns := [], harness := (true, "d5a09e215dcac2389ca0f3f78def62b44b61b2f435237f5b34a72ae7ef454e8a"), looks := false }, kinds := [], alts := [], laidByText := true, laidKinds := [.data, .data, .data], laidTests := true, laidLooks := .later }
def FnFlowValueCardSaid : Prop := Claim7.holds Tryd.pinned (.plain (OpenSpec.ofChange fnFlowValueSpec)) fnFlowValueCard

/-- THE TIED CARD OF 'laws.FnMostFlows'. -/
def fnMostFlowsCard : Claim7 := { stood := { row := fnMostFlowsRow, standIns := [], harness := (true, "d5a09e215dcac2389ca0f3f78def62b44b61b2f435237f5b34a72ae7ef454e8a"), looks := false }, kinds := [], alts := [], laidByText := true, laidKinds := [.data, .data, .data], laidTests := true, laidLooks := .later }
def FnMostFlowsCardSaid : Prop := Claim7.holds Tryd.pinned (.plain (OpenSpec.ofChange fnMostFlowsSpec)) fnMostFlowsCard

/-- THE TIED CARD OF 'laws.FnMostFlow'. -/
def fnMostFlowCard : Claim7 := { stood := { row := fnMostFlowRow, standIns := [], harness := (true, "d5a09e215dcac2389ca0f3f78def62b44b61b2f435237f5b34a72ae7ef454e8a"), looks := false }, kinds := [], alts := [], laidByText := true, laidKinds := [.data, .data, .data], laidTests := true, laidLooks := .later }
def FnMostFlowCardSaid : Prop := Claim7.holds Tryd.pinned (.plain (OpenSpec.ofChange fnMostFlowSpec)) fnMostFlowCard

/-- THE TIED CARD OF 'laws.FnWeakCut'. -/
def fnWeakCutCard : Claim7 := { stood := { row := fnWeakCutRow, standIns := [], harness := (true, "d5a09e215dcac2389ca0f3f78def62b44b61b2f435237f5b34a72ae7ef454e8a"), looks := false }, kinds := [], alts := [], laidByText := true, laidKinds := [.data, .data, .data], laidTests := true, laidLooks := .later }
def FnWeakCutCardSaid : Prop := Claim7.holds Tryd.pinned (.plain (OpenSpec.ofChange fnWeakCutSpec)) fnWeakCutCard

/-- THE SECOND FORM's CARD OF 'laws.FnAlarmTell'. -/
def fnAlarmTellUptoCard : Claim7 := { stood := { row := fnAlarmTellUptoRow, standIns := [], harness := (true, "d5a09e215dcac2389ca0f3f78def62b44b61b2f435237f5b34a72ae7ef454e8a"), looks := false }, kinds := [], alts := [], laidByText := true, laidKinds := [.data, .data, .data, .data], laidTests := true, laidLooks := .later }
def FnAlarmTellUptoCardSaid : Prop := Claim7.holds Tryd.pinned (.plain (OpenSpec.upto fnAlarmTellSpec)) fnAlarmTellUptoCard

/-- THE SECOND FORM's CARD OF 'laws.FnAckOrder'. -/
def fnAckOrderUptoCard : Claim7 := { stood := { row := fnAckOrderUptoRow, standIns := [], harness := (true, "d5a09e215dcac2389ca0f3f78def62b44b61b2f435237f5b34a72ae7ef454e8a"), looks := false }, kinds := [], alts := [], laidByText := true, laidKinds := [.data, .data, .data, .data], laidTests := true, laidLooks := .later }
def FnAckOrderUptoCardSaid : Prop := Claim7.holds Tryd.pinned (.plain (OpenSpec.upto fnAckOrderSpec)) fnAckOrderUptoCard

/-- THE SECOND FORM's CARD OF 'laws.FnRoomsValid'. -/
def fnRoomsValidUptoCard : Claim7 := { stood := { row := fnRoomsValidUptoRow, standIns := [], harness := (true, "d5a09e215dcac2389ca0f3f78def62b44b61b2f435237f5b34a72ae7ef454e8a"), looks := false }, kinds := [], alts := [], laidByText := true, laidKinds := [.data, .data, .data], laidTests := true, laidLooks := .later }
def FnRoomsValidUptoCardSaid : Prop := Claim7.holds Tryd.pinned (.plain (OpenSpec.upto fnRoomsValidSpec)) fnRoomsValidUptoCard

/-- THE SECOND FORM's CARD OF 'laws.FnRoomMay'. -/
def fnRoomMayUptoCard : Claim7 := { stood := { row := fnRoomMayUptoRow, standIns := [], harness := (true, "d5a09e215dcac2389ca0f3f78def62b44b61b2f435237f5b34a72ae7ef454e8a"), looks := false }, kinds := [], alts := [], laidByText := true, laidKinds := [.data, .data, .data], laidTests := true, laidLooks := .later }
def FnRoomMayUptoCardSaid : Prop := Claim7.holds Tryd.pinned (.plain (OpenSpec.upto fnRoomMaySpec)) fnRoomMayUptoCard

/-- THE SECOND FORM's CARD OF 'laws.FnCutCapacity'. -/
def fnCutCapacityUptoCard : Claim7 := { stood := { row := fnCutCapacityUptoRow, standIns := [], harness := (true, "d5a09e215dcac2389ca0f3f78def62b44b61b2f435237f5b34a72ae7ef454e8a"), looks := false }, kinds := [], alts := [], laidByText := true, laidKinds := [.data, .data, .data], laidTests := true, laidLooks := .later }
def FnCutCapacityUptoCardSaid : Prop := Claim7.holds Tryd.pinned (.plain (OpenSpec.upto fnCutCapacitySpec)) fnCutCapacityUptoCard

/-- THE SECOND FORM's CARD OF 'laws.FnFlowValue'. -/
def fnFlowValueUptoCard : Claim7 := { stood := { row := fnFlowValueUptoRow, standIns := [], harness := (true, "d5a09e215dcac2389ca0f3f78def62b44b61b2f435237f5b34a72ae7ef454e8a"), looks := false }, kinds := [], alts := [], laidByText := true, laidKinds := [.data, .data, .data], laidTests := true, laidLooks := .later }
def FnFlowValueUptoCardSaid : Prop := Claim7.holds Tryd.pinned (.plain (OpenSpec.upto fnFlowValueSpec)) fnFlowValueUptoCard

/-- THE SECOND FORM's CARD OF 'laws.FnMostFlows'. -/
def fnMostFlowsUptoCard : Claim7 := { stood := { row := fnMostFlowsUptoRow, standIns := [], harness := (true, "d5a09e215dcac2389ca0f3f78def62b44b61b2f435237f5b34a72ae7ef454e8a"), looks := false }, kinds := [], alts := [], laidByText := true, laidKinds := [.data, .data, .data], laidTests := true, laidLooks := .later }
def FnMostFlowsUptoCardSaid : Prop := Claim7.holds Tryd.pinned (.plain (OpenSpec.upto fnMostFlowsSpec)) fnMostFlowsUptoCard

/-- THE SECOND FORM's CARD OF 'laws.FnMostFlow'. -/
def fnMostFlowUptoCard : Claim7 := { stood := { row := fnMostFlowUptoRow, standIns := [], harness := (true, "d5a09e215dcac2389ca0f3f78def62b44b61b2f435237f5b34a72ae7ef454e8a"), looks := false }, kinds := [], alts := [], laidByText := true, laidKinds := [.data, .data, .data], laidTests := true, laidLooks := .later }
def FnMostFlowUptoCardSaid : Prop := Claim7.holds Tryd.pinned (.plain (OpenSpec.upto fnMostFlowSpec)) fnMostFlowUptoCard

/-- THE SECOND FORM's CARD OF 'laws.FnWeakCut'. -/
def fnWeakCutUptoCard : Claim7 := { stood := { row := fnWeakCutUptoRow, standIns := [], harness := (true, "d5a09e215dcac2389ca0f3f78def62b44b61b2f435237f5b34a72ae7ef454e8a"), looks := false }, kinds := [], alts := [], laidByText := true, laidKinds := [.data, .data, .data], laidTests := true, laidLooks := .later }
def FnWeakCutUptoCardSaid : Prop := Claim7.holds Tryd.pinned (.plain (OpenSpec.upto fnWeakCutSpec)) fnWeakCutUptoCard
end Rows
end Go.Proofs.YtijnahflfbjgiaaDoor
