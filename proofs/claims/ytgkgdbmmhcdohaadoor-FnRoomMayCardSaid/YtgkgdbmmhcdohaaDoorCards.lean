/-
  DERIVED. GIVEN WITH THE SEED: THE CARDS: each row of YtgkgdbmmhcdohaaDoorRows.lean that lists a variable, with what it lists TIED to the program's text (the seventh form; the later family's looks); each row that meets fmt, with fmt's text TOLD by the authors' own Lean function (tested against real Go, not proved from fmt's source: count such statements apart). THE CARD IS WHAT COUNTS. Prove the row's statement (the work); the ties are given (YtgkgdbmmhcdohaaDoorTie.lean); close each card by the builder's one call (the guide's Derived/Test/ToyasCard.lean, 'card_holds'). Laid BY PROGRAM, IN A SANDBOX (cutbox-door.mjs). By AI agents, Wed Nov 11 2026. No macro, syntax, notation, axiom, sorry.
-/
import Derived.Test.YtgkgdbmmhcdohaaDoorRows
import GoSem.ClaimSeven
namespace Go.Proofs.YtgkgdbmmhcdohaaDoor
namespace Rows

/-- THE TIED CARD OF 'laws.FnRoomsValid'. -/
def fnRoomsValidCard : Claim7 := { stood := { row := fnRoomsValidRow, standIns := [], harness := (true, "f025fd3e88a34669b94783c0d862689ee8654faa9145deb0364673b32ec04e2b"), looks := false }, kinds := [], alts := [], laidByText := true, laidKinds := [.data, .data, .data], laidTests := true, laidLooks := .later }
def FnRoomsValidCardSaid : Prop := Claim7.holds Tryd.pinned (.plain (OpenSpec.ofChange fnRoomsValidSpec)) fnRoomsValidCard

/-- THE TIED CARD OF 'laws.FnRoomMay'. -/
def fnRoomMayCard : Claim7 := { stood := { row := fnRoomMayRow, standIns := [], harness := (true, "f025fd3e88a34669b94783c0d862689ee8654faa9145deb0364673b32ec04e2b"), looks := false }, kinds := [], alts := [], laidByText := true, laidKinds := [.data, .data, .data], laidTests := true, laidLooks := .later }
def FnRoomMayCardSaid : Prop := Claim7.holds Tryd.pinned (.plain (OpenSpec.ofChange fnRoomMaySpec)) fnRoomMayCard

/-- THE TIED CARD OF 'laws.FnResiduals'. -/
def fnResidualsCard : Claim7 := { stood := { row := fnResidualsRow, standIns := [], harness := (true, "f025fd3e88a34669b94783c0d862689ee8654faa9145deb0364673b32ec04e2b"), looks := false }, kinds := [], alts := [], laidByText := true, laidKinds := [.data, .data, .data], laidTests := true, laidLooks := .later }
def FnResidualsCardSaid : Prop := Claim7.holds Tryd.pinned (.plain (OpenSpec.ofChange fnResidualsSpec)) fnResidualsCard

/-- THE TIED CARD OF 'laws.FnBadLine'. -/
def fnBadLineCard : Claim7 := { stood := { row := fnBadLineRow, standIns := [], harness := (true, "f025fd3e88a34669b94783c0d862689ee8654faa9145deb0364673b32ec04e2b"), looks := false }, kinds := [], alts := [], laidByText := true, laidKinds := [.data, .data, .data], laidTests := true, laidLooks := .later }
def FnBadLineCardSaid : Prop := Claim7.holds Tryd.pinned (.plain (OpenSpec.ofChange fnBadLineSpec)) fnBadLineCard

/-- THE TIED CARD OF 'laws.FnMendReadings'. -/
def fnMendReadingsCard : Claim7 := { stood := { row := fnMendReadingsRow, standIns := [], harness := (true, "f025fd3e88a34669b94783c0d862689ee8654faa9145deb0364673b32ec04e2b"), looks := false }, kinds := [], alts := [], laidByText := true, laidKinds := [.data, .data, .data], laidTests := true, laidLooks := .later }
def FnMendReadingsCardSaid : Prop := Claim7.holds Tryd.pinned (.plain (OpenSpec.ofChange fnMendReadingsSpec)) fnMendReadingsCard

/-- THE SECOND FORM's CARD OF 'laws.FnRoomsValid'. -/
def fnRoomsValidUptoCard : Claim7 := { stood := { row := fnRoomsValidUptoRow, standIns := [], harness := (true, "f025fd3e88a34669b94783c0d862689ee8654faa9145deb0364673b32ec04e2b"), looks := false }, kinds := [], alts := [], laidByText := true, laidKinds := [.data, .data, .data], laidTests := true, laidLooks := .later }
def FnRoomsValidUptoCardSaid : Prop := Claim7.holds Tryd.pinned (.plain (OpenSpec.upto fnRoomsValidSpec)) fnRoomsValidUptoCard

/-- THE SECOND FORM's CARD OF 'laws.FnRoomMay'. -/
def fnRoomMayUptoCard : Claim7 := { stood := { row := fnRoomMayUptoRow, standIns := [], harness := (true, "f025fd3e88a34669b94783c0d862689ee8654faa9145deb0364673b32ec04e2b"), looks := false }, kinds := [], alts := [], laidByText := true, laidKinds := [.data, .data, .data], laidTests := true, laidLooks := .later }
def FnRoomMayUptoCardSaid : Prop := Claim7.holds Tryd.pinned (.plain (OpenSpec.upto fnRoomMaySpec)) fnRoomMayUptoCard

/-- THE SECOND FORM's CARD OF 'laws.FnResiduals'. -/
def fnResidualsUptoCard : Claim7 := { stood := { row := fnResidualsUptoRow, standIns := [], harness := (true, "f025fd3e88a34669b94783c0d862689ee8654faa9145deb0364673b32ec04e2b"), looks := false }, kinds := [], alts := [], laidByText := true, laidKinds := [.data, .data, .data], laidTests := true, laidLooks := .later }
def FnResidualsUptoCardSaid : Prop := Claim7.holds Tryd.pinned (.plain (OpenSpec.upto fnResidualsSpec)) fnResidualsUptoCard

/-- THE SECOND FORM's CARD OF 'laws.FnBadLine'. -/
def fnBadLineUptoCard : Claim7 := { stood := { row := fnBadLineUptoRow, standIns := [], harness := (true, "f025fd3e88a34669b94783c0d862689ee8654faa9145deb0364673b32ec04e2b"), looks := false }, kinds := [], alts := [], laidByText := true, laidKinds := [.data, .data, .data], laidTests := true, laidLooks := .later }
def FnBadLineUptoCardSaid : Prop := Claim7.holds Tryd.pinned (.plain (OpenSpec.upto fnBadLineSpec)) fnBadLineUptoCard

/-- THE SECOND FORM's CARD OF 'laws.FnMendReadings'. -/
def fnMendReadingsUptoCard : Claim7 := { stood := { row := fnMendReadingsUptoRow, standIns := [], harness := (true, "f025fd3e88a34669b94783c0d862689ee8654faa9145deb0364673b32ec04e2b"), looks := false }, kinds := [], alts := [], laidByText := true, laidKinds := [.data, .data, .data], laidTests := true, laidLooks := .later }
def FnMendReadingsUptoCardSaid : Prop := Claim7.holds Tryd.pinned (.plain (OpenSpec.upto fnMendReadingsSpec)) fnMendReadingsUptoCard
end Rows
end Go.Proofs.YtgkgdbmmhcdohaaDoor
