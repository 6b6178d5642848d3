/-
  DERIVED. GIVEN WITH THE SEED: THE CARDS: each row of YtbebhbcjdiahcaaDoorRows.lean that lists a variable, with what it lists TIED to the program's text (the seventh form; the later family's looks); each row that meets fmt, with fmt's text TOLD by the authors' own Lean function (tested against real Go, not proved from fmt's source: count such statements apart). THE CARD IS WHAT COUNTS. Prove the row's statement (the work); the ties are given (YtbebhbcjdiahcaaDoorTie.lean); close each card by the builder's one call (the guide's Derived/Test/ToyasCard.lean, 'card_holds'). Laid BY PROGRAM, IN A SANDBOX (cutbox-door.mjs). By AI agents, Wed Nov 11 2026. No macro, syntax, notation, axiom, sorry.
-/
import Derived.Test.YtbebhbcjdiahcaaDoorRows
import GoSem.ClaimSeven
namespace Go.Proofs.YtbebhbcjdiahcaaDoor
namespace Rows

/-- THE TIED CARD OF 'laws.FnResiduals'. -/
def fnResidualsCard : Claim7 := { stood := { row := fnResidualsRow, standIns := [], harness := (true, "760f1f3caefdd6e5a752742b2b623d1302cbf79cc03fdad8059832f3059f5799"), looks := false }, kinds := [], alts := [], laidByText := true, laidKinds := [.data, .data, .data], laidTests := true, laidLooks := .later }
def FnResidualsCardSaid : Prop := Claim7.holds Tryd.pinned (.plain (OpenSpec.ofChange fnResidualsSpec)) fnResidualsCard

/-- THE TIED CARD OF 'laws.FnBadLine'. -/
def fnBadLineCard : Claim7 := { stood := { row := fnBadLineRow, standIns := [], harness := (true, "760f1f3caefdd6e5a752742b2b623d1302cbf79cc03fdad8059832f3059f5799"), looks := false }, kinds := [], alts := [], laidByText := true, laidKinds := [.data, .data, .data], laidTests := true, laidLooks := .later }
def FnBadLineCardSaid : Prop := Claim7.holds Tryd.pinned (.plain (OpenSpec.ofChange fnBadLineSpec)) fnBadLineCard

/-- THE TIED CARD OF 'laws.FnMendReadings'. -/
def fnMendReadingsCard : Claim7 := { stood := { row := fnMendReadingsRow, standIns := [], harness := (true, "760f1f3caefdd6e5a752742b2b623d1302cbf79cc03fdad8059832f3059f5799"), looks := false }, kinds := [], alts := [], laidByText := true, laidKinds := [.data, .data, .data], laidTests := true, laidLooks := .later }
def FnMendReadingsCardSaid : Prop := Claim7.holds Tryd.pinned (.plain (OpenSpec.ofChange fnMendReadingsSpec)) fnMendReadingsCard

/-- THE SECOND FORM's CARD OF 'laws.FnResiduals'. -/
def fnResidualsUptoCard : Claim7 := { stood := { row := fnResidualsUptoRow, standIns := [], harness := (true, "760f1f3caefdd6e5a752742b2b623d1302cbf79cc03fdad8059832f3059f5799"), looks := false }, kinds := [], alts := [], laidByText := true, laidKinds := [.data, .data, .data], laidTests := true, laidLooks := .later }
def FnResidualsUptoCardSaid : Prop := Claim7.holds Tryd.pinned (.plain (OpenSpec.upto fnResidualsSpec)) fnResidualsUptoCard

/-- THE SECOND FORM's CARD OF 'laws.FnBadLine'. -/
def fnBadLineUptoCard : Claim7 := { stood := { row := fnBadLineUptoRow, standIns := [], harness := (true, "760f1f3caefdd6e5a752742b2b623d1302cbf79cc03fdad8059832f3059f5799"), looks := false }, kinds := [], alts := [], laidByText := true, laidKinds := [.data, .data, .data], laidTests := true, laidLooks := .later }
def FnBadLineUptoCardSaid : Prop := Claim7.holds Tryd.pinned (.plain (OpenSpec.upto fnBadLineSpec)) fnBadLineUptoCard

/-- THE SECOND FORM's CARD OF 'laws.FnMendReadings'. -/
def fnMendReadingsUptoCard : Claim7 := { stood := { row := fnMendReadingsUptoRow, standIns := [], harness := (true, "760f1f3caefdd6e5a752742b2b623d1302cbf79cc03fdad8059832f3059f5799"), looks := false }, kinds := [], alts := [], laidByText := true, laidKinds := [.data, .data, .data], laidTests := true, laidLooks := .later }
def FnMendReadingsUptoCardSaid : Prop := Claim7.holds Tryd.pinned (.plain (OpenSpec.upto fnMendReadingsSpec)) fnMendReadingsUptoCard
end Rows
end Go.Proofs.YtbebhbcjdiahcaaDoor
