/-
  No cell of these rows narrows 'for every input' (looked for: loops, veiled, ifaces, maps, wideKeys, modest, calm, conditions, laid).
  DERIVED. THE GIVEN ROWS OF THIS SEAT. 10 by the template 'for every input the law returns true; each argument reads behind the call as it read before'; 0 by the template 'total and deterministic' (their statements: YtjdmihlgmhgnmaaTotals.lean).
  GIVEN WITH THE SEED: the statements are not yours to turn. If you find one false, say at which input.
  Laid BY PROGRAM, IN A SANDBOX (cutbox-rows.mjs): the forced cells as the released guide's own fill.sh prints them over the translation 234dd6fc09b7d0d4… (all of the seat's roots in one cut). By AI agents, Wed Nov 11 2026. No macro, syntax, notation, axiom, sorry.
-/
import Derived.Test.YtjdmihlgmhgnmaaChecked
import GoSem.Claim
import GoSem.ClaimJoined
import GoSem.ClaimMapViews
import Derived.JoinedTies
import Derived.KernelRfl
namespace Go.Proofs.Ytjdmihlgmhgnmaa
/- THE CELL 'sum', in the pinned program and in every row, IS THE sha256 OF THE DUMP (.gsa) THAT YtjdmihlgmhgnmaaProg.lean LOADS. Nothing in Lean hashes anything: it is a label: what it is worth is what the hold of that sum in a sandbox is worth. -/
noncomputable def Try.pinned : Pinned := { name := "ytjdmihlgmhgnmaa", sum := "234dd6fc09b7d0d40acddbbb8d89b92e414768e481baa593239cc075db6630a8", checked := Try.checked }
namespace Rows
def none {H : Type} : Left H := { results := [], args := [] }

/-- 'laws.FnExactBestPhases': WHATEVER THE INPUT: true; the input reads as it did. -/
def fnExactBestPhasesSpec : ChangeSpec := { name := "fnExactBestPhases", fn := fun _ => fun
  | [d] => { results := [.lit (.bool true)], args := [d] }
  | _ => none }
def fnExactBestPhasesRow : OpenClaim := { program := "ytjdmihlgmhgnmaa", sum := "234dd6fc09b7d0d40acddbbb8d89b92e414768e481baa593239cc075db6630a8", func := "loop.example/powercontrol/laws.FnExactBestPhases", spec := "fnExactBestPhases", recurses := true, apart := false }
def FnExactBestPhasesSaid : Prop := fnExactBestPhasesRow.holds Try.pinned (OpenSpec.ofChange fnExactBestPhasesSpec)

/-- ITS FALSE NEIGHBOUR: 'it returns false'. Refute it at one input. -/
def fnExactBestPhasesWrong : ChangeSpec := { name := "fnExactBestPhases", fn := fun _ => fun
  | [d] => { results := [.lit (.bool false)], args := [d] }
  | _ => none }
def FnExactBestPhasesWrongFalsely : Prop := fnExactBestPhasesRow.holds Try.pinned (OpenSpec.ofChange fnExactBestPhasesWrong)

/-- 'laws.FnExactFlowValue': WHATEVER THE INPUT: true; the input reads as it did. -/
def fnExactFlowValueSpec : ChangeSpec := { name := "fnExactFlowValue", fn := fun _ => fun
  | [d1, d2, d3, d4, d5] => { results := [.lit (.bool true)], args := [d1, d2, d3, d4, d5] }
  | _ => none }
def fnExactFlowValueRow : OpenClaim := { program := "ytjdmihlgmhgnmaa", sum := "234dd6fc09b7d0d40acddbbb8d89b92e414768e481baa593239cc075db6630a8", func := "loop.example/powercontrol/laws.FnExactFlowValue", spec := "fnExactFlowValue", apart := false }
def FnExactFlowValueSaid : Prop := fnExactFlowValueRow.holds Try.pinned (OpenSpec.ofChange fnExactFlowValueSpec)

/-- ITS FALSE NEIGHBOUR: 'it returns false'. Refute it at one input. -/
def fnExactFlowValueWrong : ChangeSpec := { name := "fnExactFlowValue", fn := fun _ => fun
  | [d1, d2, d3, d4, d5] => { results := [.lit (.bool false)], args := [d1, d2, d3, d4, d5] }
  | _ => none }
def FnExactFlowValueWrongFalsely : Prop := fnExactFlowValueRow.holds Try.pinned (OpenSpec.ofChange fnExactFlowValueWrong)

/-- 'laws.FnExactCutCapacity': WHATEVER THE INPUT: true; the input reads as it did. -/
def fnExactCutCapacitySpec : ChangeSpec := { name := "fnExactCutCapacity", fn := fun _ => fun
  | [d1, d2, d3] => { results := [.lit (.bool true)], args := [d1, d2, d3] }
  | _ => none }
def fnExactCutCapacityRow : OpenClaim := { program := "ytjdmihlgmhgnmaa", sum := "234dd6fc09b7d0d40acddbbb8d89b92e414768e481baa593239cc075db6630a8", func := "loop.example/powercontrol/laws.FnExactCutCapacity", spec := "fnExactCutCapacity", apart := false }
def FnExactCutCapacitySaid : Prop := fnExactCutCapacityRow.holds Try.pinned (OpenSpec.ofChange fnExactCutCapacitySpec)

/-- ITS FALSE NEIGHBOUR: 'it returns false'. Refute it at one input. -/
def fnExactCutCapacityWrong : ChangeSpec := { name := "fnExactCutCapacity", fn := fun _ => fun
  | [d1, d2, d3] => { results := [.lit (.bool false)], args := [d1, d2, d3] }
  | _ => none }
def FnExactCutCapacityWrongFalsely : Prop := fnExactCutCapacityRow.holds Try.pinned (OpenSpec.ofChange fnExactCutCapacityWrong)

/-- 'laws.FnExactMostFlows': WHATEVER THE INPUT: true; the input reads as it did. -/
def fnExactMostFlowsSpec : ChangeSpec := { name := "fnExactMostFlows", fn := fun _ => fun
  | [d1, d2, d3, d4] => { results := [.lit (.bool true)], args := [d1, d2, d3, d4] }
  | _ => none }
def fnExactMostFlowsRow : OpenClaim := { program := "ytjdmihlgmhgnmaa", sum := "234dd6fc09b7d0d40acddbbb8d89b92e414768e481baa593239cc075db6630a8", func := "loop.example/powercontrol/laws.FnExactMostFlows", spec := "fnExactMostFlows", unfollowed := true, recurses := true, apart := false }
def FnExactMostFlowsSaid : Prop := fnExactMostFlowsRow.holds Try.pinned (OpenSpec.ofChange fnExactMostFlowsSpec)

/-- ITS FALSE NEIGHBOUR: 'it returns false'. Refute it at one input. -/
def fnExactMostFlowsWrong : ChangeSpec := { name := "fnExactMostFlows", fn := fun _ => fun
  | [d1, d2, d3, d4] => { results := [.lit (.bool false)], args := [d1, d2, d3, d4] }
  | _ => none }
def FnExactMostFlowsWrongFalsely : Prop := fnExactMostFlowsRow.holds Try.pinned (OpenSpec.ofChange fnExactMostFlowsWrong)

/-- 'laws.FnExactMostFlow': WHATEVER THE INPUT: true; the input reads as it did. -/
def fnExactMostFlowSpec : ChangeSpec := { name := "fnExactMostFlow", fn := fun _ => fun
  | [d1, d2, d3, d4] => { results := [.lit (.bool true)], args := [d1, d2, d3, d4] }
  | _ => none }
def fnExactMostFlowRow : OpenClaim := { program := "ytjdmihlgmhgnmaa", sum := "234dd6fc09b7d0d40acddbbb8d89b92e414768e481baa593239cc075db6630a8", func := "loop.example/powercontrol/laws.FnExactMostFlow", spec := "fnExactMostFlow", unfollowed := true, recurses := true, apart := false }
def FnExactMostFlowSaid : Prop := fnExactMostFlowRow.holds Try.pinned (OpenSpec.ofChange fnExactMostFlowSpec)

/-- ITS FALSE NEIGHBOUR: 'it returns false'. Refute it at one input. -/
def fnExactMostFlowWrong : ChangeSpec := { name := "fnExactMostFlow", fn := fun _ => fun
  | [d1, d2, d3, d4] => { results := [.lit (.bool false)], args := [d1, d2, d3, d4] }
  | _ => none }
def FnExactMostFlowWrongFalsely : Prop := fnExactMostFlowRow.holds Try.pinned (OpenSpec.ofChange fnExactMostFlowWrong)

/-- 'laws.FnExactWeakCut': WHATEVER THE INPUT: true; the input reads as it did. -/
def fnExactWeakCutSpec : ChangeSpec := { name := "fnExactWeakCut", fn := fun _ => fun
  | [d1, d2, d3, d4] => { results := [.lit (.bool true)], args := [d1, d2, d3, d4] }
  | _ => none }
def fnExactWeakCutRow : OpenClaim := { program := "ytjdmihlgmhgnmaa", sum := "234dd6fc09b7d0d40acddbbb8d89b92e414768e481baa593239cc075db6630a8", func := "loop.example/powercontrol/laws.FnExactWeakCut", spec := "fnExactWeakCut", unfollowed := true, recurses := true, apart := false }
def FnExactWeakCutSaid : Prop := fnExactWeakCutRow.holds Try.pinned (OpenSpec.ofChange fnExactWeakCutSpec)

/-- ITS FALSE NEIGHBOUR: 'it returns false'. Refute it at one input. -/
def fnExactWeakCutWrong : ChangeSpec := { name := "fnExactWeakCut", fn := fun _ => fun
  | [d1, d2, d3, d4] => { results := [.lit (.bool false)], args := [d1, d2, d3, d4] }
  | _ => none }
def FnExactWeakCutWrongFalsely : Prop := fnExactWeakCutRow.holds Try.pinned (OpenSpec.ofChange fnExactWeakCutWrong)

/-- 'laws.FnExactAckOrder': WHATEVER THE INPUT: true; the input reads as it did. -/
def fnExactAckOrderSpec : ChangeSpec := { name := "fnExactAckOrder", fn := fun _ => fun
  | [d] => { results := [.lit (.bool true)], args := [d] }
  | _ => none }
def fnExactAckOrderRow : OpenClaim := { program := "ytjdmihlgmhgnmaa", sum := "234dd6fc09b7d0d40acddbbb8d89b92e414768e481baa593239cc075db6630a8", func := "loop.example/powercontrol/laws.FnExactAckOrder", spec := "fnExactAckOrder", unfollowed := true, recurses := true, apart := false }
def FnExactAckOrderSaid : Prop := fnExactAckOrderRow.holds Try.pinned (OpenSpec.ofChange fnExactAckOrderSpec)

/-- ITS FALSE NEIGHBOUR: 'it returns false'. Refute it at one input. -/
def fnExactAckOrderWrong : ChangeSpec := { name := "fnExactAckOrder", fn := fun _ => fun
  | [d] => { results := [.lit (.bool false)], args := [d] }
  | _ => none }
def FnExactAckOrderWrongFalsely : Prop := fnExactAckOrderRow.holds Try.pinned (OpenSpec.ofChange fnExactAckOrderWrong)

/-- 'laws.FnExactResiduals': WHATEVER THE INPUT: true; the input reads as it did. -/
def fnExactResidualsSpec : ChangeSpec := { name := "fnExactResiduals", fn := fun _ => fun
  | [d1, d2, d3, d4] => { results := [.lit (.bool true)], args := [d1, d2, d3, d4] }
  | _ => none }
def fnExactResidualsRow : OpenClaim := { program := "ytjdmihlgmhgnmaa", sum := "234dd6fc09b7d0d40acddbbb8d89b92e414768e481baa593239cc075db6630a8", func := "loop.example/powercontrol/laws.FnExactResiduals", spec := "fnExactResiduals", apart := false }
def FnExactResidualsSaid : Prop := fnExactResidualsRow.holds Try.pinned (OpenSpec.ofChange fnExactResidualsSpec)

/-- ITS FALSE NEIGHBOUR: 'it returns false'. Refute it at one input. -/
def fnExactResidualsWrong : ChangeSpec := { name := "fnExactResiduals", fn := fun _ => fun
  | [d1, d2, d3, d4] => { results := [.lit (.bool false)], args := [d1, d2, d3, d4] }
  | _ => none }
def FnExactResidualsWrongFalsely : Prop := fnExactResidualsRow.holds Try.pinned (OpenSpec.ofChange fnExactResidualsWrong)

/-- 'laws.FnExactBadLine': WHATEVER THE INPUT: true; the input reads as it did. -/
def fnExactBadLineSpec : ChangeSpec := { name := "fnExactBadLine", fn := fun _ => fun
  | [d1, d2, d3, d4] => { results := [.lit (.bool true)], args := [d1, d2, d3, d4] }
  | _ => none }
def fnExactBadLineRow : OpenClaim := { program := "ytjdmihlgmhgnmaa", sum := "234dd6fc09b7d0d40acddbbb8d89b92e414768e481baa593239cc075db6630a8", func := "loop.example/powercontrol/laws.FnExactBadLine", spec := "fnExactBadLine", unfollowed := true, recurses := true, apart := false }
def FnExactBadLineSaid : Prop := fnExactBadLineRow.holds Try.pinned (OpenSpec.ofChange fnExactBadLineSpec)

/-- ITS FALSE NEIGHBOUR: 'it returns false'. Refute it at one input. -/
def fnExactBadLineWrong : ChangeSpec := { name := "fnExactBadLine", fn := fun _ => fun
  | [d1, d2, d3, d4] => { results := [.lit (.bool false)], args := [d1, d2, d3, d4] }
  | _ => none }
def FnExactBadLineWrongFalsely : Prop := fnExactBadLineRow.holds Try.pinned (OpenSpec.ofChange fnExactBadLineWrong)

/-- 'laws.FnExactMendReadings': WHATEVER THE INPUT: true; the input reads as it did. -/
def fnExactMendReadingsSpec : ChangeSpec := { name := "fnExactMendReadings", fn := fun _ => fun
  | [d1, d2, d3, d4] => { results := [.lit (.bool true)], args := [d1, d2, d3, d4] }
  | _ => none }
def fnExactMendReadingsRow : OpenClaim := { program := "ytjdmihlgmhgnmaa", sum := "234dd6fc09b7d0d40acddbbb8d89b92e414768e481baa593239cc075db6630a8", func := "loop.example/powercontrol/laws.FnExactMendReadings", spec := "fnExactMendReadings", unfollowed := true, recurses := true, apart := false }
def FnExactMendReadingsSaid : Prop := fnExactMendReadingsRow.holds Try.pinned (OpenSpec.ofChange fnExactMendReadingsSpec)

/-- ITS FALSE NEIGHBOUR: 'it returns false'. Refute it at one input. -/
def fnExactMendReadingsWrong : ChangeSpec := { name := "fnExactMendReadings", fn := fun _ => fun
  | [d1, d2, d3, d4] => { results := [.lit (.bool false)], args := [d1, d2, d3, d4] }
  | _ => none }
def FnExactMendReadingsWrongFalsely : Prop := fnExactMendReadingsRow.holds Try.pinned (OpenSpec.ofChange fnExactMendReadingsWrong)

/- THE SECOND FORM. 'bulk': how many values and letters a reading holds, each counted each time it is reached (what is shared counts as often as it is met; a slice's spare places count too). A statement '..UptoSaid' is the law's where the arguments, and the package variables that the reading takes, are together of bulk at most 1048576: NARROWER than '..Said'. Prove '..Said' where nothing that the law and all that it calls make is longer than what came in: it says more and counts as full. Else prove '..UptoSaid'. A law counts once. -/
mutual
def uptoBulk {H : Type} : DataW H → Nat
  | .lit (.string bytes) => bytes.length + 1
  | .lit _ => 1
  | .nil => 1
  | .ptr d => uptoBulk d + 1
  | .slice elems spare => uptoBulkAll elems + uptoBulkAll spare + 1
  | .agg parts => uptoBulkAll parts + 1
  | .iface _ d => uptoBulk d + 1
  | .map entries => uptoBulkEntries entries + 1
  | .held _ => 1
def uptoBulkAll {H : Type} : List (DataW H) → Nat
  | [] => 0
  | d :: r => uptoBulk d + uptoBulkAll r
def uptoBulkEntries {H : Type} : List (Lit × DataW H) → Nat
  | [] => 0
  | x :: r => uptoBulkEntry x + uptoBulkEntries r
def uptoBulkEntry {H : Type} : Lit × DataW H → Nat
  | (.string bytes, d) => bytes.length + uptoBulk d + 1
  | (_, d) => uptoBulk d + 1
 end
def uptoSmall : (H : Type) → List (DataW H) → Bool := fun _ ds => decide (uptoBulkAll ds ≤ 1048576)
def OpenSpec.upto (s : _root_.Go.ChangeSpec) : _root_.Go.OpenSpec := { _root_.Go.OpenSpec.ofChange s with cond := some uptoSmall }

/-- 'laws.FnExactBestPhases', WHERE WHAT IT READS IS OF BULK AT MOST 1048576: true; the input reads as it did. -/
def fnExactBestPhasesUptoRow : OpenClaim := { program := "ytjdmihlgmhgnmaa", sum := "234dd6fc09b7d0d40acddbbb8d89b92e414768e481baa593239cc075db6630a8", func := "loop.example/powercontrol/laws.FnExactBestPhases", spec := "fnExactBestPhases", recurses := true, apart := false, narrowed := true }
def FnExactBestPhasesUptoSaid : Prop := fnExactBestPhasesUptoRow.holds Try.pinned (OpenSpec.upto fnExactBestPhasesSpec)

/-- 'laws.FnExactFlowValue', WHERE WHAT IT READS IS OF BULK AT MOST 1048576: true; the input reads as it did. -/
def fnExactFlowValueUptoRow : OpenClaim := { program := "ytjdmihlgmhgnmaa", sum := "234dd6fc09b7d0d40acddbbb8d89b92e414768e481baa593239cc075db6630a8", func := "loop.example/powercontrol/laws.FnExactFlowValue", spec := "fnExactFlowValue", apart := false, narrowed := true }
def FnExactFlowValueUptoSaid : Prop := fnExactFlowValueUptoRow.holds Try.pinned (OpenSpec.upto fnExactFlowValueSpec)

/-- 'laws.FnExactCutCapacity', WHERE WHAT IT READS IS OF BULK AT MOST 1048576: true; the input reads as it did. -/
def fnExactCutCapacityUptoRow : OpenClaim := { program := "ytjdmihlgmhgnmaa", sum := "234dd6fc09b7d0d40acddbbb8d89b92e414768e481baa593239cc075db6630a8", func := "loop.example/powercontrol/laws.FnExactCutCapacity", spec := "fnExactCutCapacity", apart := false, narrowed := true }
def FnExactCutCapacityUptoSaid : Prop := fnExactCutCapacityUptoRow.holds Try.pinned (OpenSpec.upto fnExactCutCapacitySpec)

/-- 'laws.FnExactMostFlows', WHERE WHAT IT READS IS OF BULK AT MOST 1048576: true; the input reads as it did. -/
def fnExactMostFlowsUptoRow : OpenClaim := { program := "ytjdmihlgmhgnmaa", sum := "234dd6fc09b7d0d40acddbbb8d89b92e414768e481baa593239cc075db6630a8", func := "loop.example/powercontrol/laws.FnExactMostFlows", spec := "fnExactMostFlows", unfollowed := true, recurses := true, apart := false, narrowed := true }
def FnExactMostFlowsUptoSaid : Prop := fnExactMostFlowsUptoRow.holds Try.pinned (OpenSpec.upto fnExactMostFlowsSpec)

/-- 'laws.FnExactMostFlow', WHERE WHAT IT READS IS OF BULK AT MOST 1048576: true; the input reads as it did. -/
def fnExactMostFlowUptoRow : OpenClaim := { program := "ytjdmihlgmhgnmaa", sum := "234dd6fc09b7d0d40acddbbb8d89b92e414768e481baa593239cc075db6630a8", func := "loop.example/powercontrol/laws.FnExactMostFlow", spec := "fnExactMostFlow", unfollowed := true, recurses := true, apart := false, narrowed := true }
def FnExactMostFlowUptoSaid : Prop := fnExactMostFlowUptoRow.holds Try.pinned (OpenSpec.upto fnExactMostFlowSpec)

/-- 'laws.FnExactWeakCut', WHERE WHAT IT READS IS OF BULK AT MOST 1048576: true; the input reads as it did. -/
def fnExactWeakCutUptoRow : OpenClaim := { program := "ytjdmihlgmhgnmaa", sum := "234dd6fc09b7d0d40acddbbb8d89b92e414768e481baa593239cc075db6630a8", func := "loop.example/powercontrol/laws.FnExactWeakCut", spec := "fnExactWeakCut", unfollowed := true, recurses := true, apart := false, narrowed := true }
def FnExactWeakCutUptoSaid : Prop := fnExactWeakCutUptoRow.holds Try.pinned (OpenSpec.upto fnExactWeakCutSpec)

/-- 'laws.FnExactAckOrder', WHERE WHAT IT READS IS OF BULK AT MOST 1048576: true; the input reads as it did. -/
def fnExactAckOrderUptoRow : OpenClaim := { program := "ytjdmihlgmhgnmaa", sum := "234dd6fc09b7d0d40acddbbb8d89b92e414768e481baa593239cc075db6630a8", func := "loop.example/powercontrol/laws.FnExactAckOrder", spec := "fnExactAckOrder", unfollowed := true, recurses := true, apart := false, narrowed := true }
def FnExactAckOrderUptoSaid : Prop := fnExactAckOrderUptoRow.holds Try.pinned (OpenSpec.upto fnExactAckOrderSpec)

/-- 'laws.FnExactResiduals', WHERE WHAT IT READS IS OF BULK AT MOST 1048576: true; the input reads as it did. -/
def fnExactResidualsUptoRow : OpenClaim := { program := "ytjdmihlgmhgnmaa", sum := "234dd6fc09b7d0d40acddbbb8d89b92e414768e481baa593239cc075db6630a8", func := "loop.example/powercontrol/laws.FnExactResiduals", spec := "fnExactResiduals", apart := false, narrowed := true }
def FnExactResidualsUptoSaid : Prop := fnExactResidualsUptoRow.holds Try.pinned (OpenSpec.upto fnExactResidualsSpec)

/-- 'laws.FnExactBadLine', WHERE WHAT IT READS IS OF BULK AT MOST 1048576: true; the input reads as it did. -/
def fnExactBadLineUptoRow : OpenClaim := { program := "ytjdmihlgmhgnmaa", sum := "234dd6fc09b7d0d40acddbbb8d89b92e414768e481baa593239cc075db6630a8", func := "loop.example/powercontrol/laws.FnExactBadLine", spec := "fnExactBadLine", unfollowed := true, recurses := true, apart := false, narrowed := true }
def FnExactBadLineUptoSaid : Prop := fnExactBadLineUptoRow.holds Try.pinned (OpenSpec.upto fnExactBadLineSpec)

/-- 'laws.FnExactMendReadings', WHERE WHAT IT READS IS OF BULK AT MOST 1048576: true; the input reads as it did. -/
def fnExactMendReadingsUptoRow : OpenClaim := { program := "ytjdmihlgmhgnmaa", sum := "234dd6fc09b7d0d40acddbbb8d89b92e414768e481baa593239cc075db6630a8", func := "loop.example/powercontrol/laws.FnExactMendReadings", spec := "fnExactMendReadings", unfollowed := true, recurses := true, apart := false, narrowed := true }
def FnExactMendReadingsUptoSaid : Prop := fnExactMendReadingsUptoRow.holds Try.pinned (OpenSpec.upto fnExactMendReadingsSpec)

end Rows
end Go.Proofs.Ytjdmihlgmhgnmaa
