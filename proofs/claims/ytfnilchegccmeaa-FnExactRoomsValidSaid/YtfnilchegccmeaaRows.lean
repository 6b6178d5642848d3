/-
  No cell of these rows narrows 'for every input' (looked for: loops, veiled, ifaces, maps, wideKeys, modest, calm, conditions, laid).
  DERIVED. THE GIVEN ROWS OF THIS SEAT. 12 by the template 'for every input the law returns true; each argument reads behind the call as it read before'; 0 by the template 'total and deterministic' (their statements: YtfnilchegccmeaaTotals.lean).
  GIVEN WITH THE SEED: the statements are not yours to turn. If you find one false, say at which input.
  Laid BY PROGRAM, IN A SANDBOX (cutbox-rows.mjs): the forced cells as the released guide's own fill.sh prints them over the translation c72ce01750f5c12e… (all of the seat's roots in one cut). By AI agents, Wed Nov 11 2026. No macro, syntax, notation, axiom, sorry.
-/
import Derived.Test.YtfnilchegccmeaaChecked
import GoSem.Claim
import GoSem.ClaimJoined
import GoSem.ClaimMapViews
import Derived.JoinedTies
import Derived.KernelRfl
namespace Go.Proofs.Ytfnilchegccmeaa
/- THE CELL 'sum', in the pinned program and in every row, IS THE sha256 OF THE DUMP (.gsa) THAT YtfnilchegccmeaaProg.lean LOADS. Nothing in Lean hashes anything: it is a label: what it is worth is what the hold of that sum in a sandbox is worth. -/
noncomputable def Try.pinned : Pinned := { name := "ytfnilchegccmeaa", sum := "c72ce01750f5c12e85ac2e7b7fc9fc29b1d91fb8c47cc614f314702ec2a419ce", checked := Try.checked }
namespace Rows
def none {H : Type} : Left H := { results := [], args := [] }

/-- 'laws.FnExactMeterAdd': WHATEVER THE INPUT: true; the input reads as it did. -/
def fnExactMeterAddSpec : ChangeSpec := { name := "fnExactMeterAdd", fn := fun _ => fun
  | [d1, d2] => { results := [.lit (.bool true)], args := [d1, d2] }
  | _ => none }
def fnExactMeterAddRow : OpenClaim := { program := "ytfnilchegccmeaa", sum := "c72ce01750f5c12e85ac2e7b7fc9fc29b1d91fb8c47cc614f314702ec2a419ce", func := "loop.example/powercontrol/laws.FnExactMeterAdd", spec := "fnExactMeterAdd", apart := false }
def FnExactMeterAddSaid : Prop := fnExactMeterAddRow.holds Try.pinned (OpenSpec.ofChange fnExactMeterAddSpec)

/-- ITS FALSE NEIGHBOUR: 'it returns false'. Refute it at one input. -/
def fnExactMeterAddWrong : ChangeSpec := { name := "fnExactMeterAdd", fn := fun _ => fun
  | [d1, d2] => { results := [.lit (.bool false)], args := [d1, d2] }
  | _ => none }
def FnExactMeterAddWrongFalsely : Prop := fnExactMeterAddRow.holds Try.pinned (OpenSpec.ofChange fnExactMeterAddWrong)

/-- 'laws.FnExactMeterUse': WHATEVER THE INPUT: true; the input reads as it did. -/
def fnExactMeterUseSpec : ChangeSpec := { name := "fnExactMeterUse", fn := fun _ => fun
  | [d1, d2] => { results := [.lit (.bool true)], args := [d1, d2] }
  | _ => none }
def fnExactMeterUseRow : OpenClaim := { program := "ytfnilchegccmeaa", sum := "c72ce01750f5c12e85ac2e7b7fc9fc29b1d91fb8c47cc614f314702ec2a419ce", func := "loop.example/powercontrol/laws.FnExactMeterUse", spec := "fnExactMeterUse", apart := false }
def FnExactMeterUseSaid : Prop := fnExactMeterUseRow.holds Try.pinned (OpenSpec.ofChange fnExactMeterUseSpec)

/-- ITS FALSE NEIGHBOUR: 'it returns false'. Refute it at one input. -/
def fnExactMeterUseWrong : ChangeSpec := { name := "fnExactMeterUse", fn := fun _ => fun
  | [d1, d2] => { results := [.lit (.bool false)], args := [d1, d2] }
  | _ => none }
def FnExactMeterUseWrongFalsely : Prop := fnExactMeterUseRow.holds Try.pinned (OpenSpec.ofChange fnExactMeterUseWrong)

/-- 'laws.FnExactTurningValid': WHATEVER THE INPUT: true; the input reads as it did. -/
def fnExactTurningValidSpec : ChangeSpec := { name := "fnExactTurningValid", fn := fun _ => fun
  | [d] => { results := [.lit (.bool true)], args := [d] }
  | _ => none }
def fnExactTurningValidRow : OpenClaim := { program := "ytfnilchegccmeaa", sum := "c72ce01750f5c12e85ac2e7b7fc9fc29b1d91fb8c47cc614f314702ec2a419ce", func := "loop.example/powercontrol/laws.FnExactTurningValid", spec := "fnExactTurningValid", apart := false }
def FnExactTurningValidSaid : Prop := fnExactTurningValidRow.holds Try.pinned (OpenSpec.ofChange fnExactTurningValidSpec)

/-- ITS FALSE NEIGHBOUR: 'it returns false'. Refute it at one input. -/
def fnExactTurningValidWrong : ChangeSpec := { name := "fnExactTurningValid", fn := fun _ => fun
  | [d] => { results := [.lit (.bool false)], args := [d] }
  | _ => none }
def FnExactTurningValidWrongFalsely : Prop := fnExactTurningValidRow.holds Try.pinned (OpenSpec.ofChange fnExactTurningValidWrong)

/-- 'laws.FnExactSyncMay': WHATEVER THE INPUT: true; the input reads as it did. -/
def fnExactSyncMaySpec : ChangeSpec := { name := "fnExactSyncMay", fn := fun _ => fun
  | [d1, d2, d3] => { results := [.lit (.bool true)], args := [d1, d2, d3] }
  | _ => none }
def fnExactSyncMayRow : OpenClaim := { program := "ytfnilchegccmeaa", sum := "c72ce01750f5c12e85ac2e7b7fc9fc29b1d91fb8c47cc614f314702ec2a419ce", func := "loop.example/powercontrol/laws.FnExactSyncMay", spec := "fnExactSyncMay", apart := false }
def FnExactSyncMaySaid : Prop := fnExactSyncMayRow.holds Try.pinned (OpenSpec.ofChange fnExactSyncMaySpec)

/-- ITS FALSE NEIGHBOUR: 'it returns false'. Refute it at one input. -/
def fnExactSyncMayWrong : ChangeSpec := { name := "fnExactSyncMay", fn := fun _ => fun
  | [d1, d2, d3] => { results := [.lit (.bool false)], args := [d1, d2, d3] }
  | _ => none }
def FnExactSyncMayWrongFalsely : Prop := fnExactSyncMayRow.holds Try.pinned (OpenSpec.ofChange fnExactSyncMayWrong)

/-- 'laws.FnExactTapsValid': WHATEVER THE INPUT: true; the input reads as it did. -/
def fnExactTapsValidSpec : ChangeSpec := { name := "fnExactTapsValid", fn := fun _ => fun
  | [d] => { results := [.lit (.bool true)], args := [d] }
  | _ => none }
def fnExactTapsValidRow : OpenClaim := { program := "ytfnilchegccmeaa", sum := "c72ce01750f5c12e85ac2e7b7fc9fc29b1d91fb8c47cc614f314702ec2a419ce", func := "loop.example/powercontrol/laws.FnExactTapsValid", spec := "fnExactTapsValid", apart := false }
def FnExactTapsValidSaid : Prop := fnExactTapsValidRow.holds Try.pinned (OpenSpec.ofChange fnExactTapsValidSpec)

/-- ITS FALSE NEIGHBOUR: 'it returns false'. Refute it at one input. -/
def fnExactTapsValidWrong : ChangeSpec := { name := "fnExactTapsValid", fn := fun _ => fun
  | [d] => { results := [.lit (.bool false)], args := [d] }
  | _ => none }
def FnExactTapsValidWrongFalsely : Prop := fnExactTapsValidRow.holds Try.pinned (OpenSpec.ofChange fnExactTapsValidWrong)

/-- 'laws.FnExactJobsValid': WHATEVER THE INPUT: true; the input reads as it did. -/
def fnExactJobsValidSpec : ChangeSpec := { name := "fnExactJobsValid", fn := fun _ => fun
  | [d] => { results := [.lit (.bool true)], args := [d] }
  | _ => none }
def fnExactJobsValidRow : OpenClaim := { program := "ytfnilchegccmeaa", sum := "c72ce01750f5c12e85ac2e7b7fc9fc29b1d91fb8c47cc614f314702ec2a419ce", func := "loop.example/powercontrol/laws.FnExactJobsValid", spec := "fnExactJobsValid", apart := false }
def FnExactJobsValidSaid : Prop := fnExactJobsValidRow.holds Try.pinned (OpenSpec.ofChange fnExactJobsValidSpec)

/-- ITS FALSE NEIGHBOUR: 'it returns false'. Refute it at one input. -/
def fnExactJobsValidWrong : ChangeSpec := { name := "fnExactJobsValid", fn := fun _ => fun
  | [d] => { results := [.lit (.bool false)], args := [d] }
  | _ => none }
def FnExactJobsValidWrongFalsely : Prop := fnExactJobsValidRow.holds Try.pinned (OpenSpec.ofChange fnExactJobsValidWrong)

/-- 'laws.FnExactPlantsValid': WHATEVER THE INPUT: true; the input reads as it did. -/
def fnExactPlantsValidSpec : ChangeSpec := { name := "fnExactPlantsValid", fn := fun _ => fun
  | [d] => { results := [.lit (.bool true)], args := [d] }
  | _ => none }
def fnExactPlantsValidRow : OpenClaim := { program := "ytfnilchegccmeaa", sum := "c72ce01750f5c12e85ac2e7b7fc9fc29b1d91fb8c47cc614f314702ec2a419ce", func := "loop.example/powercontrol/laws.FnExactPlantsValid", spec := "fnExactPlantsValid", apart := false }
def FnExactPlantsValidSaid : Prop := fnExactPlantsValidRow.holds Try.pinned (OpenSpec.ofChange fnExactPlantsValidSpec)

/-- ITS FALSE NEIGHBOUR: 'it returns false'. Refute it at one input. -/
def fnExactPlantsValidWrong : ChangeSpec := { name := "fnExactPlantsValid", fn := fun _ => fun
  | [d] => { results := [.lit (.bool false)], args := [d] }
  | _ => none }
def FnExactPlantsValidWrongFalsely : Prop := fnExactPlantsValidRow.holds Try.pinned (OpenSpec.ofChange fnExactPlantsValidWrong)

/-- 'laws.FnExactBandsValid': WHATEVER THE INPUT: true; the input reads as it did. -/
def fnExactBandsValidSpec : ChangeSpec := { name := "fnExactBandsValid", fn := fun _ => fun
  | [d] => { results := [.lit (.bool true)], args := [d] }
  | _ => none }
def fnExactBandsValidRow : OpenClaim := { program := "ytfnilchegccmeaa", sum := "c72ce01750f5c12e85ac2e7b7fc9fc29b1d91fb8c47cc614f314702ec2a419ce", func := "loop.example/powercontrol/laws.FnExactBandsValid", spec := "fnExactBandsValid", apart := false }
def FnExactBandsValidSaid : Prop := fnExactBandsValidRow.holds Try.pinned (OpenSpec.ofChange fnExactBandsValidSpec)

/-- ITS FALSE NEIGHBOUR: 'it returns false'. Refute it at one input. -/
def fnExactBandsValidWrong : ChangeSpec := { name := "fnExactBandsValid", fn := fun _ => fun
  | [d] => { results := [.lit (.bool false)], args := [d] }
  | _ => none }
def FnExactBandsValidWrongFalsely : Prop := fnExactBandsValidRow.holds Try.pinned (OpenSpec.ofChange fnExactBandsValidWrong)

/-- 'laws.FnExactPhaseSum': WHATEVER THE INPUT: true; the input reads as it did. -/
def fnExactPhaseSumSpec : ChangeSpec := { name := "fnExactPhaseSum", fn := fun _ => fun
  | [d1, d2, d3] => { results := [.lit (.bool true)], args := [d1, d2, d3] }
  | _ => none }
def fnExactPhaseSumRow : OpenClaim := { program := "ytfnilchegccmeaa", sum := "c72ce01750f5c12e85ac2e7b7fc9fc29b1d91fb8c47cc614f314702ec2a419ce", func := "loop.example/powercontrol/laws.FnExactPhaseSum", spec := "fnExactPhaseSum", apart := false }
def FnExactPhaseSumSaid : Prop := fnExactPhaseSumRow.holds Try.pinned (OpenSpec.ofChange fnExactPhaseSumSpec)

/-- ITS FALSE NEIGHBOUR: 'it returns false'. Refute it at one input. -/
def fnExactPhaseSumWrong : ChangeSpec := { name := "fnExactPhaseSum", fn := fun _ => fun
  | [d1, d2, d3] => { results := [.lit (.bool false)], args := [d1, d2, d3] }
  | _ => none }
def FnExactPhaseSumWrongFalsely : Prop := fnExactPhaseSumRow.holds Try.pinned (OpenSpec.ofChange fnExactPhaseSumWrong)

/-- 'laws.FnExactRoomsValid': WHATEVER THE INPUT: true; the input reads as it did. -/
def fnExactRoomsValidSpec : ChangeSpec := { name := "fnExactRoomsValid", fn := fun _ => fun
  | [d] => { results := [.lit (.bool true)], args := [d] }
  | _ => none }
def fnExactRoomsValidRow : OpenClaim := { program := "ytfnilchegccmeaa", sum := "c72ce01750f5c12e85ac2e7b7fc9fc29b1d91fb8c47cc614f314702ec2a419ce", func := "loop.example/powercontrol/laws.FnExactRoomsValid", spec := "fnExactRoomsValid", apart := false }
def FnExactRoomsValidSaid : Prop := fnExactRoomsValidRow.holds Try.pinned (OpenSpec.ofChange fnExactRoomsValidSpec)

/-- ITS FALSE NEIGHBOUR: 'it returns false'. Refute it at one input. -/
def fnExactRoomsValidWrong : ChangeSpec := { name := "fnExactRoomsValid", fn := fun _ => fun
  | [d] => { results := [.lit (.bool false)], args := [d] }
  | _ => none }
def FnExactRoomsValidWrongFalsely : Prop := fnExactRoomsValidRow.holds Try.pinned (OpenSpec.ofChange fnExactRoomsValidWrong)

/-- 'laws.FnExactImbalance': WHATEVER THE INPUT: true; the input reads as it did. -/
def fnExactImbalanceSpec : ChangeSpec := { name := "fnExactImbalance", fn := fun _ => fun
  | [d1, d2] => { results := [.lit (.bool true)], args := [d1, d2] }
  | _ => none }
def fnExactImbalanceRow : OpenClaim := { program := "ytfnilchegccmeaa", sum := "c72ce01750f5c12e85ac2e7b7fc9fc29b1d91fb8c47cc614f314702ec2a419ce", func := "loop.example/powercontrol/laws.FnExactImbalance", spec := "fnExactImbalance", apart := false }
def FnExactImbalanceSaid : Prop := fnExactImbalanceRow.holds Try.pinned (OpenSpec.ofChange fnExactImbalanceSpec)

/-- ITS FALSE NEIGHBOUR: 'it returns false'. Refute it at one input. -/
def fnExactImbalanceWrong : ChangeSpec := { name := "fnExactImbalance", fn := fun _ => fun
  | [d1, d2] => { results := [.lit (.bool false)], args := [d1, d2] }
  | _ => none }
def FnExactImbalanceWrongFalsely : Prop := fnExactImbalanceRow.holds Try.pinned (OpenSpec.ofChange fnExactImbalanceWrong)

/-- 'laws.FnExactPriceAt': WHATEVER THE INPUT: true; the input reads as it did. -/
def fnExactPriceAtSpec : ChangeSpec := { name := "fnExactPriceAt", fn := fun _ => fun
  | [d1, d2] => { results := [.lit (.bool true)], args := [d1, d2] }
  | _ => none }
def fnExactPriceAtRow : OpenClaim := { program := "ytfnilchegccmeaa", sum := "c72ce01750f5c12e85ac2e7b7fc9fc29b1d91fb8c47cc614f314702ec2a419ce", func := "loop.example/powercontrol/laws.FnExactPriceAt", spec := "fnExactPriceAt", apart := false }
def FnExactPriceAtSaid : Prop := fnExactPriceAtRow.holds Try.pinned (OpenSpec.ofChange fnExactPriceAtSpec)

/-- ITS FALSE NEIGHBOUR: 'it returns false'. Refute it at one input. -/
def fnExactPriceAtWrong : ChangeSpec := { name := "fnExactPriceAt", fn := fun _ => fun
  | [d1, d2] => { results := [.lit (.bool false)], args := [d1, d2] }
  | _ => none }
def FnExactPriceAtWrongFalsely : Prop := fnExactPriceAtRow.holds Try.pinned (OpenSpec.ofChange fnExactPriceAtWrong)

/- THE SECOND FORM. 'bulk': how many values and letters a reading holds, each counted each time it is reached (what is shared counts as often as it is met; a slice's spare places count too). A statement '..UptoSaid' is the law's where the arguments, and the package variables that the reading takes, are together of bulk at most 1048576: NARROWER than '..Said'. Prove '..Said' where nothing that the law and all that it calls make is longer than what came in: it says more and counts as full. Else prove '..UptoSaid'. A law counts once. -/
mutual
def uptoBulk {H : Type} : DataW H → Nat
  | .lit (.string bytes) => bytes.length + 1
  | .lit _ => 1
  | .nil => 1
  | .ptr d => uptoBulk d + 1
  | .slice elems spare => uptoBulkAll elems + uptoBulkAll spare + 1
  | .agg parts => uptoBulkAll parts + 1
  | .iface _ d => uptoBulk d + 1
  | .map entries => uptoBulkEntries entries + 1
  | .held _ => 1
def uptoBulkAll {H : Type} : List (DataW H) → Nat
  | [] => 0
  | d :: r => uptoBulk d + uptoBulkAll r
def uptoBulkEntries {H : Type} : List (Lit × DataW H) → Nat
  | [] => 0
  | x :: r => uptoBulkEntry x + uptoBulkEntries r
def uptoBulkEntry {H : Type} : Lit × DataW H → Nat
  | (.string bytes, d) => bytes.length + uptoBulk d + 1
  | (_, d) => uptoBulk d + 1
 end
def uptoSmall : (H : Type) → List (DataW H) → Bool := fun _ ds => decide (uptoBulkAll ds ≤ 1048576)
def OpenSpec.upto (s : _root_.Go.ChangeSpec) : _root_.Go.OpenSpec := { _root_.Go.OpenSpec.ofChange s with cond := some uptoSmall }

/-- 'laws.FnExactMeterAdd', WHERE WHAT IT READS IS OF BULK AT MOST 1048576: true; the input reads as it did. -/
def fnExactMeterAddUptoRow : OpenClaim := { program := "ytfnilchegccmeaa", sum := "c72ce01750f5c12e85ac2e7b7fc9fc29b1d91fb8c47cc614f314702ec2a419ce", func := "loop.example/powercontrol/laws.FnExactMeterAdd", spec := "fnExactMeterAdd", apart := false, narrowed := true }
def FnExactMeterAddUptoSaid : Prop := fnExactMeterAddUptoRow.holds Try.pinned (OpenSpec.upto fnExactMeterAddSpec)

/-- 'laws.FnExactMeterUse', WHERE WHAT IT READS IS OF BULK AT MOST 1048576: true; the input reads as it did. -/
def fnExactMeterUseUptoRow : OpenClaim := { program := "ytfnilchegccmeaa", sum := "c72ce01750f5c12e85ac2e7b7fc9fc29b1d91fb8c47cc614f314702ec2a419ce", func := "loop.example/powercontrol/laws.FnExactMeterUse", spec := "fnExactMeterUse", apart := false, narrowed := true }
def FnExactMeterUseUptoSaid : Prop := fnExactMeterUseUptoRow.holds Try.pinned (OpenSpec.upto fnExactMeterUseSpec)

/-- 'laws.FnExactTurningValid', WHERE WHAT IT READS IS OF BULK AT MOST 1048576: true; the input reads as it did. -/
def fnExactTurningValidUptoRow : OpenClaim := { program := "ytfnilchegccmeaa", sum := "c72ce01750f5c12e85ac2e7b7fc9fc29b1d91fb8c47cc614f314702ec2a419ce", func := "loop.example/powercontrol/laws.FnExactTurningValid", spec := "fnExactTurningValid", apart := false, narrowed := true }
def FnExactTurningValidUptoSaid : Prop := fnExactTurningValidUptoRow.holds Try.pinned (OpenSpec.upto fnExactTurningValidSpec)

/-- 'laws.FnExactSyncMay', WHERE WHAT IT READS IS OF BULK AT MOST 1048576: true; the input reads as it did. -/
def fnExactSyncMayUptoRow : OpenClaim := { program := "ytfnilchegccmeaa", sum := "c72ce01750f5c12e85ac2e7b7fc9fc29b1d91fb8c47cc614f314702ec2a419ce", func := "loop.example/powercontrol/laws.FnExactSyncMay", spec := "fnExactSyncMay", apart := false, narrowed := true }
def FnExactSyncMayUptoSaid : Prop := fnExactSyncMayUptoRow.holds Try.pinned (OpenSpec.upto fnExactSyncMaySpec)

/-- 'laws.FnExactTapsValid', WHERE WHAT IT READS IS OF BULK AT MOST 1048576: true; the input reads as it did. -/
def fnExactTapsValidUptoRow : OpenClaim := { program := "ytfnilchegccmeaa", sum := "c72ce01750f5c12e85ac2e7b7fc9fc29b1d91fb8c47cc614f314702ec2a419ce", func := "loop.example/powercontrol/laws.FnExactTapsValid", spec := "fnExactTapsValid", apart := false, narrowed := true }
def FnExactTapsValidUptoSaid : Prop := fnExactTapsValidUptoRow.holds Try.pinned (OpenSpec.upto fnExactTapsValidSpec)

/-- 'laws.FnExactJobsValid', WHERE WHAT IT READS IS OF BULK AT MOST 1048576: true; the input reads as it did. -/
def fnExactJobsValidUptoRow : OpenClaim := { program := "ytfnilchegccmeaa", sum := "c72ce01750f5c12e85ac2e7b7fc9fc29b1d91fb8c47cc614f314702ec2a419ce", func := "loop.example/powercontrol/laws.FnExactJobsValid", spec := "fnExactJobsValid", apart := false, narrowed := true }
def FnExactJobsValidUptoSaid : Prop := fnExactJobsValidUptoRow.holds Try.pinned (OpenSpec.upto fnExactJobsValidSpec)

/-- 'laws.FnExactPlantsValid', WHERE WHAT IT READS IS OF BULK AT MOST 1048576: true; the input reads as it did. -/
def fnExactPlantsValidUptoRow : OpenClaim := { program := "ytfnilchegccmeaa", sum := "c72ce01750f5c12e85ac2e7b7fc9fc29b1d91fb8c47cc614f314702ec2a419ce", func := "loop.example/powercontrol/laws.FnExactPlantsValid", spec := "fnExactPlantsValid", apart := false, narrowed := true }
def FnExactPlantsValidUptoSaid : Prop := fnExactPlantsValidUptoRow.holds Try.pinned (OpenSpec.upto fnExactPlantsValidSpec)

/-- 'laws.FnExactBandsValid', WHERE WHAT IT READS IS OF BULK AT MOST 1048576: true; the input reads as it did. -/
def fnExactBandsValidUptoRow : OpenClaim := { program := "ytfnilchegccmeaa", sum := "c72ce01750f5c12e85ac2e7b7fc9fc29b1d91fb8c47cc614f314702ec2a419ce", func := "loop.example/powercontrol/laws.FnExactBandsValid", spec := "fnExactBandsValid", apart := false, narrowed := true }
def FnExactBandsValidUptoSaid : Prop := fnExactBandsValidUptoRow.holds Try.pinned (OpenSpec.upto fnExactBandsValidSpec)

/-- 'laws.FnExactPhaseSum', WHERE WHAT IT READS IS OF BULK AT MOST 1048576: true; the input reads as it did. -/
def fnExactPhaseSumUptoRow : OpenClaim := { program := "ytfnilchegccmeaa", sum := "c72ce01750f5c12e85ac2e7b7fc9fc29b1d91fb8c47cc614f314702ec2a419ce", func := "loop.example/powercontrol/laws.FnExactPhaseSum", spec := "fnExactPhaseSum", apart := false, narrowed := true }
def FnExactPhaseSumUptoSaid : Prop := fnExactPhaseSumUptoRow.holds Try.pinned (OpenSpec.upto fnExactPhaseSumSpec)

/-- 'laws.FnExactRoomsValid', WHERE WHAT IT READS IS OF BULK AT MOST 1048576: true; the input reads as it did. -/
def fnExactRoomsValidUptoRow : OpenClaim := { program := "ytfnilchegccmeaa", sum := "c72ce01750f5c12e85ac2e7b7fc9fc29b1d91fb8c47cc614f314702ec2a419ce", func := "loop.example/powercontrol/laws.FnExactRoomsValid", spec := "fnExactRoomsValid", apart := false, narrowed := true }
def FnExactRoomsValidUptoSaid : Prop := fnExactRoomsValidUptoRow.holds Try.pinned (OpenSpec.upto fnExactRoomsValidSpec)

/-- 'laws.FnExactImbalance', WHERE WHAT IT READS IS OF BULK AT MOST 1048576: true; the input reads as it did. -/
def fnExactImbalanceUptoRow : OpenClaim := { program := "ytfnilchegccmeaa", sum := "c72ce01750f5c12e85ac2e7b7fc9fc29b1d91fb8c47cc614f314702ec2a419ce", func := "loop.example/powercontrol/laws.FnExactImbalance", spec := "fnExactImbalance", apart := false, narrowed := true }
def FnExactImbalanceUptoSaid : Prop := fnExactImbalanceUptoRow.holds Try.pinned (OpenSpec.upto fnExactImbalanceSpec)

/-- 'laws.FnExactPriceAt', WHERE WHAT IT READS IS OF BULK AT MOST 1048576: true; the input reads as it did. -/
def fnExactPriceAtUptoRow : OpenClaim := { program := "ytfnilchegccmeaa", sum := "c72ce01750f5c12e85ac2e7b7fc9fc29b1d91fb8c47cc614f314702ec2a419ce", func := "loop.example/powercontrol/laws.FnExactPriceAt", spec := "fnExactPriceAt", apart := false, narrowed := true }
def FnExactPriceAtUptoSaid : Prop := fnExactPriceAtUptoRow.holds Try.pinned (OpenSpec.upto fnExactPriceAtSpec)

end Rows
end Go.Proofs.Ytfnilchegccmeaa
