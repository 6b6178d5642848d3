/-
  No cell of these rows narrows 'for every input' (looked for: loops, veiled, ifaces, maps, wideKeys, modest, calm, conditions, laid).
  DERIVED. THE GIVEN ROWS OF THIS SEAT. 11 by the template 'for every input the law returns true; each argument reads behind the call as it read before'; 0 by the template 'total and deterministic' (their statements: YtdfjmfonkdkcgaaTotals.lean).
  GIVEN WITH THE SEED: the statements are not yours to turn. If you find one false, say at which input.
  Laid BY PROGRAM, IN A SANDBOX (cutbox-rows.mjs): the forced cells as the released guide's own fill.sh prints them over the translation 461921736d67b815… (all of the seat's roots in one cut). By AI agents, Wed Nov 11 2026. No macro, syntax, notation, axiom, sorry.
-/
import Derived.Test.YtdfjmfonkdkcgaaChecked
import GoSem.Claim
import GoSem.ClaimJoined
import GoSem.ClaimMapViews
import Derived.JoinedTies
import Derived.KernelRfl
namespace Go.Proofs.Ytdfjmfonkdkcgaa
/- THE CELL 'sum', in the pinned program and in every row, IS THE sha256 OF THE DUMP (.gsa) THAT YtdfjmfonkdkcgaaProg.lean LOADS. Nothing in Lean hashes anything: it is a label: what it is worth is what the hold of that sum in a sandbox is worth. -/
noncomputable def Try.pinned : Pinned := { name := "ytdfjmfonkdkcgaa", sum := "461921736d67b815d59e479c43a79800bcbf3a4348fd95a92a7034958fa42c84", checked := Try.checked }
namespace Rows
def none {H : Type} : Left H := { results := [], args := [] }

/-- 'laws.FnExactPhaseNext': WHATEVER THE INPUT: true; the input reads as it did. -/
def fnExactPhaseNextSpec : ChangeSpec := { name := "fnExactPhaseNext", fn := fun _ => fun
  | [d1, d2] => { results := [.lit (.bool true)], args := [d1, d2] }
  | _ => none }
def fnExactPhaseNextRow : OpenClaim := { program := "ytdfjmfonkdkcgaa", sum := "461921736d67b815d59e479c43a79800bcbf3a4348fd95a92a7034958fa42c84", func := "loop.example/powercontrol/laws.FnExactPhaseNext", spec := "fnExactPhaseNext", apart := false }
def FnExactPhaseNextSaid : Prop := fnExactPhaseNextRow.holds Try.pinned (OpenSpec.ofChange fnExactPhaseNextSpec)

/-- ITS FALSE NEIGHBOUR: 'it returns false'. Refute it at one input. -/
def fnExactPhaseNextWrong : ChangeSpec := { name := "fnExactPhaseNext", fn := fun _ => fun
  | [d1, d2] => { results := [.lit (.bool false)], args := [d1, d2] }
  | _ => none }
def FnExactPhaseNextWrongFalsely : Prop := fnExactPhaseNextRow.holds Try.pinned (OpenSpec.ofChange fnExactPhaseNextWrong)

/-- 'laws.FnExactRoomMay': WHATEVER THE INPUT: true; the input reads as it did. -/
def fnExactRoomMaySpec : ChangeSpec := { name := "fnExactRoomMay", fn := fun _ => fun
  | [d1, d2] => { results := [.lit (.bool true)], args := [d1, d2] }
  | _ => none }
def fnExactRoomMayRow : OpenClaim := { program := "ytdfjmfonkdkcgaa", sum := "461921736d67b815d59e479c43a79800bcbf3a4348fd95a92a7034958fa42c84", func := "loop.example/powercontrol/laws.FnExactRoomMay", spec := "fnExactRoomMay", apart := false }
def FnExactRoomMaySaid : Prop := fnExactRoomMayRow.holds Try.pinned (OpenSpec.ofChange fnExactRoomMaySpec)

/-- ITS FALSE NEIGHBOUR: 'it returns false'. Refute it at one input. -/
def fnExactRoomMayWrong : ChangeSpec := { name := "fnExactRoomMay", fn := fun _ => fun
  | [d1, d2] => { results := [.lit (.bool false)], args := [d1, d2] }
  | _ => none }
def FnExactRoomMayWrongFalsely : Prop := fnExactRoomMayRow.holds Try.pinned (OpenSpec.ofChange fnExactRoomMayWrong)

/-- 'laws.FnExactStartRun': WHATEVER THE INPUT: true; the input reads as it did. -/
def fnExactStartRunSpec : ChangeSpec := { name := "fnExactStartRun", fn := fun _ => fun
  | [d1, d2] => { results := [.lit (.bool true)], args := [d1, d2] }
  | _ => none }
def fnExactStartRunRow : OpenClaim := { program := "ytdfjmfonkdkcgaa", sum := "461921736d67b815d59e479c43a79800bcbf3a4348fd95a92a7034958fa42c84", func := "loop.example/powercontrol/laws.FnExactStartRun", spec := "fnExactStartRun", apart := false }
def FnExactStartRunSaid : Prop := fnExactStartRunRow.holds Try.pinned (OpenSpec.ofChange fnExactStartRunSpec)

/-- ITS FALSE NEIGHBOUR: 'it returns false'. Refute it at one input. -/
def fnExactStartRunWrong : ChangeSpec := { name := "fnExactStartRun", fn := fun _ => fun
  | [d1, d2] => { results := [.lit (.bool false)], args := [d1, d2] }
  | _ => none }
def FnExactStartRunWrongFalsely : Prop := fnExactStartRunRow.holds Try.pinned (OpenSpec.ofChange fnExactStartRunWrong)

/-- 'laws.FnExactBill': WHATEVER THE INPUT: true; the input reads as it did. -/
def fnExactBillSpec : ChangeSpec := { name := "fnExactBill", fn := fun _ => fun
  | [d1, d2, d3] => { results := [.lit (.bool true)], args := [d1, d2, d3] }
  | _ => none }
def fnExactBillRow : OpenClaim := { program := "ytdfjmfonkdkcgaa", sum := "461921736d67b815d59e479c43a79800bcbf3a4348fd95a92a7034958fa42c84", func := "loop.example/powercontrol/laws.FnExactBill", spec := "fnExactBill", apart := false }
def FnExactBillSaid : Prop := fnExactBillRow.holds Try.pinned (OpenSpec.ofChange fnExactBillSpec)

/-- ITS FALSE NEIGHBOUR: 'it returns false'. Refute it at one input. -/
def fnExactBillWrong : ChangeSpec := { name := "fnExactBill", fn := fun _ => fun
  | [d1, d2, d3] => { results := [.lit (.bool false)], args := [d1, d2, d3] }
  | _ => none }
def FnExactBillWrongFalsely : Prop := fnExactBillRow.holds Try.pinned (OpenSpec.ofChange fnExactBillWrong)

/-- 'laws.FnExactJobsLost': WHATEVER THE INPUT: true; the input reads as it did. -/
def fnExactJobsLostSpec : ChangeSpec := { name := "fnExactJobsLost", fn := fun _ => fun
  | [d1, d2] => { results := [.lit (.bool true)], args := [d1, d2] }
  | _ => none }
def fnExactJobsLostRow : OpenClaim := { program := "ytdfjmfonkdkcgaa", sum := "461921736d67b815d59e479c43a79800bcbf3a4348fd95a92a7034958fa42c84", func := "loop.example/powercontrol/laws.FnExactJobsLost", spec := "fnExactJobsLost", apart := false }
def FnExactJobsLostSaid : Prop := fnExactJobsLostRow.holds Try.pinned (OpenSpec.ofChange fnExactJobsLostSpec)

/-- ITS FALSE NEIGHBOUR: 'it returns false'. Refute it at one input. -/
def fnExactJobsLostWrong : ChangeSpec := { name := "fnExactJobsLost", fn := fun _ => fun
  | [d1, d2] => { results := [.lit (.bool false)], args := [d1, d2] }
  | _ => none }
def FnExactJobsLostWrongFalsely : Prop := fnExactJobsLostRow.holds Try.pinned (OpenSpec.ofChange fnExactJobsLostWrong)

/-- 'laws.FnExactBestPhases': WHATEVER THE INPUT: true; the input reads as it did. -/
def fnExactBestPhasesSpec : ChangeSpec := { name := "fnExactBestPhases", fn := fun _ => fun
  | [d] => { results := [.lit (.bool true)], args := [d] }
  | _ => none }
def fnExactBestPhasesRow : OpenClaim := { program := "ytdfjmfonkdkcgaa", sum := "461921736d67b815d59e479c43a79800bcbf3a4348fd95a92a7034958fa42c84", func := "loop.example/powercontrol/laws.FnExactBestPhases", spec := "fnExactBestPhases", recurses := true, apart := false }
def FnExactBestPhasesSaid : Prop := fnExactBestPhasesRow.holds Try.pinned (OpenSpec.ofChange fnExactBestPhasesSpec)

/-- ITS FALSE NEIGHBOUR: 'it returns false'. Refute it at one input. -/
def fnExactBestPhasesWrong : ChangeSpec := { name := "fnExactBestPhases", fn := fun _ => fun
  | [d] => { results := [.lit (.bool false)], args := [d] }
  | _ => none }
def FnExactBestPhasesWrongFalsely : Prop := fnExactBestPhasesRow.holds Try.pinned (OpenSpec.ofChange fnExactBestPhasesWrong)

/-- 'laws.FnExactStartOrder': WHATEVER THE INPUT: true; the input reads as it did. -/
def fnExactStartOrderSpec : ChangeSpec := { name := "fnExactStartOrder", fn := fun _ => fun
  | [d] => { results := [.lit (.bool true)], args := [d] }
  | _ => none }
def fnExactStartOrderRow : OpenClaim := { program := "ytdfjmfonkdkcgaa", sum := "461921736d67b815d59e479c43a79800bcbf3a4348fd95a92a7034958fa42c84", func := "loop.example/powercontrol/laws.FnExactStartOrder", spec := "fnExactStartOrder", apart := false }
def FnExactStartOrderSaid : Prop := fnExactStartOrderRow.holds Try.pinned (OpenSpec.ofChange fnExactStartOrderSpec)

/-- ITS FALSE NEIGHBOUR: 'it returns false'. Refute it at one input. -/
def fnExactStartOrderWrong : ChangeSpec := { name := "fnExactStartOrder", fn := fun _ => fun
  | [d] => { results := [.lit (.bool false)], args := [d] }
  | _ => none }
def FnExactStartOrderWrongFalsely : Prop := fnExactStartOrderRow.holds Try.pinned (OpenSpec.ofChange fnExactStartOrderWrong)

/-- 'laws.FnExactStartPower': WHATEVER THE INPUT: true; the input reads as it did. -/
def fnExactStartPowerSpec : ChangeSpec := { name := "fnExactStartPower", fn := fun _ => fun
  | [d] => { results := [.lit (.bool true)], args := [d] }
  | _ => none }
def fnExactStartPowerRow : OpenClaim := { program := "ytdfjmfonkdkcgaa", sum := "461921736d67b815d59e479c43a79800bcbf3a4348fd95a92a7034958fa42c84", func := "loop.example/powercontrol/laws.FnExactStartPower", spec := "fnExactStartPower", apart := false }
def FnExactStartPowerSaid : Prop := fnExactStartPowerRow.holds Try.pinned (OpenSpec.ofChange fnExactStartPowerSpec)

/-- ITS FALSE NEIGHBOUR: 'it returns false'. Refute it at one input. -/
def fnExactStartPowerWrong : ChangeSpec := { name := "fnExactStartPower", fn := fun _ => fun
  | [d] => { results := [.lit (.bool false)], args := [d] }
  | _ => none }
def FnExactStartPowerWrongFalsely : Prop := fnExactStartPowerRow.holds Try.pinned (OpenSpec.ofChange fnExactStartPowerWrong)

/-- 'laws.FnExactBestJobs': WHATEVER THE INPUT: true; the input reads as it did. -/
def fnExactBestJobsSpec : ChangeSpec := { name := "fnExactBestJobs", fn := fun _ => fun
  | [d] => { results := [.lit (.bool true)], args := [d] }
  | _ => none }
def fnExactBestJobsRow : OpenClaim := { program := "ytdfjmfonkdkcgaa", sum := "461921736d67b815d59e479c43a79800bcbf3a4348fd95a92a7034958fa42c84", func := "loop.example/powercontrol/laws.FnExactBestJobs", spec := "fnExactBestJobs", unfollowed := true, recurses := true, apart := false }
def FnExactBestJobsSaid : Prop := fnExactBestJobsRow.holds Try.pinned (OpenSpec.ofChange fnExactBestJobsSpec)

/-- ITS FALSE NEIGHBOUR: 'it returns false'. Refute it at one input. -/
def fnExactBestJobsWrong : ChangeSpec := { name := "fnExactBestJobs", fn := fun _ => fun
  | [d] => { results := [.lit (.bool false)], args := [d] }
  | _ => none }
def FnExactBestJobsWrongFalsely : Prop := fnExactBestJobsRow.holds Try.pinned (OpenSpec.ofChange fnExactBestJobsWrong)

/-- 'laws.FnExactLeastLost': WHATEVER THE INPUT: true; the input reads as it did. -/
def fnExactLeastLostSpec : ChangeSpec := { name := "fnExactLeastLost", fn := fun _ => fun
  | [d] => { results := [.lit (.bool true)], args := [d] }
  | _ => none }
def fnExactLeastLostRow : OpenClaim := { program := "ytdfjmfonkdkcgaa", sum := "461921736d67b815d59e479c43a79800bcbf3a4348fd95a92a7034958fa42c84", func := "loop.example/powercontrol/laws.FnExactLeastLost", spec := "fnExactLeastLost", unfollowed := true, recurses := true, apart := false }
def FnExactLeastLostSaid : Prop := fnExactLeastLostRow.holds Try.pinned (OpenSpec.ofChange fnExactLeastLostSpec)

/-- ITS FALSE NEIGHBOUR: 'it returns false'. Refute it at one input. -/
def fnExactLeastLostWrong : ChangeSpec := { name := "fnExactLeastLost", fn := fun _ => fun
  | [d] => { results := [.lit (.bool false)], args := [d] }
  | _ => none }
def FnExactLeastLostWrongFalsely : Prop := fnExactLeastLostRow.holds Try.pinned (OpenSpec.ofChange fnExactLeastLostWrong)

/-- 'laws.FnExactAckOrder': WHATEVER THE INPUT: true; the input reads as it did. -/
def fnExactAckOrderSpec : ChangeSpec := { name := "fnExactAckOrder", fn := fun _ => fun
  | [d] => { results := [.lit (.bool true)], args := [d] }
  | _ => none }
def fnExactAckOrderRow : OpenClaim := { program := "ytdfjmfonkdkcgaa", sum := "461921736d67b815d59e479c43a79800bcbf3a4348fd95a92a7034958fa42c84", func := "loop.example/powercontrol/laws.FnExactAckOrder", spec := "fnExactAckOrder", unfollowed := true, recurses := true, apart := false }
def FnExactAckOrderSaid : Prop := fnExactAckOrderRow.holds Try.pinned (OpenSpec.ofChange fnExactAckOrderSpec)

/-- ITS FALSE NEIGHBOUR: 'it returns false'. Refute it at one input. -/
def fnExactAckOrderWrong : ChangeSpec := { name := "fnExactAckOrder", fn := fun _ => fun
  | [d] => { results := [.lit (.bool false)], args := [d] }
  | _ => none }
def FnExactAckOrderWrongFalsely : Prop := fnExactAckOrderRow.holds Try.pinned (OpenSpec.ofChange fnExactAckOrderWrong)

/- THE SECOND FORM. 'bulk': how many values and letters a reading holds, each counted each time it is reached (what is shared counts as often as it is met; a slice's spare places count too). A statement '..UptoSaid' is the law's where the arguments, and the package variables that the reading takes, are together of bulk at most 1048576: NARROWER than '..Said'. Prove '..Said' where nothing that the law and all that it calls make is longer than what came in: it says more and counts as full. Else prove '..UptoSaid'. A law counts once. -/
mutual
def uptoBulk {H : Type} : DataW H → Nat
  | .lit (.string bytes) => bytes.length + 1
  | .lit _ => 1
  | .nil => 1
  | .ptr d => uptoBulk d + 1
  | .slice elems spare => uptoBulkAll elems + uptoBulkAll spare + 1
  | .agg parts => uptoBulkAll parts + 1
  | .iface _ d => uptoBulk d + 1
  | .map entries => uptoBulkEntries entries + 1
  | .held _ => 1
def uptoBulkAll {H : Type} : List (DataW H) → Nat
  | [] => 0
  | d :: r => uptoBulk d + uptoBulkAll r
def uptoBulkEntries {H : Type} : List (Lit × DataW H) → Nat
  | [] => 0
  | x :: r => uptoBulkEntry x + uptoBulkEntries r
def uptoBulkEntry {H : Type} : Lit × DataW H → Nat
  | (.string bytes, d) => bytes.length + uptoBulk d + 1
  | (_, d) => uptoBulk d + 1
 end
def uptoSmall : (H : Type) → List (DataW H) → Bool := fun _ ds => decide (uptoBulkAll ds ≤ 1048576)
def OpenSpec.upto (s : _root_.Go.ChangeSpec) : _root_.Go.OpenSpec := { _root_.Go.OpenSpec.ofChange s with cond := some uptoSmall }

/-- 'laws.FnExactPhaseNext', WHERE WHAT IT READS IS OF BULK AT MOST 1048576: true; the input reads as it did. -/
def fnExactPhaseNextUptoRow : OpenClaim := { program := "ytdfjmfonkdkcgaa", sum := "461921736d67b815d59e479c43a79800bcbf3a4348fd95a92a7034958fa42c84", func := "loop.example/powercontrol/laws.FnExactPhaseNext", spec := "fnExactPhaseNext", apart := false, narrowed := true }
def FnExactPhaseNextUptoSaid : Prop := fnExactPhaseNextUptoRow.holds Try.pinned (OpenSpec.upto fnExactPhaseNextSpec)

/-- 'laws.FnExactRoomMay', WHERE WHAT IT READS IS OF BULK AT MOST 1048576: true; the input reads as it did. -/
def fnExactRoomMayUptoRow : OpenClaim := { program := "ytdfjmfonkdkcgaa", sum := "461921736d67b815d59e479c43a79800bcbf3a4348fd95a92a7034958fa42c84", func := "loop.example/powercontrol/laws.FnExactRoomMay", spec := "fnExactRoomMay", apart := false, narrowed := true }
def FnExactRoomMayUptoSaid : Prop := fnExactRoomMayUptoRow.holds Try.pinned (OpenSpec.upto fnExactRoomMaySpec)

/-- 'laws.FnExactStartRun', WHERE WHAT IT READS IS OF BULK AT MOST 1048576: true; the input reads as it did. -/
def fnExactStartRunUptoRow : OpenClaim := { program := "ytdfjmfonkdkcgaa", sum := "461921736d67b815d59e479c43a79800bcbf3a4348fd95a92a7034958fa42c84", func := "loop.example/powercontrol/laws.FnExactStartRun", spec := "fnExactStartRun", apart := false, narrowed := true }
def FnExactStartRunUptoSaid : Prop := fnExactStartRunUptoRow.holds Try.pinned (OpenSpec.upto fnExactStartRunSpec)

/-- 'laws.FnExactBill', WHERE WHAT IT READS IS OF BULK AT MOST 1048576: true; the input reads as it did. -/
def fnExactBillUptoRow : OpenClaim := { program := "ytdfjmfonkdkcgaa", sum := "461921736d67b815d59e479c43a79800bcbf3a4348fd95a92a7034958fa42c84", func := "loop.example/powercontrol/laws.FnExactBill", spec := "fnExactBill", apart := false, narrowed := true }
def FnExactBillUptoSaid : Prop := fnExactBillUptoRow.holds Try.pinned (OpenSpec.upto fnExactBillSpec)

/-- 'laws.FnExactJobsLost', WHERE WHAT IT READS IS OF BULK AT MOST 1048576: true; the input reads as it did. -/
def fnExactJobsLostUptoRow : OpenClaim := { program := "ytdfjmfonkdkcgaa", sum := "461921736d67b815d59e479c43a79800bcbf3a4348fd95a92a7034958fa42c84", func := "loop.example/powercontrol/laws.FnExactJobsLost", spec := "fnExactJobsLost", apart := false, narrowed := true }
def FnExactJobsLostUptoSaid : Prop := fnExactJobsLostUptoRow.holds Try.pinned (OpenSpec.upto fnExactJobsLostSpec)

/-- 'laws.FnExactBestPhases', WHERE WHAT IT READS IS OF BULK AT MOST 1048576: true; the input reads as it did. -/
def fnExactBestPhasesUptoRow : OpenClaim := { program := "ytdfjmfonkdkcgaa", sum := "461921736d67b815d59e479c43a79800bcbf3a4348fd95a92a7034958fa42c84", func := "loop.example/powercontrol/laws.FnExactBestPhases", spec := "fnExactBestPhases", recurses := true, apart := false, narrowed := true }
def FnExactBestPhasesUptoSaid : Prop := fnExactBestPhasesUptoRow.holds Try.pinned (OpenSpec.upto fnExactBestPhasesSpec)

/-- 'laws.FnExactStartOrder', WHERE WHAT IT READS IS OF BULK AT MOST 1048576: true; the input reads as it did. -/
def fnExactStartOrderUptoRow : OpenClaim := { program := "ytdfjmfonkdkcgaa", sum := "461921736d67b815d59e479c43a79800bcbf3a4348fd95a92a7034958fa42c84", func := "loop.example/powercontrol/laws.FnExactStartOrder", spec := "fnExactStartOrder", apart := false, narrowed := true }
def FnExactStartOrderUptoSaid : Prop := fnExactStartOrderUptoRow.holds Try.pinned (OpenSpec.upto fnExactStartOrderSpec)

/-- 'laws.FnExactStartPower', WHERE WHAT IT READS IS OF BULK AT MOST 1048576: true; the input reads as it did. -/
def fnExactStartPowerUptoRow : OpenClaim := { program := "ytdfjmfonkdkcgaa", sum := "461921736d67b815d59e479c43a79800bcbf3a4348fd95a92a7034958fa42c84", func := "loop.example/powercontrol/laws.FnExactStartPower", spec := "fnExactStartPower", apart := false, narrowed := true }
def FnExactStartPowerUptoSaid : Prop := fnExactStartPowerUptoRow.holds Try.pinned (OpenSpec.upto fnExactStartPowerSpec)

/-- 'laws.FnExactBestJobs', WHERE WHAT IT READS IS OF BULK AT MOST 1048576: true; the input reads as it did. -/
def fnExactBestJobsUptoRow : OpenClaim := { program := "ytdfjmfonkdkcgaa", sum := "461921736d67b815d59e479c43a79800bcbf3a4348fd95a92a7034958fa42c84", func := "loop.example/powercontrol/laws.FnExactBestJobs", spec := "fnExactBestJobs", unfollowed := true, recurses := true, apart := false, narrowed := true }
def FnExactBestJobsUptoSaid : Prop := fnExactBestJobsUptoRow.holds Try.pinned (OpenSpec.upto fnExactBestJobsSpec)

/-- 'laws.FnExactLeastLost', WHERE WHAT IT READS IS OF BULK AT MOST 1048576: true; the input reads as it did. -/
def fnExactLeastLostUptoRow : OpenClaim := { program := "ytdfjmfonkdkcgaa", sum := "461921736d67b815d59e479c43a79800bcbf3a4348fd95a92a7034958fa42c84", func := "loop.example/powercontrol/laws.FnExactLeastLost", spec := "fnExactLeastLost", unfollowed := true, recurses := true, apart := false, narrowed := true }
def FnExactLeastLostUptoSaid : Prop := fnExactLeastLostUptoRow.holds Try.pinned (OpenSpec.upto fnExactLeastLostSpec)

/-- 'laws.FnExactAckOrder', WHERE WHAT IT READS IS OF BULK AT MOST 1048576: true; the input reads as it did. -/
def fnExactAckOrderUptoRow : OpenClaim := { program := "ytdfjmfonkdkcgaa", sum := "461921736d67b815d59e479c43a79800bcbf3a4348fd95a92a7034958fa42c84", func := "loop.example/powercontrol/laws.FnExactAckOrder", spec := "fnExactAckOrder", unfollowed := true, recurses := true, apart := false, narrowed := true }
def FnExactAckOrderUptoSaid : Prop := fnExactAckOrderUptoRow.holds Try.pinned (OpenSpec.upto fnExactAckOrderSpec)

end Rows
end Go.Proofs.Ytdfjmfonkdkcgaa
