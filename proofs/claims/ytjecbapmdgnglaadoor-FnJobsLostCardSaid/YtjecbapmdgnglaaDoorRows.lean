/-
  NARROWER THAN 'FOR EVERY INPUT', by the rows' own cells (each row's printed sentence says how): FnBill: laid · FnPhaseNext: laid · FnImbalance: laid · FnBestPhases: laid · FnStartOrder: laid · FnStartRun: laid · FnStartPower: laid · FnRoomsValid: laid · FnRoomMay: laid · FnBestJobs: laid · FnJobsLost: laid · FnLeastLost: laid.
  DERIVED. THE GIVEN ROWS OF THIS SEAT. 12 by the template 'for every input the law returns true; each argument reads behind the call as it read before'; 0 by the template 'total and deterministic' (their statements: YtjecbapmdgnglaaDoorTotals.lean).
  GIVEN WITH THE SEED: the statements are not yours to turn. If you find one false, say at which input.
  Laid BY PROGRAM, IN A SANDBOX (cutbox-rows.mjs): the forced cells as the released guide's own fill.sh prints them over the translation 1040927dba21f6c0… (all of the seat's roots in one cut). By AI agents, Wed Nov 11 2026. No macro, syntax, notation, axiom, sorry.
-/
import Derived.Test.YtjecbapmdgnglaaDoorChecked
import GoSem.Claim
import GoSem.ClaimJoined
import GoSem.ClaimMapViews
import Derived.JoinedTies
import Derived.KernelRfl
namespace Go.Proofs.YtjecbapmdgnglaaDoor
/- THE CELL 'sum', in the pinned program and in every row, IS THE sha256 OF THE DUMP (.gsa) THAT YtjecbapmdgnglaaDoorProg.lean LOADS. Nothing in Lean hashes anything: it is a label: what it is worth is what the hold of that sum in a sandbox is worth. -/
noncomputable def Tryd.pinned : Pinned := { name := "ytjecbapmdgnglaadoor", sum := "1040927dba21f6c01fa9b956e32fd1fdd7f35398eddad4906723eeb76b0d2bc4", checked := Tryd.checked }
namespace Rows
def none {H : Type} : Left H := { results := [], args := [] }

/- WHAT THE LISTED PACKAGE-LEVEL VARIABLES READ AS WHEN THE CALL BEGINS. Each datum BY PROGRAM (the guide's laid-datum.mjs) off the statement by which the dump's own 'gosem.cut.vars' lays the variable. In a bare row this is a premise. The card (YtjecbapmdgnglaaDoorCards.lean) ties it to the program's text. -/
def laid_math_bits_deBruijn32tab {H : Type} : DataW H := .agg [.lit (.int .u8 0), .lit (.int .u8 1), .lit (.int .u8 28), .lit (.int .u8 2), .lit (.int .u8 29), .lit (.int .u8 14), .lit (.int .u8 24), .lit (.int .u8 3), .lit (.int .u8 30), .lit (.int .u8 22), .lit (.int .u8 20), .lit (.int .u8 15), .lit (.int .u8 25), .lit (.int .u8 17), .lit (.int .u8 4), .lit (.int .u8 8), .lit (.int .u8 31), .lit (.int .u8 27), .lit (.int .u8 13), .lit (.int .u8 23), .lit (.int .u8 21), .lit (.int .u8 19), .lit (.int .u8 16), .lit (.int .u8 7), .lit (.int .u8 26), .lit (.int .u8 12), .lit (.int .u8 18), .lit (.int .u8 6), .lit (.int .u8 11), .lit (.int .u8 5), .lit (.int .u8 10), .lit (.int .u8 9)]
def laid_math_bits_deBruijn64tab {H : Type} : DataW H := .agg [.lit (.int .u8 0), .lit (.int .u8 1), .lit (.int .u8 56), .lit (.int .u8 2), .lit (.int .u8 57), .lit (.int .u8 49), .lit (.int .u8 28), .lit (.int .u8 3), .lit (.int .u8 61), .lit (.int .u8 58), .lit (.int .u8 42), .lit (.int .u8 50), .lit (.int .u8 38), .lit (.int .u8 29), .lit (.int .u8 17), .lit (.int .u8 4), .lit (.int .u8 62), .lit (.int .u8 47), .lit (.int .u8 59), .lit (.int .u8 36), .lit (.int .u8 45), .lit (.int .u8 43), .lit (.int .u8 51), .lit (.int .u8 22), .lit (.int .u8 53), .lit (.int .u8 39), .lit (.int .u8 33), .lit (.int .u8 30), .lit (.int .u8 24), .lit (.int .u8 18), .lit (.int .u8 12), .lit (.int .u8 5), .lit (.int .u8 63), .lit (.int .u8 55), .lit (.int .u8 48), .lit (.int .u8 27), .lit (.int .u8 60), .lit (.int .u8 41), .lit (.int .u8 37), .lit (.int .u8 16), .lit (.int .u8 46), .lit (.int .u8 35), .lit (.int .u8 44), .lit (.int .u8 21), .lit (.int .u8 52), .lit (.int .u8 32), .lit (.int .u8 23), .lit (.int .u8 11), .lit (.int .u8 54), .lit (.int .u8 26), .lit (.int .u8 40), .lit (.int .u8 15), .lit (.int .u8 34), .lit (.int .u8 20), .lit (.int .u8 31), .lit (.int .u8 10), .lit (.int .u8 25), .lit (.int .u8 14), .lit (.int .u8 19), .lit (.int .u8 9), .lit (.int .u8 13), .lit (.int .u8 8), .lit (.int .u8 7), .lit (.int .u8 6)]
def laid_internal_strconv_uint64pow10 {H : Type} : DataW H := .agg [.lit (.int .u64 1), .lit (.int .u64 10), .lit (.int .u64 100), .lit (.int .u64 1000), .lit (.int .u64 10000), .lit (.int .u64 100000), .lit (.int .u64 1000000), .lit (.int .u64 10000000), .lit (.int .u64 100000000), .lit (.int .u64 1000000000), .lit (.int .u64 10000000000), .lit (.int .u64 100000000000), .lit (.int .u64 1000000000000), .lit (.int .u64 10000000000000), .lit (.int .u64 100000000000000), .lit (.int .u64 1000000000000000), .lit (.int .u64 10000000000000000), .lit (.int .u64 100000000000000000), .lit (.int .u64 1000000000000000000), .lit (.int .u64 10000000000000000000)]

/-- 'laws.FnBill': WHATEVER THE INPUT: true; the input reads as it did. -/
def fnBillSpec : ChangeSpec := { name := "fnBill", fn := fun _ => fun
  | [d] => { results := [.lit (.bool true)], args := [d] }
  | _ => none }
def fnBillRow : OpenClaim := { program := "ytjecbapmdgnglaadoor", sum := "1040927dba21f6c01fa9b956e32fd1fdd7f35398eddad4906723eeb76b0d2bc4", func := "loop.example/powercontrol/laws.FnBill", spec := "fnBill", inPlace := ["internal/abi.NoEscape"], named := ["internal/strconv.uint64pow10", "math/bits.deBruijn32tab", "math/bits.deBruijn64tab"], apart := false, laid := [("math/bits.deBruijn32tab", laid_math_bits_deBruijn32tab), ("math/bits.deBruijn64tab", laid_math_bits_deBruijn64tab), ("internal/strconv.uint64pow10", laid_internal_strconv_uint64pow10)] }
def FnBillSaid : Prop := fnBillRow.holds Tryd.pinned (OpenSpec.ofChange fnBillSpec)

/-- ITS FALSE NEIGHBOUR: 'it returns false'. Refute it at one input. -/
def fnBillWrong : ChangeSpec := { name := "fnBill", fn := fun _ => fun
  | [d] => { results := [.lit (.bool false)], args := [d] }
  | _ => none }
def FnBillWrongFalsely : Prop := fnBillRow.holds Tryd.pinned (OpenSpec.ofChange fnBillWrong)

/-- 'laws.FnPhaseNext': WHATEVER THE INPUT: true; the input reads as it did. -/
def fnPhaseNextSpec : ChangeSpec := { name := "fnPhaseNext", fn := fun _ => fun
  | [d] => { results := [.lit (.bool true)], args := [d] }
  | _ => none }
def fnPhaseNextRow : OpenClaim := { program := "ytjecbapmdgnglaadoor", sum := "1040927dba21f6c01fa9b956e32fd1fdd7f35398eddad4906723eeb76b0d2bc4", func := "loop.example/powercontrol/laws.FnPhaseNext", spec := "fnPhaseNext", inPlace := ["internal/abi.NoEscape"], named := ["internal/strconv.uint64pow10", "math/bits.deBruijn32tab", "math/bits.deBruijn64tab"], apart := false, laid := [("math/bits.deBruijn32tab", laid_math_bits_deBruijn32tab), ("math/bits.deBruijn64tab", laid_math_bits_deBruijn64tab), ("internal/strconv.uint64pow10", laid_internal_strconv_uint64pow10)] }
def FnPhaseNextSaid : Prop := fnPhaseNextRow.holds Tryd.pinned (OpenSpec.ofChange fnPhaseNextSpec)

/-- ITS FALSE NEIGHBOUR: 'it returns false'. Refute it at one input. -/
def fnPhaseNextWrong : ChangeSpec := { name := "fnPhaseNext", fn := fun _ => fun
  | [d] => { results := [.lit (.bool false)], args := [d] }
  | _ => none }
def FnPhaseNextWrongFalsely : Prop := fnPhaseNextRow.holds Tryd.pinned (OpenSpec.ofChange fnPhaseNextWrong)

/-- 'laws.FnImbalance': WHATEVER THE INPUT: true; the input reads as it did. -/
def fnImbalanceSpec : ChangeSpec := { name := "fnImbalance", fn := fun _ => fun
  | [d] => { results := [.lit (.bool true)], args := [d] }
  | _ => none }
def fnImbalanceRow : OpenClaim := { program := "ytjecbapmdgnglaadoor", sum := "1040927dba21f6c01fa9b956e32fd1fdd7f35398eddad4906723eeb76b0d2bc4", func := "loop.example/powercontrol/laws.FnImbalance", spec := "fnImbalance", inPlace := ["internal/abi.NoEscape"], recurses := true, named := ["internal/strconv.uint64pow10", "math/bits.deBruijn32tab", "math/bits.deBruijn64tab"], apart := false, laid := [("math/bits.deBruijn32tab", laid_math_bits_deBruijn32tab), ("math/bits.deBruijn64tab", laid_math_bits_deBruijn64tab), ("internal/strconv.uint64pow10", laid_internal_strconv_uint64pow10)] }
def FnImbalanceSaid : Prop := fnImbalanceRow.holds Tryd.pinned (OpenSpec.ofChange fnImbalanceSpec)

/-- ITS FALSE NEIGHBOUR: 'it returns false'. Refute it at one input. -/
def fnImbalanceWrong : ChangeSpec := { name := "fnImbalance", fn := fun _ => fun
  | [d] => { results := [.lit (.bool false)], args := [d] }
  | _ => none }
def FnImbalanceWrongFalsely : Prop := fnImbalanceRow.holds Tryd.pinned (OpenSpec.ofChange fnImbalanceWrong)

/-- 'laws.FnBestPhases': WHATEVER THE INPUT: true; the input reads as it did. -/
def fnBestPhasesSpec : ChangeSpec := { name := "fnBestPhases", fn := fun _ => fun
  | [d] => { results := [.lit (.bool true)], args := [d] }
  | _ => none }
def fnBestPhasesRow : OpenClaim := { program := "ytjecbapmdgnglaadoor", sum := "1040927dba21f6c01fa9b956e32fd1fdd7f35398eddad4906723eeb76b0d2bc4", func := "loop.example/powercontrol/laws.FnBestPhases", spec := "fnBestPhases", inPlace := ["internal/abi.NoEscape"], recurses := true, named := ["internal/strconv.uint64pow10", "math/bits.deBruijn32tab", "math/bits.deBruijn64tab"], apart := false, laid := [("math/bits.deBruijn32tab", laid_math_bits_deBruijn32tab), ("math/bits.deBruijn64tab", laid_math_bits_deBruijn64tab), ("internal/strconv.uint64pow10", laid_internal_strconv_uint64pow10)] }
def FnBestPhasesSaid : Prop := fnBestPhasesRow.holds Tryd.pinned (OpenSpec.ofChange fnBestPhasesSpec)

/-- ITS FALSE NEIGHBOUR: 'it returns false'. Refute it at one input. -/
def fnBestPhasesWrong : ChangeSpec := { name := "fnBestPhases", fn := fun _ => fun
  | [d] => { results := [.lit (.bool false)], args := [d] }
  | _ => none }
def FnBestPhasesWrongFalsely : Prop := fnBestPhasesRow.holds Tryd.pinned (OpenSpec.ofChange fnBestPhasesWrong)

/-- 'laws.FnStartOrder': WHATEVER THE INPUT: true; the input reads as it did. -/
def fnStartOrderSpec : ChangeSpec := { name := "fnStartOrder", fn := fun _ => fun
  | [d] => { results := [.lit (.bool true)], args := [d] }
  | _ => none }
def fnStartOrderRow : OpenClaim := { program := "ytjecbapmdgnglaadoor", sum := "1040927dba21f6c01fa9b956e32fd1fdd7f35398eddad4906723eeb76b0d2bc4", func := "loop.example/powercontrol/laws.FnStartOrder", spec := "fnStartOrder", inPlace := ["internal/abi.NoEscape"], named := ["internal/strconv.uint64pow10", "math/bits.deBruijn32tab", "math/bits.deBruijn64tab"], apart := false, laid := [("math/bits.deBruijn32tab", laid_math_bits_deBruijn32tab), ("math/bits.deBruijn64tab", laid_math_bits_deBruijn64tab), ("internal/strconv.uint64pow10", laid_internal_strconv_uint64pow10)] }
def FnStartOrderSaid : Prop := fnStartOrderRow.holds Tryd.pinned (OpenSpec.ofChange fnStartOrderSpec)

/-- ITS FALSE NEIGHBOUR: 'it returns false'. Refute it at one input. -/
def fnStartOrderWrong : ChangeSpec := { name := "fnStartOrder", fn := fun _ => fun
  | [d] => { results := [.lit (.bool false)], args := [d] }
  | _ => none }
def FnStartOrderWrongFalsely : Prop := fnStartOrderRow.holds Tryd.pinned (OpenSpec.ofChange fnStartOrderWrong)

/-- 'laws.FnStartRun': WHATEVER THE INPUT: true; the input reads as it did. -/
def fnStartRunSpec : ChangeSpec := { name := "fnStartRun", fn := fun _ => fun
  | [d] => { results := [.lit (.bool true)], args := [d] }
  | _ => none }
def fnStartRunRow : OpenClaim := { program := "ytjecbapmdgnglaadoor", sum := "1040927dba21f6c01fa9b956e32fd1fdd7f35398eddad4906723eeb76b0d2bc4", func := "loop.example/powercontrol/laws.FnStartRun", spec := "fnStartRun", inPlace := ["internal/abi.NoEscape"], named := ["internal/strconv.uint64pow10", "math/bits.deBruijn32tab", "math/bits.deBruijn64tab"], apart := false, laid := [("math/bits.deBruijn32tab", laid_math_bits_deBruijn32tab), ("math/bits.deBruijn64tab", laid_math_bits_deBruijn64tab), ("internal/strconv.uint64pow10", laid_internal_strconv_uint64pow10)] }
def FnStartRunSaid : Prop := fnStartRunRow.holds Tryd.pinned (OpenSpec.ofChange fnStartRunSpec)

/-- ITS FALSE NEIGHBOUR: 'it returns false'. Refute it at one input. -/
def fnStartRunWrong : ChangeSpec := { name := "fnStartRun", fn := fun _ => fun
  | [d] => { results := [.lit (.bool false)], args := [d] }
  | _ => none }
def FnStartRunWrongFalsely : Prop := fnStartRunRow.holds Tryd.pinned (OpenSpec.ofChange fnStartRunWrong)

/-- 'laws.FnStartPower': WHATEVER THE INPUT: true; the input reads as it did. -/
def fnStartPowerSpec : ChangeSpec := { name := "fnStartPower", fn := fun _ => fun
  | [d] => { results := [.lit (.bool true)], args := [d] }
  | _ => none }
def fnStartPowerRow : OpenClaim := { program := "ytjecbapmdgnglaadoor", sum := "1040927dba21f6c01fa9b956e32fd1fdd7f35398eddad4906723eeb76b0d2bc4", func := "loop.example/powercontrol/laws.FnStartPower", spec := "fnStartPower", inPlace := ["internal/abi.NoEscape"], named := ["internal/strconv.uint64pow10", "math/bits.deBruijn32tab", "math/bits.deBruijn64tab"], apart := false, laid := [("math/bits.deBruijn32tab", laid_math_bits_deBruijn32tab), ("math/bits.deBruijn64tab", laid_math_bits_deBruijn64tab), ("internal/strconv.uint64pow10", laid_internal_strconv_uint64pow10)] }
def FnStartPowerSaid : Prop := fnStartPowerRow.holds Tryd.pinned (OpenSpec.ofChange fnStartPowerSpec)

/-- ITS FALSE NEIGHBOUR: 'it returns false'. Refute it at one input. -/
def fnStartPowerWrong : ChangeSpec := { name := "fnStartPower", fn := fun _ => fun
  | [d] => { results := [.lit (.bool false)], args := [d] }
  | _ => none }
def FnStartPowerWrongFalsely : Prop := fnStartPowerRow.holds Tryd.pinned (OpenSpec.ofChange fnStartPowerWrong)

/-- 'laws.FnRoomsValid': WHATEVER THE INPUT: true; the input reads as it did. -/
def fnRoomsValidSpec : ChangeSpec := { name := "fnRoomsValid", fn := fun _ => fun
  | [d] => { results := [.lit (.bool true)], args := [d] }
  | _ => none }
def fnRoomsValidRow : OpenClaim := { program := "ytjecbapmdgnglaadoor", sum := "1040927dba21f6c01fa9b956e32fd1fdd7f35398eddad4906723eeb76b0d2bc4", func := "loop.example/powercontrol/laws.FnRoomsValid", spec := "fnRoomsValid", inPlace := ["internal/abi.NoEscape"], named := ["internal/strconv.uint64pow10", "math/bits.deBruijn32tab", "math/bits.deBruijn64tab"], apart := false, laid := [("math/bits.deBruijn32tab", laid_math_bits_deBruijn32tab), ("math/bits.deBruijn64tab", laid_math_bits_deBruijn64tab), ("internal/strconv.uint64pow10", laid_internal_strconv_uint64pow10)] }
def FnRoomsValidSaid : Prop := fnRoomsValidRow.holds Tryd.pinned (OpenSpec.ofChange fnRoomsValidSpec)

/-- ITS FALSE NEIGHBOUR: 'it returns false'. Refute it at one input. -/
def fnRoomsValidWrong : ChangeSpec := { name := "fnRoomsValid", fn := fun _ => fun
  | [d] => { results := [.lit (.bool false)], args := [d] }
  | _ => none }
def FnRoomsValidWrongFalsely : Prop := fnRoomsValidRow.holds Tryd.pinned (OpenSpec.ofChange fnRoomsValidWrong)

/-- 'laws.FnRoomMay': WHATEVER THE INPUT: true; the input reads as it did. -/
def fnRoomMaySpec : ChangeSpec := { name := "fnRoomMay", fn := fun _ => fun
  | [d] => { results := [.lit (.bool true)], args := [d] }
  | _ => none }
def fnRoomMayRow : OpenClaim := { program := "ytjecbapmdgnglaadoor", sum := "1040927dba21f6c01fa9b956e32fd1fdd7f35398eddad4906723eeb76b0d2bc4", func := "loop.example/powercontrol/laws.FnRoomMay", spec := "fnRoomMay", inPlace := ["internal/abi.NoEscape"], named := ["internal/strconv.uint64pow10", "math/bits.deBruijn32tab", "math/bits.deBruijn64tab"], apart := false, laid := [("math/bits.deBruijn32tab", laid_math_bits_deBruijn32tab), ("math/bits.deBruijn64tab", laid_math_bits_deBruijn64tab), ("internal/strconv.uint64pow10", laid_internal_strconv_uint64pow10)] }
def FnRoomMaySaid : Prop := fnRoomMayRow.holds Tryd.pinned (OpenSpec.ofChange fnRoomMaySpec)

/-- ITS FALSE NEIGHBOUR: 'it returns false'. Refute it at one input. -/
def fnRoomMayWrong : ChangeSpec := { name := "fnRoomMay", fn := fun _ => fun
  | [d] => { results := [.lit (.bool false)], args := [d] }
  | _ => none }
def FnRoomMayWrongFalsely : Prop := fnRoomMayRow.holds Tryd.pinned (OpenSpec.ofChange fnRoomMayWrong)

/-- 'laws.FnBestJobs': WHATEVER THE INPUT: true; the input reads as it did. -/
def fnBestJobsSpec : ChangeSpec := { name := "fnBestJobs", fn := fun _ => fun
  | [d] => { results := [.lit (.bool true)], args := [d] }
  | _ => none }
def fnBestJobsRow : OpenClaim := { program := "ytjecbapmdgnglaadoor", sum := "1040927dba21f6c01fa9b956e32fd1fdd7f35398eddad4906723eeb76b0d2bc4", func := "loop.example/powercontrol/laws.FnBestJobs", spec := "fnBestJobs", inPlace := ["internal/abi.NoEscape"], unfollowed := true, recurses := true, named := ["internal/strconv.uint64pow10", "math/bits.deBruijn32tab", "math/bits.deBruijn64tab"], apart := false, laid := [("math/bits.deBruijn32tab", laid_math_bits_deBruijn32tab), ("math/bits.deBruijn64tab", laid_math_bits_deBruijn64tab), ("internal/strconv.uint64pow10", laid_internal_strconv_uint64pow10)] }
def FnBestJobsSaid : Prop := fnBestJobsRow.holds Tryd.pinned (OpenSpec.ofChange fnBestJobsSpec)

/-- ITS FALSE NEIGHBOUR: 'it returns false'. Refute it at one input. -/
def fnBestJobsWrong : ChangeSpec := { name := "fnBestJobs", fn := fun _ => fun
  | [d] => { results := [.lit (.bool false)], args := [d] }
  | _ => none }
def FnBestJobsWrongFalsely : Prop := fnBestJobsRow.holds Tryd.pinned (OpenSpec.ofChange fnBestJobsWrong)

/-- 'laws.FnJobsLost': WHATEVER THE INPUT: true; the input reads as it did. -/
def fnJobsLostSpec : ChangeSpec := { name := "fnJobsLost", fn := fun _ => fun
  | [d] => { results := [.lit (.bool true)], args := [d] }
  | _ => none }
def fnJobsLostRow : OpenClaim := { program := "ytjecbapmdgnglaadoor", sum := "1040927dba21f6c01fa9b956e32fd1fdd7f35398eddad4906723eeb76b0d2bc4", func := "loop.example/powercontrol/laws.FnJobsLost", spec := "fnJobsLost", inPlace := ["internal/abi.NoEscape"], unfollowed := true, recurses := true, named := ["internal/strconv.uint64pow10", "math/bits.deBruijn32tab", "math/bits.deBruijn64tab"], apart := false, laid := [("math/bits.deBruijn32tab", laid_math_bits_deBruijn32tab), ("math/bits.deBruijn64tab", laid_math_bits_deBruijn64tab), ("internal/strconv.uint64pow10", laid_internal_strconv_uint64pow10)] }
def FnJobsLostSaid : Prop := fnJobsLostRow.holds Tryd.pinned (OpenSpec.ofChange fnJobsLostSpec)

/-- ITS FALSE NEIGHBOUR: 'it returns false'. Refute it at one input. -/
def fnJobsLostWrong : ChangeSpec := { name := "fnJobsLost", fn := fun _ => fun
  | [d] => { results := [.lit (.bool false)], args := [d] }
  | _ => none }
def FnJobsLostWrongFalsely : Prop := fnJobsLostRow.holds Tryd.pinned (OpenSpec.ofChange fnJobsLostWrong)

/-- 'laws.FnLeastLost': WHATEVER THE INPUT: true; the input reads as it did. -/
def fnLeastLostSpec : ChangeSpec := { name := "fnLeastLost", fn := fun _ => fun
  | [d] => { results := [.lit (.bool true)], args := [d] }
  | _ => none }
def fnLeastLostRow : OpenClaim := { program := "ytjecbapmdgnglaadoor", sum := "1040927dba21f6c01fa9b956e32fd1fdd7f35398eddad4906723eeb76b0d2bc4", func := "loop.example/powercontrol/laws.FnLeastLost", spec := "fnLeastLost", inPlace := ["internal/abi.NoEscape"], unfollowed := true, recurses := true, named := ["internal/strconv.uint64pow10", "math/bits.deBruijn32tab", "math/bits.deBruijn64tab"], apart := false, laid := [("math/bits.deBruijn32tab", laid_math_bits_deBruijn32tab), ("math/bits.deBruijn64tab", laid_math_bits_deBruijn64tab), ("internal/strconv.uint64pow10", laid_internal_strconv_uint64pow10)] }
def FnLeastLostSaid : Prop := fnLeastLostRow.holds Tryd.pinned (OpenSpec.ofChange fnLeastLostSpec)

/-- ITS FALSE NEIGHBOUR: 'it returns false'. Refute it at one input. -/
def fnLeastLostWrong : ChangeSpec := { name := "fnLeastLost", fn := fun _ => fun
  | [d] => { results := [.lit (.bool false)], args := [d] }
  | _ => none }
def FnLeastLostWrongFalsely : Prop := fnLeastLostRow.holds Tryd.pinned (OpenSpec.ofChange fnLeastLostWrong)

/- THE SECOND FORM. 'bulk': how many values and letters a reading holds, each counted each time it is reached (what is shared counts as often as it is met; a slice's spare places count too). A statement '..UptoSaid' is the law's where the arguments, and the package variables that the reading takes, are together of bulk at most 1048576: NARROWER than '..Said'. Prove '..Said' where nothing that the law and all that it calls make is longer than what came in: it says more and counts as full. Else prove '..UptoSaid'. A law counts once. -/
mutual
def uptoBulk {H : Type} : DataW H → Nat
  | .lit (.string bytes) => bytes.length + 1
  | .lit _ => 1
  | .nil => 1
  | .ptr d => uptoBulk d + 1
  | .slice elems spare => uptoBulkAll elems + uptoBulkAll spare + 1
  | .agg parts => uptoBulkAll parts + 1
  | .iface _ d => uptoBulk d + 1
  | .map entries => uptoBulkEntries entries + 1
  | .held _ => 1
def uptoBulkAll {H : Type} : List (DataW H) → Nat
  | [] => 0
  | d :: r => uptoBulk d + uptoBulkAll r
def uptoBulkEntries {H : Type} : List (Lit × DataW H) → Nat
  | [] => 0
  | x :: r => uptoBulkEntry x + uptoBulkEntries r
def uptoBulkEntry {H : Type} : Lit × DataW H → Nat
  | (.string bytes, d) => bytes.length + uptoBulk d + 1
  | (_, d) => uptoBulk d + 1
 end
def uptoSmall : (H : Type) → List (DataW H) → Bool := fun _ ds => decide (uptoBulkAll ds ≤ 1048576)
def OpenSpec.upto (s : _root_.Go.ChangeSpec) : _root_.Go.OpenSpec := { _root_.Go.OpenSpec.ofChange s with cond := some uptoSmall }

/-- 'laws.FnBill', WHERE WHAT IT READS IS OF BULK AT MOST 1048576: true; the input reads as it did. -/
def fnBillUptoRow : OpenClaim := { program := "ytjecbapmdgnglaadoor", sum := "1040927dba21f6c01fa9b956e32fd1fdd7f35398eddad4906723eeb76b0d2bc4", func := "loop.example/powercontrol/laws.FnBill", spec := "fnBill", inPlace := ["internal/abi.NoEscape"], named := ["internal/strconv.uint64pow10", "math/bits.deBruijn32tab", "math/bits.deBruijn64tab"], apart := false, laid := [("math/bits.deBruijn32tab", laid_math_bits_deBruijn32tab), ("math/bits.deBruijn64tab", laid_math_bits_deBruijn64tab), ("internal/strconv.uint64pow10", laid_internal_strconv_uint64pow10)], narrowed := true }
def FnBillUptoSaid : Prop := fnBillUptoRow.holds Tryd.pinned (OpenSpec.upto fnBillSpec)

/-- 'laws.FnPhaseNext', WHERE WHAT IT READS IS OF BULK AT MOST 1048576: true; the input reads as it did. -/
def fnPhaseNextUptoRow : OpenClaim := { program := "ytjecbapmdgnglaadoor", sum := "1040927dba21f6c01fa9b956e32fd1fdd7f35398eddad4906723eeb76b0d2bc4", func := "loop.example/powercontrol/laws.FnPhaseNext", spec := "fnPhaseNext", inPlace := ["internal/abi.NoEscape"], named := ["internal/strconv.uint64pow10", "math/bits.deBruijn32tab", "math/bits.deBruijn64tab"], apart := false, laid := [("math/bits.deBruijn32tab", laid_math_bits_deBruijn32tab), ("math/bits.deBruijn64tab", laid_math_bits_deBruijn64tab), ("internal/strconv.uint64pow10", laid_internal_strconv_uint64pow10)], narrowed := true }
def FnPhaseNextUptoSaid : Prop := fnPhaseNextUptoRow.holds Tryd.pinned (OpenSpec.upto fnPhaseNextSpec)

/-- 'laws.FnImbalance', WHERE WHAT IT READS IS OF BULK AT MOST 1048576: true; the input reads as it did. -/
def fnImbalanceUptoRow : OpenClaim := { program := "ytjecbapmdgnglaadoor", sum := "1040927dba21f6c01fa9b956e32fd1fdd7f35398eddad4906723eeb76b0d2bc4", func := "loop.example/powercontrol/laws.FnImbalance", spec := "fnImbalance", inPlace := ["internal/abi.NoEscape"], recurses := true, named := ["internal/strconv.uint64pow10", "math/bits.deBruijn32tab", "math/bits.deBruijn64tab"], apart := false, laid := [("math/bits.deBruijn32tab", laid_math_bits_deBruijn32tab), ("math/bits.deBruijn64tab", laid_math_bits_deBruijn64tab), ("internal/strconv.uint64pow10", laid_internal_strconv_uint64pow10)], narrowed := true }
def FnImbalanceUptoSaid : Prop := fnImbalanceUptoRow.holds Tryd.pinned (OpenSpec.upto fnImbalanceSpec)

/-- 'laws.FnBestPhases', WHERE WHAT IT READS IS OF BULK AT MOST 1048576: true; the input reads as it did. -/
def fnBestPhasesUptoRow : OpenClaim := { program := "ytjecbapmdgnglaadoor", sum := "1040927dba21f6c01fa9b956e32fd1fdd7f35398eddad4906723eeb76b0d2bc4", func := "loop.example/powercontrol/laws.FnBestPhases", spec := "fnBestPhases", inPlace := ["internal/abi.NoEscape"], recurses := true, named := ["internal/strconv.uint64pow10", "math/bits.deBruijn32tab", "math/bits.deBruijn64tab"], apart := false, laid := [("math/bits.deBruijn32tab", laid_math_bits_deBruijn32tab), ("math/bits.deBruijn64tab", laid_math_bits_deBruijn64tab), ("internal/strconv.uint64pow10", laid_internal_strconv_uint64pow10)], narrowed := true }
def FnBestPhasesUptoSaid : Prop := fnBestPhasesUptoRow.holds Tryd.pinned (OpenSpec.upto fnBestPhasesSpec)

/-- 'laws.FnStartOrder', WHERE WHAT IT READS IS OF BULK AT MOST 1048576: true; the input reads as it did. -/
def fnStartOrderUptoRow : OpenClaim := { program := "ytjecbapmdgnglaadoor", sum := "1040927dba21f6c01fa9b956e32fd1fdd7f35398eddad4906723eeb76b0d2bc4", func := "loop.example/powercontrol/laws.FnStartOrder", spec := "fnStartOrder", inPlace := ["internal/abi.NoEscape"], named := ["internal/strconv.uint64pow10", "math/bits.deBruijn32tab", "math/bits.deBruijn64tab"], apart := false, laid := [("math/bits.deBruijn32tab", laid_math_bits_deBruijn32tab), ("math/bits.deBruijn64tab", laid_math_bits_deBruijn64tab), ("internal/strconv.uint64pow10", laid_internal_strconv_uint64pow10)], narrowed := true }
def FnStartOrderUptoSaid : Prop := fnStartOrderUptoRow.holds Tryd.pinned (OpenSpec.upto fnStartOrderSpec)

/-- 'laws.FnStartRun', WHERE WHAT IT READS IS OF BULK AT MOST 1048576: true; the input reads as it did. -/
def fnStartRunUptoRow : OpenClaim := { program := "ytjecbapmdgnglaadoor", sum := "1040927dba21f6c01fa9b956e32fd1fdd7f35398eddad4906723eeb76b0d2bc4", func := "loop.example/powercontrol/laws.FnStartRun", spec := "fnStartRun", inPlace := ["internal/abi.NoEscape"], named := ["internal/strconv.uint64pow10", "math/bits.deBruijn32tab", "math/bits.deBruijn64tab"], apart := false, laid := [("math/bits.deBruijn32tab", laid_math_bits_deBruijn32tab), ("math/bits.deBruijn64tab", laid_math_bits_deBruijn64tab), ("internal/strconv.uint64pow10", laid_internal_strconv_uint64pow10)], narrowed := true }
def FnStartRunUptoSaid : Prop := fnStartRunUptoRow.holds Tryd.pinned (OpenSpec.upto fnStartRunSpec)

/-- 'laws.FnStartPower', WHERE WHAT IT READS IS OF BULK AT MOST 1048576: true; the input reads as it did. -/
def fnStartPowerUptoRow : OpenClaim := { program := "ytjecbapmdgnglaadoor", sum := "1040927dba21f6c01fa9b956e32fd1fdd7f35398eddad4906723eeb76b0d2bc4", func := "loop.example/powercontrol/laws.FnStartPower", spec := "fnStartPower", inPlace := ["internal/abi.NoEscape"], named := ["internal/strconv.uint64pow10", "math/bits.deBruijn32tab", "math/bits.deBruijn64tab"], apart := false, laid := [("math/bits.deBruijn32tab", laid_math_bits_deBruijn32tab), ("math/bits.deBruijn64tab", laid_math_bits_deBruijn64tab), ("internal/strconv.uint64pow10", laid_internal_strconv_uint64pow10)], narrowed := true }
def FnStartPowerUptoSaid : Prop := fnStartPowerUptoRow.holds Tryd.pinned (OpenSpec.upto fnStartPowerSpec)

/-- 'laws.FnRoomsValid', WHERE WHAT IT READS IS OF BULK AT MOST 1048576: true; the input reads as it did. -/
def fnRoomsValidUptoRow : OpenClaim := { program := "ytjecbapmdgnglaadoor", sum := "1040927dba21f6c01fa9b956e32fd1fdd7f35398eddad4906723eeb76b0d2bc4", func := "loop.example/powercontrol/laws.FnRoomsValid", spec := "fnRoomsValid", inPlace := ["internal/abi.NoEscape"], named := ["internal/strconv.uint64pow10", "math/bits.deBruijn32tab", "math/bits.deBruijn64tab"], apart := false, laid := [("math/bits.deBruijn32tab", laid_math_bits_deBruijn32tab), ("math/bits.deBruijn64tab", laid_math_bits_deBruijn64tab), ("internal/strconv.uint64pow10", laid_internal_strconv_uint64pow10)], narrowed := true }
def FnRoomsValidUptoSaid : Prop := fnRoomsValidUptoRow.holds Tryd.pinned (OpenSpec.upto fnRoomsValidSpec)

/-- 'laws.FnRoomMay', WHERE WHAT IT READS IS OF BULK AT MOST 1048576: true; the input reads as it did. -/
def fnRoomMayUptoRow : OpenClaim := { program := "ytjecbapmdgnglaadoor", sum := "1040927dba21f6c01fa9b956e32fd1fdd7f35398eddad4906723eeb76b0d2bc4", func := "loop.example/powercontrol/laws.FnRoomMay", spec := "fnRoomMay", inPlace := ["internal/abi.NoEscape"], named := ["internal/strconv.uint64pow10", "math/bits.deBruijn32tab", "math/bits.deBruijn64tab"], apart := false, laid := [("math/bits.deBruijn32tab", laid_math_bits_deBruijn32tab), ("math/bits.deBruijn64tab", laid_math_bits_deBruijn64tab), ("internal/strconv.uint64pow10", laid_internal_strconv_uint64pow10)], narrowed := true }
def FnRoomMayUptoSaid : Prop := fnRoomMayUptoRow.holds Tryd.pinned (OpenSpec.upto fnRoomMaySpec)

/-- 'laws.FnBestJobs', WHERE WHAT IT READS IS OF BULK AT MOST 1048576: true; the input reads as it did. -/
def fnBestJobsUptoRow : OpenClaim := { program := "ytjecbapmdgnglaadoor", sum := "1040927dba21f6c01fa9b956e32fd1fdd7f35398eddad4906723eeb76b0d2bc4", func := "loop.example/powercontrol/laws.FnBestJobs", spec := "fnBestJobs", inPlace := ["internal/abi.NoEscape"], unfollowed := true, recurses := true, named := ["internal/strconv.uint64pow10", "math/bits.deBruijn32tab", "math/bits.deBruijn64tab"], apart := false, laid := [("math/bits.deBruijn32tab", laid_math_bits_deBruijn32tab), ("math/bits.deBruijn64tab", laid_math_bits_deBruijn64tab), ("internal/strconv.uint64pow10", laid_internal_strconv_uint64pow10)], narrowed := true }
def FnBestJobsUptoSaid : Prop := fnBestJobsUptoRow.holds Tryd.pinned (OpenSpec.upto fnBestJobsSpec)

/-- 'laws.FnJobsLost', WHERE WHAT IT READS IS OF BULK AT MOST 1048576: true; the input reads as it did. -/
def fnJobsLostUptoRow : OpenClaim := { program := "ytjecbapmdgnglaadoor", sum := "1040927dba21f6c01fa9b956e32fd1fdd7f35398eddad4906723eeb76b0d2bc4", func := "loop.example/powercontrol/laws.FnJobsLost", spec := "fnJobsLost", inPlace := ["internal/abi.NoEscape"], unfollowed := true, recurses := true, named := ["internal/strconv.uint64pow10", "math/bits.deBruijn32tab", "math/bits.deBruijn64tab"], apart := false, laid := [("math/bits.deBruijn32tab", laid_math_bits_deBruijn32tab), ("math/bits.deBruijn64tab", laid_math_bits_deBruijn64tab), ("internal/strconv.uint64pow10", laid_internal_strconv_uint64pow10)], narrowed := true }
def FnJobsLostUptoSaid : Prop := fnJobsLostUptoRow.holds Tryd.pinned (OpenSpec.upto fnJobsLostSpec)

/-- 'laws.FnLeastLost', WHERE WHAT IT READS IS OF BULK AT MOST 1048576: true; the input reads as it did. -/
def fnLeastLostUptoRow : OpenClaim := { program := "ytjecbapmdgnglaadoor", sum := "1040927dba21f6c01fa9b956e32fd1fdd7f35398eddad4906723eeb76b0d2bc4", func := "loop.example/powercontrol/laws.FnLeastLost", spec := "fnLeastLost", inPlace := ["internal/abi.NoEscape"], unfollowed := true, recurses := true, named := ["internal/strconv.uint64pow10", "math/bits.deBruijn32tab", "math/bits.deBruijn64tab"], apart := false, laid := [("math/bits.deBruijn32tab", laid_math_bits_deBruijn32tab), ("math/bits.deBruijn64tab", laid_math_bits_deBruijn64tab), ("internal/strconv.uint64pow10", laid_internal_strconv_uint64pow10)], narrowed := true }
def FnLeastLostUptoSaid : Prop := fnLeastLostUptoRow.holds Tryd.pinned (OpenSpec.upto fnLeastLostSpec)

end Rows
end Go.Proofs.YtjecbapmdgnglaaDoor
