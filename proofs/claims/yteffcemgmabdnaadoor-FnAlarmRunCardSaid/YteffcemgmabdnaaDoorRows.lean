/-
  NARROWER THAN 'FOR EVERY INPUT', by the rows' own cells (each row's printed sentence says how): FnAlarmRun: laid · FnRoomsValid: laid · FnAlarmTell: laid · FnImbalance: laid · FnRoomMay: laid · FnBestPhases: laid · FnAlarmNext: laid · FnAckOrder: laid.
  DERIVED. THE GIVEN ROWS OF THIS SEAT. 8 by the template 'for every input the law returns true; each argument reads behind the call as it read before'; 0 by the template 'total and deterministic' (their statements: YteffcemgmabdnaaDoorTotals.lean).
  GIVEN WITH THE SEED: the statements are not yours to turn. If you find one false, say at which input.
  Laid BY PROGRAM, IN A SANDBOX (cutbox-rows.mjs): the forced cells as the released guide's own fill.sh prints them over the translation 59165221ba7bc8f9… (all of the seat's roots in one cut). By AI agents, Wed Nov 11 2026. No macro, syntax, notation, axiom, sorry.
-/
import Derived.Test.YteffcemgmabdnaaDoorChecked
import GoSem.Claim
import GoSem.ClaimJoined
import GoSem.ClaimMapViews
import Derived.JoinedTies
import Derived.KernelRfl
namespace Go.Proofs.YteffcemgmabdnaaDoor
/- THE CELL 'sum', in the pinned program and in every row, IS THE sha256 OF THE DUMP (.gsa) THAT YteffcemgmabdnaaDoorProg.lean LOADS. Nothing in Lean hashes anything: it is a label: what it is worth is what the hold of that sum in a sandbox is worth. -/
noncomputable def Tryd.pinned : Pinned := { name := "yteffcemgmabdnaadoor", sum := "59165221ba7bc8f987a98ee1eb8331d532e23b8e007e5bb2f66e7caa890f7aee", checked := Tryd.checked }
namespace Rows
def none {H : Type} : Left H := { results := [], args := [] }

/- WHAT THE LISTED PACKAGE-LEVEL VARIABLES READ AS WHEN THE CALL BEGINS. Each datum BY PROGRAM (the guide's laid-datum.mjs) off the statement by which the dump's own 'gosem.cut.vars' lays the variable. In a bare row this is a premise. The card (YteffcemgmabdnaaDoorCards.lean) ties it to the program's text. -/
def laid_math_bits_deBruijn32tab {H : Type} : DataW H := .agg [.lit (.int .u8 0), .lit (.int .u8 1), .lit (.int .u8 28), .lit (.int .u8 2), .lit (.int .u8 29), .lit (.int .u8 14), .lit (.int .u8 24), .lit (.int .u8 3), .lit (.int .u8 30), .lit (.int .u8 22), .lit (.int .u8 20), .lit (.int .u8 15), .lit (.int .u8 25), .lit (.int .u8 17), .lit (.int .u8 4), .lit (.int .u8 8), .lit (.int .u8 31), .lit (.int .u8 27), .lit (.int .u8 13), .lit (.int .u8 23), .lit (.int .u8 21), .lit (.int .u8 19), .lit (.int .u8 16), .lit (.int .u8 7), .lit (.int .u8 26), .lit (.int .u8 12), .lit (.int .u8 18), .lit (.int .u8 6), .lit (.int .u8 11), .lit (.int .u8 5), .lit (.int .u8 10), .lit (.int .u8 9)]
def laid_math_bits_deBruijn64tab {H : Type} : DataW H := .agg [.lit (.int .u8 0), .lit (.int .u8 1), .lit (.int .u8 56), .lit (.int .u8 2), .lit (.int .u8 57), .lit (.int .u8 49), .lit (.int .u8 28), .lit (.int .u8 3), .lit (.int .u8 61), .lit (.int .u8 58), .lit (.int .u8 42), .lit (.int .u8 50), .lit (.int .u8 38), .lit (.int .u8 29), .lit (.int .u8 17), .lit (.int .u8 4), .lit (.int .u8 62), .lit (.int .u8 47), .lit (.int .u8 59), .lit (.int .u8 36), .lit (.int .u8 45), .lit (.int .u8 43), .lit (.int .u8 51), .lit (.int .u8 22), .lit (.int .u8 53), .lit (.int .u8 39), .lit (.int .u8 33), .lit (.int .u8 30), .lit (.int .u8 24), .lit (.int .u8 18), .lit (.int .u8 12), .lit (.int .u8 5), .lit (.int .u8 63), .lit (.int .u8 55), .lit (.int .u8 48), .lit (.int .u8 27), .lit (.int .u8 60), .lit (.int .u8 41), .lit (.int .u8 37), .lit (.int .u8 16), .lit (.int .u8 46), .lit (.int .u8 35), .lit (.int .u8 44), .lit (.int .u8 21), .lit (.int .u8 52), .lit (.int .u8 32), .lit (.int .u8 23), .lit (.int .u8 11), .lit (.int .u8 54), .lit (.int .u8 26), .lit (.int .u8 40), .lit (.int .u8 15), .lit (.int .u8 34), .lit (.int .u8 20), .lit (.int .u8 31), .lit (.int .u8 10), .lit (.int .u8 25), .lit (.int .u8 14), .lit (.int .u8 19), .lit (.int .u8 9), .lit (.int .u8 13), .lit (.int .u8 8), .lit (.int .u8 7), .lit (.int .u8 6)]
def laid_internal_strconv_uint64pow10 {H : Type} : DataW H := .agg [.lit (.int .u64 1), .lit (.int .u64 10), .lit (.int .u64 100), .lit (.int .u64 1000), .lit (.int .u64 10000), .lit (.int .u64 100000), .lit (.int .u64 1000000), .lit (.int .u64 10000000), .lit (.int .u64 100000000), .lit (.int .u64 1000000000), .lit (.int .u64 10000000000), .lit (.int .u64 100000000000), .lit (.int .u64 1000000000000), .lit (.int .u64 10000000000000), .lit (.int .u64 100000000000000), .lit (.int .u64 1000000000000000), .lit (.int .u64 10000000000000000), .lit (.int .u64 100000000000000000), .lit (.int .u64 1000000000000000000), .lit (.int .u64 10000000000000000000)]
def laid_loop_example_powercontrol_impl_alarmStates {H : Type} : DataW H := .agg [.agg [.lit (.int .i64 1), .lit (.int .i64 0), .lit (.int .i64 0)], .agg [.lit (.int .i64 1), .lit (.int .i64 3), .lit (.int .i64 2)], .agg [.lit (.int .i64 2), .lit (.int .i64 0), .lit (.int .i64 2)], .agg [.lit (.int .i64 1), .lit (.int .i64 3), .lit (.int .i64 0)]]

/-- 'laws.FnAlarmRun': WHATEVER THE INPUT: true; the input reads as it did. -/
def fnAlarmRunSpec : ChangeSpec := { name := "fnAlarmRun", vars := ["loop.example/powercontrol/impl.alarmStates"], fn := fun _ => fun
  | [d, g1] => { results := [.lit (.bool true)], args := [d], vars := [g1] }
  | _ => none }
def fnAlarmRunRow : OpenClaim := { program := "yteffcemgmabdnaadoor", sum := "59165221ba7bc8f987a98ee1eb8331d532e23b8e007e5bb2f66e7caa890f7aee", func := "loop.example/powercontrol/laws.FnAlarmRun", spec := "fnAlarmRun", inPlace := ["internal/abi.NoEscape"], named := ["loop.example/powercontrol/impl.alarmStates", "internal/strconv.uint64pow10", "math/bits.deBruijn32tab", "math/bits.deBruijn64tab"], apart := false, laid := [("math/bits.deBruijn32tab", laid_math_bits_deBruijn32tab), ("math/bits.deBruijn64tab", laid_math_bits_deBruijn64tab), ("internal/strconv.uint64pow10", laid_internal_strconv_uint64pow10), ("loop.example/powercontrol/impl.alarmStates", laid_loop_example_powercontrol_impl_alarmStates)] }
def FnAlarmRunSaid : Prop := fnAlarmRunRow.holds Tryd.pinned (OpenSpec.ofChange fnAlarmRunSpec)

/-- ITS FALSE NEIGHBOUR: 'it returns false'. Refute it at one input. -/
def fnAlarmRunWrong : ChangeSpec := { name := "fnAlarmRun", vars := ["loop.example/powercontrol/impl.alarmStates"], fn := fun _ => fun
  | [d, g1] => { results := [.lit (.bool false)], args := [d], vars := [g1] }
  | _ => none }
def FnAlarmRunWrongFalsely : Prop := fnAlarmRunRow.holds Tryd.pinned (OpenSpec.ofChange fnAlarmRunWrong)

/-- 'laws.FnRoomsValid': WHATEVER THE INPUT: true; the input reads as it did. -/
def fnRoomsValidSpec : ChangeSpec := { name := "fnRoomsValid", fn := fun _ => fun
  | [d] => { results := [.lit (.bool true)], args := [d] }
  | _ => none }
def fnRoomsValidRow : OpenClaim := { program := "yteffcemgmabdnaadoor", sum := "59165221ba7bc8f987a98ee1eb8331d532e23b8e007e5bb2f66e7caa890f7aee", func := "loop.example/powercontrol/laws.FnRoomsValid", spec := "fnRoomsValid", inPlace := ["internal/abi.NoEscape"], named := ["internal/strconv.uint64pow10", "math/bits.deBruijn32tab", "math/bits.deBruijn64tab"], apart := false, laid := [("math/bits.deBruijn32tab", laid_math_bits_deBruijn32tab), ("math/bits.deBruijn64tab", laid_math_bits_deBruijn64tab), ("internal/strconv.uint64pow10", laid_internal_strconv_uint64pow10)] }
def FnRoomsValidSaid : Prop := fnRoomsValidRow.holds Tryd.pinned (OpenSpec.ofChange fnRoomsValidSpec)

/-- ITS FALSE NEIGHBOUR: 'it returns false'. Refute it at one input. -/
def fnRoomsValidWrong : ChangeSpec := { name := "fnRoomsValid", fn := fun _ => fun
  | [d] => { results := [.lit (.bool false)], args := [d] }
  | _ => none }
def FnRoomsValidWrongFalsely : Prop := fnRoomsValidRow.holds Tryd.pinned (OpenSpec.ofChange fnRoomsValidWrong)

/-- 'laws.FnAlarmTell': WHATEVER THE INPUT: true; the input reads as it did. -/
def fnAlarmTellSpec : ChangeSpec := { name := "fnAlarmTell", vars := ["loop.example/powercontrol/impl.alarmStates"], fn := fun _ => fun
  | [d, g1] => { results := [.lit (.bool true)], args := [d], vars := [g1] }
  | _ => none }
def fnAlarmTellRow : OpenClaim := { program := "yteffcemgmabdnaadoor", sum := "59165221ba7bc8f987a98ee1eb8331d532e23b8e007e5bb2f66e7caa890f7aee", func := "loop.example/powercontrol/laws.FnAlarmTell", spec := "fnAlarmTell", inPlace := ["internal/abi.NoEscape"], named := ["loop.example/powercontrol/impl.alarmStates", "internal/strconv.uint64pow10", "math/bits.deBruijn32tab", "math/bits.deBruijn64tab"], apart := false, laid := [("math/bits.deBruijn32tab", laid_math_bits_deBruijn32tab), ("math/bits.deBruijn64tab", laid_math_bits_deBruijn64tab), ("internal/strconv.uint64pow10", laid_internal_strconv_uint64pow10), ("loop.example/powercontrol/impl.alarmStates", laid_loop_example_powercontrol_impl_alarmStates)] }
def FnAlarmTellSaid : Prop := fnAlarmTellRow.holds Tryd.pinned (OpenSpec.ofChange fnAlarmTellSpec)

/-- ITS FALSE NEIGHBOUR: 'it returns false'. Refute it at one input. -/
def fnAlarmTellWrong : ChangeSpec := { name := "fnAlarmTell", vars := ["loop.example/powercontrol/impl.alarmStates"], fn := fun _ => fun
  | [d, g1] => { results := [.lit (.bool false)], args := [d], vars := [g1] }
  | _ => none }
def FnAlarmTellWrongFalsely : Prop := fnAlarmTellRow.holds Tryd.pinned (OpenSpec.ofChange fnAlarmTellWrong)

/-- 'laws.FnImbalance': WHATEVER THE INPUT: true; the input reads as it did. -/
def fnImbalanceSpec : ChangeSpec := { name := "fnImbalance", fn := fun _ => fun
  | [d] => { results := [.lit (.bool true)], args := [d] }
  | _ => none }
def fnImbalanceRow : OpenClaim := { program := "yteffcemgmabdnaadoor", sum := "59165221ba7bc8f987a98ee1eb8331d532e23b8e007e5bb2f66e7caa890f7aee", func := "loop.example/powercontrol/laws.FnImbalance", spec := "fnImbalance", inPlace := ["internal/abi.NoEscape"], recurses := true, named := ["internal/strconv.uint64pow10", "math/bits.deBruijn32tab", "math/bits.deBruijn64tab"], apart := false, laid := [("math/bits.deBruijn32tab", laid_math_bits_deBruijn32tab), ("math/bits.deBruijn64tab", laid_math_bits_deBruijn64tab), ("internal/strconv.uint64pow10", laid_internal_strconv_uint64pow10)] }
def FnImbalanceSaid : Prop := fnImbalanceRow.holds Tryd.pinned (OpenSpec.ofChange fnImbalanceSpec)

/-- ITS FALSE NEIGHBOUR: 'it returns false'. Refute it at one input. -/
def fnImbalanceWrong : ChangeSpec := { name := "fnImbalance", fn := fun _ => fun
  | [d] => { results := [.lit (.bool false)], args := [d] }
  | _ => none }
def FnImbalanceWrongFalsely : Prop := fnImbalanceRow.holds Tryd.pinned (OpenSpec.ofChange fnImbalanceWrong)

/-- 'laws.FnRoomMay': WHATEVER THE INPUT: true; the input reads as it did. -/
def fnRoomMaySpec : ChangeSpec := { name := "fnRoomMay", fn := fun _ => fun
  | [d] => { results := [.lit (.bool true)], args := [d] }
  | _ => none }
def fnRoomMayRow : OpenClaim := { program := "yteffcemgmabdnaadoor", sum := "59165221ba7bc8f987a98ee1eb8331d532e23b8e007e5bb2f66e7caa890f7aee", func := "loop.example/powercontrol/laws.FnRoomMay", spec := "fnRoomMay", inPlace := ["internal/abi.NoEscape"], named := ["internal/strconv.uint64pow10", "math/bits.deBruijn32tab", "math/bits.deBruijn64tab"], apart := false, laid := [("math/bits.deBruijn32tab", laid_math_bits_deBruijn32tab), ("math/bits.deBruijn64tab", laid_math_bits_deBruijn64tab), ("internal/strconv.uint64pow10", laid_internal_strconv_uint64pow10)] }
def FnRoomMaySaid : Prop := fnRoomMayRow.holds Tryd.pinned (OpenSpec.ofChange fnRoomMaySpec)

/-- ITS FALSE NEIGHBOUR: 'it returns false'. Refute it at one input. -/
def fnRoomMayWrong : ChangeSpec := { name := "fnRoomMay", fn := fun _ => fun
  | [d] => { results := [.lit (.bool false)], args := [d] }
  | _ => none }
def FnRoomMayWrongFalsely : Prop := fnRoomMayRow.holds Tryd.pinned (OpenSpec.ofChange fnRoomMayWrong)

/-- 'laws.FnBestPhases': WHATEVER THE INPUT: true; the input reads as it did. -/
def fnBestPhasesSpec : ChangeSpec := { name := "fnBestPhases", fn := fun _ => fun
  | [d] => { results := [.lit (.bool true)], args := [d] }
  | _ => none }
def fnBestPhasesRow : OpenClaim := { program := "yteffcemgmabdnaadoor", sum := "59165221ba7bc8f987a98ee1eb8331d532e23b8e007e5bb2f66e7caa890f7aee", func := "loop.example/powercontrol/laws.FnBestPhases", spec := "fnBestPhases", inPlace := ["internal/abi.NoEscape"], recurses := true, named := ["internal/strconv.uint64pow10", "math/bits.deBruijn32tab", "math/bits.deBruijn64tab"], apart := false, laid := [("math/bits.deBruijn32tab", laid_math_bits_deBruijn32tab), ("math/bits.deBruijn64tab", laid_math_bits_deBruijn64tab), ("internal/strconv.uint64pow10", laid_internal_strconv_uint64pow10)] }
def FnBestPhasesSaid : Prop := fnBestPhasesRow.holds Tryd.pinned (OpenSpec.ofChange fnBestPhasesSpec)

/-- ITS FALSE NEIGHBOUR: 'it returns false'. Refute it at one input. -/
def fnBestPhasesWrong : ChangeSpec := { name := "fnBestPhases", fn := fun _ => fun
  | [d] => { results := [.lit (.bool false)], args := [d] }
  | _ => none }
def FnBestPhasesWrongFalsely : Prop := fnBestPhasesRow.holds Tryd.pinned (OpenSpec.ofChange fnBestPhasesWrong)

/-- 'laws.FnAlarmNext': WHATEVER THE INPUT: true; the input reads as it did. -/
def fnAlarmNextSpec : ChangeSpec := { name := "fnAlarmNext", fn := fun _ => fun
  | [d] => { results := [.lit (.bool true)], args := [d] }
  | _ => none }
def fnAlarmNextRow : OpenClaim := { program := "yteffcemgmabdnaadoor", sum := "59165221ba7bc8f987a98ee1eb8331d532e23b8e007e5bb2f66e7caa890f7aee", func := "loop.example/powercontrol/laws.FnAlarmNext", spec := "fnAlarmNext", inPlace := ["internal/abi.NoEscape"], unfollowed := true, recurses := true, named := ["internal/strconv.uint64pow10", "math/bits.deBruijn32tab", "math/bits.deBruijn64tab"], apart := false, laid := [("math/bits.deBruijn32tab", laid_math_bits_deBruijn32tab), ("math/bits.deBruijn64tab", laid_math_bits_deBruijn64tab), ("internal/strconv.uint64pow10", laid_internal_strconv_uint64pow10)] }
def FnAlarmNextSaid : Prop := fnAlarmNextRow.holds Tryd.pinned (OpenSpec.ofChange fnAlarmNextSpec)

/-- ITS FALSE NEIGHBOUR: 'it returns false'. Refute it at one input. -/
def fnAlarmNextWrong : ChangeSpec := { name := "fnAlarmNext", fn := fun _ => fun
  | [d] => { results := [.lit (.bool false)], args := [d] }
  | _ => none }
def FnAlarmNextWrongFalsely : Prop := fnAlarmNextRow.holds Tryd.pinned (OpenSpec.ofChange fnAlarmNextWrong)

/-- 'laws.FnAckOrder': WHATEVER THE INPUT: true; the input reads as it did. -/
def fnAckOrderSpec : ChangeSpec := { name := "fnAckOrder", vars := ["loop.example/powercontrol/impl.alarmStates"], fn := fun _ => fun
  | [d, g1] => { results := [.lit (.bool true)], args := [d], vars := [g1] }
  | _ => none }
def fnAckOrderRow : OpenClaim := { program := "yteffcemgmabdnaadoor", sum := "59165221ba7bc8f987a98ee1eb8331d532e23b8e007e5bb2f66e7caa890f7aee", func := "loop.example/powercontrol/laws.FnAckOrder", spec := "fnAckOrder", inPlace := ["internal/abi.NoEscape"], unfollowed := true, recurses := true, named := ["internal/strconv.uint64pow10", "math/bits.deBruijn32tab", "math/bits.deBruijn64tab", "loop.example/powercontrol/impl.alarmStates"], apart := false, laid := [("math/bits.deBruijn32tab", laid_math_bits_deBruijn32tab), ("math/bits.deBruijn64tab", laid_math_bits_deBruijn64tab), ("internal/strconv.uint64pow10", laid_internal_strconv_uint64pow10), ("loop.example/powercontrol/impl.alarmStates", laid_loop_example_powercontrol_impl_alarmStates)] }
def FnAckOrderSaid : Prop := fnAckOrderRow.holds Tryd.pinned (OpenSpec.ofChange fnAckOrderSpec)

/-- ITS FALSE NEIGHBOUR: 'it returns false'. Refute it at one input. -/
def fnAckOrderWrong : ChangeSpec := { name := "fnAckOrder", vars := ["loop.example/powercontrol/impl.alarmStates"], fn := fun _ => fun
  | [d, g1] => { results := [.lit (.bool false)], args := [d], vars := [g1] }
  | _ => none }
def FnAckOrderWrongFalsely : Prop := fnAckOrderRow.holds Tryd.pinned (OpenSpec.ofChange fnAckOrderWrong)

/- THE SECOND FORM. 'bulk': how many values and letters a reading holds, each counted each time it is reached (what is shared counts as often as it is met; a slice's spare places count too). A statement '..UptoSaid' is the law's where the arguments, and the package variables that the reading takes, are together of bulk at most 1048576: NARROWER than '..Said'. Prove '..Said' where nothing that the law and all that it calls make is longer than what came in: it says more and counts as full. Else prove '..UptoSaid'. A law counts once. -/
mutual
def uptoBulk {H : Type} : DataW H → Nat
  | .lit (.string bytes) => bytes.length + 1
  | .lit _ => 1
  | .nil => 1
  | .ptr d => uptoBulk d + 1
  | .slice elems spare => uptoBulkAll elems + uptoBulkAll spare + 1
  | .agg parts => uptoBulkAll parts + 1
  | .iface _ d => uptoBulk d + 1
  | .map entries => uptoBulkEntries entries + 1
  | .held _ => 1
def uptoBulkAll {H : Type} : List (DataW H) → Nat
  | [] => 0
  | d :: r => uptoBulk d + uptoBulkAll r
def uptoBulkEntries {H : Type} : List (Lit × DataW H) → Nat
  | [] => 0
  | x :: r => uptoBulkEntry x + uptoBulkEntries r
def uptoBulkEntry {H : Type} : Lit × DataW H → Nat
  | (.string bytes, d) => bytes.length + uptoBulk d + 1
  | (_, d) => uptoBulk d + 1
 end
def uptoSmall : (H : Type) → List (DataW H) → Bool := fun _ ds => decide (uptoBulkAll ds ≤ 1048576)
def OpenSpec.upto (s : _root_.Go.ChangeSpec) : _root_.Go.OpenSpec := { _root_.Go.OpenSpec.ofChange s with cond := some uptoSmall }

/-- 'laws.FnAlarmRun', WHERE WHAT IT READS IS OF BULK AT MOST 1048576: true; the input reads as it did. -/
def fnAlarmRunUptoRow : OpenClaim := { program := "yteffcemgmabdnaadoor", sum := "59165221ba7bc8f987a98ee1eb8331d532e23b8e007e5bb2f66e7caa890f7aee", func := "loop.example/powercontrol/laws.FnAlarmRun", spec := "fnAlarmRun", inPlace := ["internal/abi.NoEscape"], named := ["loop.example/powercontrol/impl.alarmStates", "internal/strconv.uint64pow10", "math/bits.deBruijn32tab", "math/bits.deBruijn64tab"], apart := false, laid := [("math/bits.deBruijn32tab", laid_math_bits_deBruijn32tab), ("math/bits.deBruijn64tab", laid_math_bits_deBruijn64tab), ("internal/strconv.uint64pow10", laid_internal_strconv_uint64pow10), ("loop.example/powercontrol/impl.alarmStates", laid_loop_example_powercontrol_impl_alarmStates)], narrowed := true }
def FnAlarmRunUptoSaid : Prop := fnAlarmRunUptoRow.holds Tryd.pinned (OpenSpec.upto fnAlarmRunSpec)

/-- 'laws.FnRoomsValid', WHERE WHAT IT READS IS OF BULK AT MOST 1048576: true; the input reads as it did. -/
def fnRoomsValidUptoRow : OpenClaim := { program := "yteffcemgmabdnaadoor", sum := "59165221ba7bc8f987a98ee1eb8331d532e23b8e007e5bb2f66e7caa890f7aee", func := "loop.example/powercontrol/laws.FnRoomsValid", spec := "fnRoomsValid", inPlace := ["internal/abi.NoEscape"], named := ["internal/strconv.uint64pow10", "math/bits.deBruijn32tab", "math/bits.deBruijn64tab"], apart := false, laid := [("math/bits.deBruijn32tab", laid_math_bits_deBruijn32tab), ("math/bits.deBruijn64tab", laid_math_bits_deBruijn64tab), ("internal/strconv.uint64pow10", laid_internal_strconv_uint64pow10)], narrowed := true }
def FnRoomsValidUptoSaid : Prop := fnRoomsValidUptoRow.holds Tryd.pinned (OpenSpec.upto fnRoomsValidSpec)

/-- 'laws.FnAlarmTell', WHERE WHAT IT READS IS OF BULK AT MOST 1048576: true; the input reads as it did. -/
def fnAlarmTellUptoRow : OpenClaim := { program := "yteffcemgmabdnaadoor", sum := "59165221ba7bc8f987a98ee1eb8331d532e23b8e007e5bb2f66e7caa890f7aee", func := "loop.example/powercontrol/laws.FnAlarmTell", spec := "fnAlarmTell", inPlace := ["internal/abi.NoEscape"], named := ["loop.example/powercontrol/impl.alarmStates", "internal/strconv.uint64pow10", "math/bits.deBruijn32tab", "math/bits.deBruijn64tab"], apart := false, laid := [("math/bits.deBruijn32tab", laid_math_bits_deBruijn32tab), ("math/bits.deBruijn64tab", laid_math_bits_deBruijn64tab), ("internal/strconv.uint64pow10", laid_internal_strconv_uint64pow10), ("loop.example/powercontrol/impl.alarmStates", laid_loop_example_powercontrol_impl_alarmStates)], narrowed := true }
def FnAlarmTellUptoSaid : Prop := fnAlarmTellUptoRow.holds Tryd.pinned (OpenSpec.upto fnAlarmTellSpec)

/-- 'laws.FnImbalance', WHERE WHAT IT READS IS OF BULK AT MOST 1048576: true; the input reads as it did. -/
def fnImbalanceUptoRow : OpenClaim := { program := "yteffcemgmabdnaadoor", sum := "59165221ba7bc8f987a98ee1eb8331d532e23b8e007e5bb2f66e7caa890f7aee", func := "loop.example/powercontrol/laws.FnImbalance", spec := "fnImbalance", inPlace := ["internal/abi.NoEscape"], recurses := true, named := ["internal/strconv.uint64pow10", "math/bits.deBruijn32tab", "math/bits.deBruijn64tab"], apart := false, laid := [("math/bits.deBruijn32tab", laid_math_bits_deBruijn32tab), ("math/bits.deBruijn64tab", laid_math_bits_deBruijn64tab), ("internal/strconv.uint64pow10", laid_internal_strconv_uint64pow10)], narrowed := true }
def FnImbalanceUptoSaid : Prop := fnImbalanceUptoRow.holds Tryd.pinned (OpenSpec.upto fnImbalanceSpec)

/-- 'laws.FnRoomMay', WHERE WHAT IT READS IS OF BULK AT MOST 1048576: true; the input reads as it did. -/
def fnRoomMayUptoRow : OpenClaim := { program := "yteffcemgmabdnaadoor", sum := "59165221ba7bc8f987a98ee1eb8331d532e23b8e007e5bb2f66e7caa890f7aee", func := "loop.example/powercontrol/laws.FnRoomMay", spec := "fnRoomMay", inPlace := ["internal/abi.NoEscape"], named := ["internal/strconv.uint64pow10", "math/bits.deBruijn32tab", "math/bits.deBruijn64tab"], apart := false, laid := [("math/bits.deBruijn32tab", laid_math_bits_deBruijn32tab), ("math/bits.deBruijn64tab", laid_math_bits_deBruijn64tab), ("internal/strconv.uint64pow10", laid_internal_strconv_uint64pow10)], narrowed := true }
def FnRoomMayUptoSaid : Prop := fnRoomMayUptoRow.holds Tryd.pinned (OpenSpec.upto fnRoomMaySpec)

/-- 'laws.FnBestPhases', WHERE WHAT IT READS IS OF BULK AT MOST 1048576: true; the input reads as it did. -/
def fnBestPhasesUptoRow : OpenClaim := { program := "yteffcemgmabdnaadoor", sum := "59165221ba7bc8f987a98ee1eb8331d532e23b8e007e5bb2f66e7caa890f7aee", func := "loop.example/powercontrol/laws.FnBestPhases", spec := "fnBestPhases", inPlace := ["internal/abi.NoEscape"], recurses := true, named := ["internal/strconv.uint64pow10", "math/bits.deBruijn32tab", "math/bits.deBruijn64tab"], apart := false, laid := [("math/bits.deBruijn32tab", laid_math_bits_deBruijn32tab), ("math/bits.deBruijn64tab", laid_math_bits_deBruijn64tab), ("internal/strconv.uint64pow10", laid_internal_strconv_uint64pow10)], narrowed := true }
def FnBestPhasesUptoSaid : Prop := fnBestPhasesUptoRow.holds Tryd.pinned (OpenSpec.upto fnBestPhasesSpec)

/-- 'laws.FnAlarmNext', WHERE WHAT IT READS IS OF BULK AT MOST 1048576: true; the input reads as it did. -/
def fnAlarmNextUptoRow : OpenClaim := { program := "yteffcemgmabdnaadoor", sum := "59165221ba7bc8f987a98ee1eb8331d532e23b8e007e5bb2f66e7caa890f7aee", func := "loop.example/powercontrol/laws.FnAlarmNext", spec := "fnAlarmNext", inPlace := ["internal/abi.NoEscape"], unfollowed := true, recurses := true, named := ["internal/strconv.uint64pow10", "math/bits.deBruijn32tab", "math/bits.deBruijn64tab"], apart := false, laid := [("math/bits.deBruijn32tab", laid_math_bits_deBruijn32tab), ("math/bits.deBruijn64tab", laid_math_bits_deBruijn64tab), ("internal/strconv.uint64pow10", laid_internal_strconv_uint64pow10)], narrowed := true }
def FnAlarmNextUptoSaid : Prop := fnAlarmNextUptoRow.holds Tryd.pinned (OpenSpec.upto fnAlarmNextSpec)

/-- 'laws.FnAckOrder', WHERE WHAT IT READS IS OF BULK AT MOST 1048576: true; the input reads as it did. -/
def fnAckOrderUptoRow : OpenClaim := { program := "yteffcemgmabdnaadoor", sum := "59165221ba7bc8f987a98ee1eb8331d532e23b8e007e5bb2f66e7caa890f7aee", func := "loop.example/powercontrol/laws.FnAckOrder", spec := "fnAckOrder", inPlace := ["internal/abi.NoEscape"], unfollowed := true, recurses := true, named := ["internal/strconv.uint64pow10", "math/bits.deBruijn32tab", "math/bits.deBruijn64tab", "loop.example/powercontrol/impl.alarmStates"], apart := false, laid := [("math/bits.deBruijn32tab", laid_math_bits_deBruijn32tab), ("math/bits.deBruijn64tab", laid_math_bits_deBruijn64tab), ("internal/strconv.uint64pow10", laid_internal_strconv_uint64pow10), ("loop.example/powercontrol/impl.alarmStates", laid_loop_example_powercontrol_impl_alarmStates)], narrowed := true }
def FnAckOrderUptoSaid : Prop := fnAckOrderUptoRow.holds Tryd.pinned (OpenSpec.upto fnAckOrderSpec)

end Rows
end Go.Proofs.YteffcemgmabdnaaDoor
