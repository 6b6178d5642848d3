/-
  NARROWER THAN 'FOR EVERY INPUT', by the rows' own cells (each row's printed sentence says how): FnAlarmTell: laid · FnAckOrder: laid · FnRoomsValid: laid · FnRoomMay: laid · FnCutCapacity: laid · FnFlowValue: laid · FnMostFlows: laid · FnMostFlow: laid · FnWeakCut: laid.
  DERIVED. THE GIVEN ROWS OF THIS SEAT. 9 by the template 'for every input the law returns true; each argument reads behind the call as it read before'; 0 by the template 'total and deterministic' (their statements: YtijnahflfbjgiaaDoorTotals.lean).
  GIVEN WITH THE SEED: the statements are not yours to turn. If you find one false, say at which input.
  Laid BY PROGRAM, IN A SANDBOX (cutbox-rows.mjs): the forced cells as the released guide's own fill.sh prints them over the translation 78f207ede1d1a850… (all of the seat's roots in one cut). By AI agents, Wed Nov 11 2026. No macro, syntax, notation, axiom, sorry.
-/
import Derived.Test.YtijnahflfbjgiaaDoorChecked
import GoSem.Claim
import GoSem.ClaimJoined
import GoSem.ClaimMapViews
import Derived.JoinedTies
import Derived.KernelRfl
namespace Go.Proofs.YtijnahflfbjgiaaDoor
/- THE CELL 'sum', in the pinned program and in every row, IS THE sha256 OF THE DUMP (.gsa) THAT YtijnahflfbjgiaaDoorProg.lean LOADS. Nothing in Lean hashes anything: it is a label: what it is worth is what the hold of that sum in a sandbox is worth. -/
noncomputable def Tryd.pinned : Pinned := { name := "ytijnahflfbjgiaadoor", sum := "78f207ede1d1a85056728a3b7d75a0c7f53dac7cbe5a5904ecd5633ea47f04e6", checked := Tryd.checked }
namespace Rows
def none {H : Type} : Left H := { results := [], args := [] }

/- WHAT THE LISTED PACKAGE-LEVEL VARIABLES READ AS WHEN THE CALL BEGINS. Each datum BY PROGRAM (the guide's laid-datum.mjs) off the statement by which the dump's own 'gosem.cut.vars' lays the variable. In a bare row this is a premise. The card (YtijnahflfbjgiaaDoorCards.lean) ties it to the program's text. -/
def laid_math_bits_deBruijn32tab {H : Type} : DataW H := .agg [.lit (.int .u8 0), .lit (.int .u8 1), .lit (.int .u8 28), .lit (.int .u8 2), .lit (.int .u8 29), .lit (.int .u8 14), .lit (.int .u8 24), .lit (.int .u8 3), .lit (.int .u8 30), .lit (.int .u8 22), .lit (.int .u8 20), .lit (.int .u8 15), .lit (.int .u8 25), .lit (.int .u8 17), .lit (.int .u8 4), .lit (.int .u8 8), .lit (.int .u8 31), .lit (.int .u8 27), .lit (.int .u8 13), .lit (.int .u8 23), .lit (.int .u8 21), .lit (.int .u8 19), .lit (.int .u8 16), .lit (.int .u8 7), .lit (.int .u8 26), .lit (.int .u8 12), .lit (.int .u8 18), .lit (.int .u8 6), .lit (.int .u8 11), .lit (.int .u8 5), .lit (.int .u8 10), .lit (.int .u8 9)]
def laid_math_bits_deBruijn64tab {H : Type} : DataW H := .agg [.lit (.int .u8 0), .lit (.int .u8 1), .lit (.int .u8 56), .lit (.int .u8 2), .lit (.int .u8 57), .lit (.int .u8 49), .lit (.int .u8 28), .lit (.int .u8 3), .lit (.int .u8 61), .lit (.int .u8 58), .lit (.int .u8 42), .lit (.int .u8 50), .lit (.int .u8 38), .lit (.int .u8 29), .lit (.int .u8 17), .lit (.int .u8 4), .lit (.int .u8 62), .lit (.int .u8 47), .lit (.int .u8 59), .lit (.int .u8 36), .lit (.int .u8 45), .lit (.int .u8 43), .lit (.int .u8 51), .lit (.int .u8 22), .lit (.int .u8 53), .lit (.int .u8 39), .lit (.int .u8 33), .lit (.int .u8 30), .lit (.int .u8 24), .lit (.int .u8 18), .lit (.int .u8 12), .lit (.int .u8 5), .lit (.int .u8 63), .lit (.int .u8 55), .lit (.int .u8 48), .lit (.int .u8 27), .lit (.int .u8 60), .lit (.int .u8 41), .lit (.int .u8 37), .lit (.int .u8 16), .lit (.int .u8 46), .lit (.int .u8 35), .lit (.int .u8 44), .lit (.int .u8 21), .lit (.int .u8 52), .lit (.int .u8 32), .lit (.int .u8 23), .lit (.int .u8 11), .lit (.int .u8 54), .lit (.int .u8 26), .lit (.int .u8 40), .lit (.int .u8 15), .lit (.int .u8 34), .lit (.int .u8 20), .lit (.int .u8 31), .lit (.int .u8 10), .lit (.int .u8 25), .lit (.int .u8 14), .lit (.int .u8 19), .lit (.int .u8 9), .lit (.int .u8 13), .lit (.int .u8 8), .lit (.int .u8 7), .lit (.int .u8 6)]
def laid_internal_strconv_uint64pow10 {H : Type} : DataW H := .agg [.lit (.int .u64 1), .lit (.int .u64 10), .lit (.int .u64 100), .lit (.int .u64 1000), .lit (.int .u64 10000), .lit (.int .u64 100000), .lit (.int .u64 1000000), .lit (.int .u64 10000000), .lit (.int .u64 100000000), .lit (.int .u64 1000000000), .lit (.int .u64 10000000000), .lit (.int .u64 100000000000), .lit (.int .u64 1000000000000), .lit (.int .u64 10000000000000), .lit (.int .u64 100000000000000), .lit (.int .u64 1000000000000000), .lit (.int .u64 10000000000000000), .lit (.int .u64 100000000000000000), .lit (.int .u64 1000000000000000000), .lit (.int .u64 10000000000000000000)]
def laid_loop_example_powercontrol_impl_alarmStates {H : Type} : DataW H := .agg [.agg [.lit (.int .i64 1), .lit (.int .i64 0), .lit (.int .i64 0)], .agg [.lit (.int .i64 1), .lit (.int .i64 3), .lit (.int .i64 2)], .agg [.lit (.int .i64 2), .lit (.int .i64 0), .lit (.int .i64 2)], .agg [.lit (.int .i64 1), .lit (.int .i64 3), .lit (.int .i64 0)]]

/-- 'laws.FnAlarmTell': WHATEVER THE INPUT: true; the input reads as it did. -/
def fnAlarmTellSpec : ChangeSpec := { name := "fnAlarmTell", vars := ["loop.example/powercontrol/impl.alarmStates"], fn := fun _ => fun
  | [d, g1] => { results := [.lit (.bool true)], args := [d], vars := [g1] }
  | _ => none }
def fnAlarmTellRow : OpenClaim := { program := "ytijnahflfbjgiaadoor", sum := "78f207ede1d1a85056728a3b7d75a0c7f53dac7cbe5a5904ecd5633ea47f04e6", func := "loop.example/powercontrol/laws.FnAlarmTell", spec := "fnAlarmTell", inPlace := ["internal/abi.NoEscape"], named := ["loop.example/powercontrol/impl.alarmStates", "internal/strconv.uint64pow10", "math/bits.deBruijn32tab", "math/bits.deBruijn64tab"], apart := false, laid := [("math/bits.deBruijn32tab", laid_math_bits_deBruijn32tab), ("math/bits.deBruijn64tab", laid_math_bits_deBruijn64tab), ("internal/strconv.uint64pow10", laid_internal_strconv_uint64pow10), ("loop.example/powercontrol/impl.alarmStates", laid_loop_example_powercontrol_impl_alarmStates)] }
def FnAlarmTellSaid : Prop := fnAlarmTellRow.holds Tryd.pinned (OpenSpec.ofChange fnAlarmTellSpec)

/-- ITS FALSE NEIGHBOUR: 'it returns false'. Refute it at one input. -/
def fnAlarmTellWrong : ChangeSpec := { name := "fnAlarmTell", vars := ["loop.example/powercontrol/impl.alarmStates"], fn := fun _ => fun
  | [d, g1] => { results := [.lit (.bool false)], args := [d], vars := [g1] }
  | _ => none }
def FnAlarmTellWrongFalsely : Prop := fnAlarmTellRow.holds Tryd.pinned (OpenSpec.ofChange fnAlarmTellWrong)

/-- 'laws.FnAckOrder': WHATEVER THE INPUT: true; the input reads as it did. -/
def fnAckOrderSpec : ChangeSpec := { name := "fnAckOrder", vars := ["loop.example/powercontrol/impl.alarmStates"], fn := fun _ => fun
  | [d, g1] => { results := [.lit (.bool true)], args := [d], vars := [g1] }
  | _ => none }
def fnAckOrderRow : OpenClaim := { program := "ytijnahflfbjgiaadoor", sum := "78f207ede1d1a85056728a3b7d75a0c7f53dac7cbe5a5904ecd5633ea47f04e6", func := "loop.example/powercontrol/laws.FnAckOrder", spec := "fnAckOrder", inPlace := ["internal/abi.NoEscape"], unfollowed := true, recurses := true, named := ["internal/strconv.uint64pow10", "math/bits.deBruijn32tab", "math/bits.deBruijn64tab", "loop.example/powercontrol/impl.alarmStates"], apart := false, laid := [("math/bits.deBruijn32tab", laid_math_bits_deBruijn32tab), ("math/bits.deBruijn64tab", laid_math_bits_deBruijn64tab), ("internal/strconv.uint64pow10", laid_internal_strconv_uint64pow10), ("loop.example/powercontrol/impl.alarmStates", laid_loop_example_powercontrol_impl_alarmStates)] }
def FnAckOrderSaid : Prop := fnAckOrderRow.holds Tryd.pinned (OpenSpec.ofChange fnAckOrderSpec)

/-- ITS FALSE NEIGHBOUR: 'it returns false'. Refute it at one input. -/
def fnAckOrderWrong : ChangeSpec := { name := "fnAckOrder", vars := ["loop.example/powercontrol/impl.alarmStates"], fn := fun _ => fun
  | [d, g1] => { results := [.lit (.bool false)], args := [d], vars := [g1] }
  | _ => none }
def FnAckOrderWrongFalsely : Prop := fnAckOrderRow.holds Tryd.pinned (OpenSpec.ofChange fnAckOrderWrong)

/-- 'laws.FnRoomsValid': WHATEVER THE INPUT: true; the input reads as it did. -/
def fnRoomsValidSpec : ChangeSpec := { name := "fnRoomsValid", fn := fun _ => fun
  | [d] => { results := [.lit (.bool true)], args := [d] }
  | _ => none }
def fnRoomsValidRow : OpenClaim := { program := "ytijnahflfbjgiaadoor", sum := "78f207ede1d1a85056728a3b7d75a0c7f53dac7cbe5a5904ecd5633ea47f04e6", func := "loop.example/powercontrol/laws.FnRoomsValid", spec := "fnRoomsValid", inPlace := ["internal/abi.NoEscape"], named := ["internal/strconv.uint64pow10", "math/bits.deBruijn32tab", "math/bits.deBruijn64tab"], apart := false, laid := [("math/bits.deBruijn32tab", laid_math_bits_deBruijn32tab), ("math/bits.deBruijn64tab", laid_math_bits_deBruijn64tab), ("internal/strconv.uint64pow10", laid_internal_strconv_uint64pow10)] }
def FnRoomsValidSaid : Prop := fnRoomsValidRow.holds Tryd.pinned (OpenSpec.ofChange fnRoomsValidSpec)

/-- ITS FALSE NEIGHBOUR: 'it returns false'. Refute it at one input. -/
def fnRoomsValidWrong : ChangeSpec := { name := "fnRoomsValid", fn := fun _ => fun
  | [d] => { results := [.lit (.bool false)], args := [d] }
  | _ => none }
def FnRoomsValidWrongFalsely : Prop := fnRoomsValidRow.holds Tryd.pinned (OpenSpec.ofChange fnRoomsValidWrong)

/-- 'laws.FnRoomMay': WHATEVER THE INPUT: true; the input reads as it did. -/
def fnRoomMaySpec : ChangeSpec := { name := "fnRoomMay", fn := fun _ => fun
  | [d] => { results := [.lit (.bool true)], args := [d] }
  | _ => none }
def fnRoomMayRow : OpenClaim := { program := "ytijnahflfbjgiaadoor", sum := "78f207ede1d1a85056728a3b7d75a0c7f53dac7cbe5a5904ecd5633ea47f04e6", func := "loop.example/powercontrol/laws.FnRoomMay", spec := "fnRoomMay", inPlace := ["internal/abi.NoEscape"], named := ["internal/strconv.uint64pow10", "math/bits.deBruijn32tab", "math/bits.deBruijn64tab"], apart := false, laid := [("math/bits.deBruijn32tab", laid_math_bits_deBruijn32tab), ("math/bits.deBruijn64tab", laid_math_bits_deBruijn64tab), ("internal/strconv.uint64pow10", laid_internal_strconv_uint64pow10)] }
def FnRoomMaySaid : Prop := fnRoomMayRow.holds Tryd.pinned (OpenSpec.ofChange fnRoomMaySpec)

/-- ITS FALSE NEIGHBOUR: 'it returns false'. Refute it at one input. -/
def fnRoomMayWrong : ChangeSpec := { name := "fnRoomMay", fn := fun _ => fun
  | [d] => { results := [.lit (.bool false)], args := [d] }
  | _ => none }
def FnRoomMayWrongFalsely : Prop := fnRoomMayRow.holds Tryd.pinned (OpenSpec.ofChange fnRoomMayWrong)

/-- 'laws.FnCutCapacity': WHATEVER THE INPUT: true; the input reads as it did. -/
def fnCutCapacitySpec : ChangeSpec := { name := "fnCutCapacity", fn := fun _ => fun
  | [d] => { results := [.lit (.bool true)], args := [d] }
  | _ => none }
def fnCutCapacityRow : OpenClaim := { program := "ytijnahflfbjgiaadoor", sum := "78f207ede1d1a85056728a3b7d75a0c7f53dac7cbe5a5904ecd5633ea47f04e6", func := "loop.example/powercontrol/laws.FnCutCapacity", spec := "fnCutCapacity", inPlace := ["internal/abi.NoEscape"], named := ["internal/strconv.uint64pow10", "math/bits.deBruijn32tab", "math/bits.deBruijn64tab"], apart := false, laid := [("math/bits.deBruijn32tab", laid_math_bits_deBruijn32tab), ("math/bits.deBruijn64tab", laid_math_bits_deBruijn64tab), ("internal/strconv.uint64pow10", laid_internal_strconv_uint64pow10)] }
def FnCutCapacitySaid : Prop := fnCutCapacityRow.holds Tryd.pinned (OpenSpec.ofChange fnCutCapacitySpec)

/-- ITS FALSE NEIGHBOUR: 'it returns false'. Refute it at one input. -/
def fnCutCapacityWrong : ChangeSpec := { name := "fnCutCapacity", fn := fun _ => fun
  | [d] => { results := [.lit (.bool false)], args := [d] }
  | _ => none }
def FnCutCapacityWrongFalsely : Prop := fnCutCapacityRow.holds Tryd.pinned (OpenSpec.ofChange fnCutCapacityWrong)

/-- 'laws.FnFlowValue': WHATEVER THE INPUT: true; the input reads as it did. -/
def fnFlowValueSpec : ChangeSpec := { name := "fnFlowValue", fn := fun _ => fun
  | [d] => { results := [.lit (.bool true)], args := [d] }
  | _ => none }
def fnFlowValueRow : OpenClaim := { program := "ytijnahflfbjgiaadoor", sum := "78f207ede1d1a85056728a3b7d75a0c7f53dac7cbe5a5904ecd5633ea47f04e6", func := "loop.example/powercontrol/laws.FnFlowValue", spec := "fnFlowValue", inPlace := ["internal/abi.NoEscape"], named := ["internal/strconv.uint64pow10", "math/bits.deBruijn32tab", "math/bits.deBruijn64tab"], apart := false, laid := [("math/bits.deBruijn32tab", laid_math_bits_deBruijn32tab), ("math/bits.deBruijn64tab", laid_math_bits_deBruijn64tab), ("internal/strconv.uint64pow10", laid_internal_strconv_uint64pow10)] }
def FnFlowValueSaid : Prop := fnFlowValueRow.holds Tryd.pinned (OpenSpec.ofChange fnFlowValueSpec)

/-- ITS FALSE NEIGHBOUR: 'it returns false'. Refute it at one input. -/
def fnFlowValueWrong : ChangeSpec := { name := "fnFlowValue", fn := fun _ => fun
  | [d] => { results := [.lit (.bool false)], args := [d] }
  | _ => none }
def FnFlowValueWrongFalsely : Prop := fnFlowValueRow.holds Tryd.pinned (OpenSpec.ofChange fnFlowValueWrong)

/-- 'laws.FnMostFlows': WHATEVER THE INPUT: true; the input reads as it did. -/
def fnMostFlowsSpec : ChangeSpec := { name := "fnMostFlows", fn := fun _ => fun
  | [d] => { results := [.lit (.bool true)], args := [d] }
  | _ => none }
def fnMostFlowsRow : OpenClaim := { program := "ytijnahflfbjgiaadoor", sum := "78f207ede1d1a85056728a3b7d75a0c7f53dac7cbe5a5904ecd5633ea47f04e6", func := "loop.example/powercontrol/laws.FnMostFlows", spec := "fnMostFlows", inPlace := ["internal/abi.NoEscape"], unfollowed := true, recurses := true, named := ["internal/strconv.uint64pow10", "math/bits.deBruijn32tab", "math/bits.deBruijn64tab"], apart := false, laid := [("math/bits.deBruijn32tab", laid_math_bits_deBruijn32tab), ("math/bits.deBruijn64tab", laid_math_bits_deBruijn64tab), ("internal/strconv.uint64pow10", laid_internal_strconv_uint64pow10)] }
def FnMostFlowsSaid : Prop := fnMostFlowsRow.holds Tryd.pinned (OpenSpec.ofChange fnMostFlowsSpec)

/-- ITS FALSE NEIGHBOUR: 'it returns false'. Refute it at one input. -/
def fnMostFlowsWrong : ChangeSpec := { name := "fnMostFlows", fn := fun _ => fun
  | [d] => { results := [.lit (.bool false)], args := [d] }
  | _ => none }
def FnMostFlowsWrongFalsely : Prop := fnMostFlowsRow.holds Tryd.pinned (OpenSpec.ofChange fnMostFlowsWrong)

/-- 'laws.FnMostFlow': WHATEVER THE INPUT: true; the input reads as it did. -/
def fnMostFlowSpec : ChangeSpec := { name := "fnMostFlow", fn := fun _ => fun
  | [d] => { results := [.lit (.bool true)], args := [d] }
  | _ => none }
def fnMostFlowRow : OpenClaim := { program := "ytijnahflfbjgiaadoor", sum := "78f207ede1d1a85056728a3b7d75a0c7f53dac7cbe5a5904ecd5633ea47f04e6", func := "loop.example/powercontrol/laws.FnMostFlow", spec := "fnMostFlow", inPlace := ["internal/abi.NoEscape"], unfollowed := true, recurses := true, named := ["internal/strconv.uint64pow10", "math/bits.deBruijn32tab", "math/bits.deBruijn64tab"], apart := false, laid := [("math/bits.deBruijn32tab", laid_math_bits_deBruijn32tab), ("math/bits.deBruijn64tab", laid_math_bits_deBruijn64tab), ("internal/strconv.uint64pow10", laid_internal_strconv_uint64pow10)] }
def FnMostFlowSaid : Prop := fnMostFlowRow.holds Tryd.pinned (OpenSpec.ofChange fnMostFlowSpec)

/-- ITS FALSE NEIGHBOUR: 'it returns false'. Refute it at one input. -/
def fnMostFlowWrong : ChangeSpec := { name := "fnMostFlow", fn := fun _ => fun
  | [d] => { results := [.lit (.bool false)], args := [d] }
  | _ => none }
def FnMostFlowWrongFalsely : Prop := fnMostFlowRow.holds Tryd.pinned (OpenSpec.ofChange fnMostFlowWrong)

/-- 'laws.FnWeakCut': WHATEVER THE INPUT: true; the input reads as it did. -/
def fnWeakCutSpec : ChangeSpec := { name := "fnWeakCut", fn := fun _ => fun
  | [d] => { results := [.lit (.bool true)], args := [d] }
  | _ => none }
def fnWeakCutRow : OpenClaim := { program := "ytijnahflfbjgiaadoor", sum := "78f207ede1d1a85056728a3b7d75a0c7f53dac7cbe5a5904ecd5633ea47f04e6", func := "loop.example/powercontrol/laws.FnWeakCut", spec := "fnWeakCut", inPlace := ["internal/abi.NoEscape"], unfollowed := true, recurses := true, named := ["internal/strconv.uint64pow10", "math/bits.deBruijn32tab", "math/bits.deBruijn64tab"], apart := false, laid := [("math/bits.deBruijn32tab", laid_math_bits_deBruijn32tab), ("math/bits.deBruijn64tab", laid_math_bits_deBruijn64tab), ("internal/strconv.uint64pow10", laid_internal_strconv_uint64pow10)] }
def FnWeakCutSaid : Prop := fnWeakCutRow.holds Tryd.pinned (OpenSpec.ofChange fnWeakCutSpec)

/-- ITS FALSE NEIGHBOUR: 'it returns false'. Refute it at one input. -/
def fnWeakCutWrong : ChangeSpec := { name := "fnWeakCut", fn := fun _ => fun
  | [d] => { results := [.lit (.bool false)], args := [d] }
  | _ => none }
def FnWeakCutWrongFalsely : Prop := fnWeakCutRow.holds Tryd.pinned (OpenSpec.ofChange fnWeakCutWrong)

/- THE SECOND FORM. 'bulk': how many values and letters a reading holds, each counted each time it is reached (what is shared counts as often as it is met; a slice's spare places count too). A statement '..UptoSaid' is the law's where the arguments, and the package variables that the reading takes, are together of bulk at most 1048576: NARROWER than '..Said'. Prove '..Said' where nothing that the law and all that it calls make is longer than what came in: it says more and counts as full. Else prove '..UptoSaid'. A law counts once. -/
mutual
def uptoBulk {H : Type} : DataW H → Nat
  | .lit (.string bytes) => bytes.length + 1
  | .lit _ => 1
  | .nil => 1
  | .ptr d => uptoBulk d + 1
  | .slice elems spare => uptoBulkAll elems + uptoBulkAll spare + 1
  | .agg parts => uptoBulkAll parts + 1
  | .iface _ d => uptoBulk d + 1
  | .map entries => uptoBulkEntries entries + 1
  | .held _ => 1
def uptoBulkAll {H : Type} : List (DataW H) → Nat
  | [] => 0
  | d :: r => uptoBulk d + uptoBulkAll r
def uptoBulkEntries {H : Type} : List (Lit × DataW H) → Nat
  | [] => 0
  | x :: r => uptoBulkEntry x + uptoBulkEntries r
def uptoBulkEntry {H : Type} : Lit × DataW H → Nat
  | (.string bytes, d) => bytes.length + uptoBulk d + 1
  | (_, d) => uptoBulk d + 1
 end
def uptoSmall : (H : Type) → List (DataW H) → Bool := fun _ ds => decide (uptoBulkAll ds ≤ 1048576)
def OpenSpec.upto (s : _root_.Go.ChangeSpec) : _root_.Go.OpenSpec := { _root_.Go.OpenSpec.ofChange s with cond := some uptoSmall }

/-- 'laws.FnAlarmTell', WHERE WHAT IT READS IS OF BULK AT MOST 1048576: true; the input reads as it did. -/
def fnAlarmTellUptoRow : OpenClaim := { program := "ytijnahflfbjgiaadoor", sum := "78f207ede1d1a85056728a3b7d75a0c7f53dac7cbe5a5904ecd5633ea47f04e6", func := "loop.example/powercontrol/laws.FnAlarmTell", spec := "fnAlarmTell", inPlace := ["internal/abi.NoEscape"], named := ["loop.example/powercontrol/impl.alarmStates", "internal/strconv.uint64pow10", "math/bits.deBruijn32tab", "math/bits.deBruijn64tab"], apart := false, laid := [("math/bits.deBruijn32tab", laid_math_bits_deBruijn32tab), ("math/bits.deBruijn64tab", laid_math_bits_deBruijn64tab), ("internal/strconv.uint64pow10", laid_internal_strconv_uint64pow10), ("loop.example/powercontrol/impl.alarmStates", laid_loop_example_powercontrol_impl_alarmStates)], narrowed := true }
def FnAlarmTellUptoSaid : Prop := fnAlarmTellUptoRow.holds Tryd.pinned (OpenSpec.upto fnAlarmTellSpec)

/-- 'laws.FnAckOrder', WHERE WHAT IT READS IS OF BULK AT MOST 1048576: true; the input reads as it did. -/
def fnAckOrderUptoRow : OpenClaim := { program := "ytijnahflfbjgiaadoor", sum := "78f207ede1d1a85056728a3b7d75a0c7f53dac7cbe5a5904ecd5633ea47f04e6", func := "loop.example/powercontrol/laws.FnAckOrder", spec := "fnAckOrder", inPlace := ["internal/abi.NoEscape"], unfollowed := true, recurses := true, named := ["internal/strconv.uint64pow10", "math/bits.deBruijn32tab", "math/bits.deBruijn64tab", "loop.example/powercontrol/impl.alarmStates"], apart := false, laid := [("math/bits.deBruijn32tab", laid_math_bits_deBruijn32tab), ("math/bits.deBruijn64tab", laid_math_bits_deBruijn64tab), ("internal/strconv.uint64pow10", laid_internal_strconv_uint64pow10), ("loop.example/powercontrol/impl.alarmStates", laid_loop_example_powercontrol_impl_alarmStates)], narrowed := true }
def FnAckOrderUptoSaid : Prop := fnAckOrderUptoRow.holds Tryd.pinned (OpenSpec.upto fnAckOrderSpec)

/-- 'laws.FnRoomsValid', WHERE WHAT IT READS IS OF BULK AT MOST 1048576: true; the input reads as it did. -/
def fnRoomsValidUptoRow : OpenClaim := { program := "ytijnahflfbjgiaadoor", sum := "78f207ede1d1a85056728a3b7d75a0c7f53dac7cbe5a5904ecd5633ea47f04e6", func := "loop.example/powercontrol/laws.FnRoomsValid", spec := "fnRoomsValid", inPlace := ["internal/abi.NoEscape"], named := ["internal/strconv.uint64pow10", "math/bits.deBruijn32tab", "math/bits.deBruijn64tab"], apart := false, laid := [("math/bits.deBruijn32tab", laid_math_bits_deBruijn32tab), ("math/bits.deBruijn64tab", laid_math_bits_deBruijn64tab), ("internal/strconv.uint64pow10", laid_internal_strconv_uint64pow10)], narrowed := true }
def FnRoomsValidUptoSaid : Prop := fnRoomsValidUptoRow.holds Tryd.pinned (OpenSpec.upto fnRoomsValidSpec)

/-- 'laws.FnRoomMay', WHERE WHAT IT READS IS OF BULK AT MOST 1048576: true; the input reads as it did. -/
def fnRoomMayUptoRow : OpenClaim := { program := "ytijnahflfbjgiaadoor", sum := "78f207ede1d1a85056728a3b7d75a0c7f53dac7cbe5a5904ecd5633ea47f04e6", func := "loop.example/powercontrol/laws.FnRoomMay", spec := "fnRoomMay", inPlace := ["internal/abi.NoEscape"], named := ["internal/strconv.uint64pow10", "math/bits.deBruijn32tab", "math/bits.deBruijn64tab"], apart := false, laid := [("math/bits.deBruijn32tab", laid_math_bits_deBruijn32tab), ("math/bits.deBruijn64tab", laid_math_bits_deBruijn64tab), ("internal/strconv.uint64pow10", laid_internal_strconv_uint64pow10)], narrowed := true }
def FnRoomMayUptoSaid : Prop := fnRoomMayUptoRow.holds Tryd.pinned (OpenSpec.upto fnRoomMaySpec)

/-- 'laws.FnCutCapacity', WHERE WHAT IT READS IS OF BULK AT MOST 1048576: true; the input reads as it did. -/
def fnCutCapacityUptoRow : OpenClaim := { program := "ytijnahflfbjgiaadoor", sum := "78f207ede1d1a85056728a3b7d75a0c7f53dac7cbe5a5904ecd5633ea47f04e6", func := "loop.example/powercontrol/laws.FnCutCapacity", spec := "fnCutCapacity", inPlace := ["internal/abi.NoEscape"], named := ["internal/strconv.uint64pow10", "math/bits.deBruijn32tab", "math/bits.deBruijn64tab"], apart := false, laid := [("math/bits.deBruijn32tab", laid_math_bits_deBruijn32tab), ("math/bits.deBruijn64tab", laid_math_bits_deBruijn64tab), ("internal/strconv.uint64pow10", laid_internal_strconv_uint64pow10)], narrowed := true }
def FnCutCapacityUptoSaid : Prop := fnCutCapacityUptoRow.holds Tryd.pinned (OpenSpec.upto fnCutCapacitySpec)

/-- 'laws.FnFlowValue', WHERE WHAT IT READS IS OF BULK AT MOST 1048576: true; the input reads as it did. -/
def fnFlowValueUptoRow : OpenClaim := { program := "ytijnahflfbjgiaadoor", sum := "78f207ede1d1a85056728a3b7d75a0c7f53dac7cbe5a5904ecd5633ea47f04e6", func := "loop.example/powercontrol/laws.FnFlowValue", spec := "fnFlowValue", inPlace := ["internal/abi.NoEscape"], named := ["internal/strconv.uint64pow10", "math/bits.deBruijn32tab", "math/bits.deBruijn64tab"], apart := false, laid := [("math/bits.deBruijn32tab", laid_math_bits_deBruijn32tab), ("math/bits.deBruijn64tab", laid_math_bits_deBruijn64tab), ("internal/strconv.uint64pow10", laid_internal_strconv_uint64pow10)], narrowed := true }
def FnFlowValueUptoSaid : Prop := fnFlowValueUptoRow.holds Tryd.pinned (OpenSpec.upto fnFlowValueSpec)

/-- 'laws.FnMostFlows', WHERE WHAT IT READS IS OF BULK AT MOST 1048576: true; the input reads as it did. -/
def fnMostFlowsUptoRow : OpenClaim := { program := "ytijnahflfbjgiaadoor", sum := "78f207ede1d1a85056728a3b7d75a0c7f53dac7cbe5a5904ecd5633ea47f04e6", func := "loop.example/powercontrol/laws.FnMostFlows", spec := "fnMostFlows", inPlace := ["internal/abi.NoEscape"], unfollowed := true, recurses := true, named := ["internal/strconv.uint64pow10", "math/bits.deBruijn32tab", "math/bits.deBruijn64tab"], apart := false, laid := [("math/bits.deBruijn32tab", laid_math_bits_deBruijn32tab), ("math/bits.deBruijn64tab", laid_math_bits_deBruijn64tab), ("internal/strconv.uint64pow10", laid_internal_strconv_uint64pow10)], narrowed := true }
def FnMostFlowsUptoSaid : Prop := fnMostFlowsUptoRow.holds Tryd.pinned (OpenSpec.upto fnMostFlowsSpec)

/-- 'laws.FnMostFlow', WHERE WHAT IT READS IS OF BULK AT MOST 1048576: true; the input reads as it did. -/
def fnMostFlowUptoRow : OpenClaim := { program := "ytijnahflfbjgiaadoor", sum := "78f207ede1d1a85056728a3b7d75a0c7f53dac7cbe5a5904ecd5633ea47f04e6", func := "loop.example/powercontrol/laws.FnMostFlow", spec := "fnMostFlow", inPlace := ["internal/abi.NoEscape"], unfollowed := true, recurses := true, named := ["internal/strconv.uint64pow10", "math/bits.deBruijn32tab", "math/bits.deBruijn64tab"], apart := false, laid := [("math/bits.deBruijn32tab", laid_math_bits_deBruijn32tab), ("math/bits.deBruijn64tab", laid_math_bits_deBruijn64tab), ("internal/strconv.uint64pow10", laid_internal_strconv_uint64pow10)], narrowed := true }
def FnMostFlowUptoSaid : Prop := fnMostFlowUptoRow.holds Tryd.pinned (OpenSpec.upto fnMostFlowSpec)

/-- 'laws.FnWeakCut', WHERE WHAT IT READS IS OF BULK AT MOST 1048576: true; the input reads as it did. -/
def fnWeakCutUptoRow : OpenClaim := { program := "ytijnahflfbjgiaadoor", sum := "78f207ede1d1a85056728a3b7d75a0c7f53dac7cbe5a5904ecd5633ea47f04e6", func := "loop.example/powercontrol/laws.FnWeakCut", spec := "fnWeakCut", inPlace := ["internal/abi.NoEscape"], unfollowed := true, recurses := true, named := ["internal/strconv.uint64pow10", "math/bits.deBruijn32tab", "math/bits.deBruijn64tab"], apart := false, laid := [("math/bits.deBruijn32tab", laid_math_bits_deBruijn32tab), ("math/bits.deBruijn64tab", laid_math_bits_deBruijn64tab), ("internal/strconv.uint64pow10", laid_internal_strconv_uint64pow10)], narrowed := true }
def FnWeakCutUptoSaid : Prop := fnWeakCutUptoRow.holds Tryd.pinned (OpenSpec.upto fnWeakCutSpec)

end Rows
end Go.Proofs.YtijnahflfbjgiaaDoor
