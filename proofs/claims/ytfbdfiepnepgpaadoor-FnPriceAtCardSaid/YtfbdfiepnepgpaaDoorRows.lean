/-
  NARROWER THAN 'FOR EVERY INPUT', by the rows' own cells (each row's printed sentence says how): FnMeterAdd: laid · FnMeterUse: laid · FnTapsValid: laid · FnJobsValid: laid · FnPlantsValid: laid · FnBandsValid: laid · FnPriceAt: laid · FnPhaseSum: laid · FnBill: laid · FnPhaseNext: laid · FnImbalance: laid · FnBestPhases: laid.
  DERIVED. THE GIVEN ROWS OF THIS SEAT. 12 by the template 'for every input the law returns true; each argument reads behind the call as it read before'; 0 by the template 'total and deterministic' (their statements: YtfbdfiepnepgpaaDoorTotals.lean).
  GIVEN WITH THE SEED: the statements are not yours to turn. If you find one false, say at which input.
  Laid BY PROGRAM, IN A SANDBOX (cutbox-rows.mjs): the forced cells as the released guide's own fill.sh prints them over the translation d730f06ff10e9637… (all of the seat's roots in one cut). By AI agents, Wed Nov 11 2026. No macro, syntax, notation, axiom, sorry.
-/
import Derived.Test.YtfbdfiepnepgpaaDoorChecked
import GoSem.Claim
import GoSem.ClaimJoined
import GoSem.ClaimMapViews
import Derived.JoinedTies
import Derived.KernelRfl
namespace Go.Proofs.YtfbdfiepnepgpaaDoor
/- THE CELL 'sum', in the pinned program and in every row, IS THE sha256 OF THE DUMP (.gsa) THAT YtfbdfiepnepgpaaDoorProg.lean LOADS. Nothing in Lean hashes anything: it is a label: what it is worth is what the hold of that sum in a sandbox is worth. -/
noncomputable def Tryd.pinned : Pinned := { name := "ytfbdfiepnepgpaadoor", sum := "d730f06ff10e963716d300d65b0b7a6cd2076b6cb8e56c9dac4bf32d8732dfe7", checked := Tryd.checked }
namespace Rows
def none {H : Type} : Left H := { results := [], args := [] }

/- WHAT THE LISTED PACKAGE-LEVEL VARIABLES READ AS WHEN THE CALL BEGINS. Each datum BY PROGRAM (the guide's laid-datum.mjs) off the statement by which the dump's own 'gosem.cut.vars' lays the variable. In a bare row this is a premise. The card (YtfbdfiepnepgpaaDoorCards.lean) ties it to the program's text. -/
def laid_math_bits_deBruijn32tab {H : Type} : DataW H := .agg [.lit (.int .u8 0), .lit (.int .u8 1), .lit (.int .u8 28), .lit (.int .u8 2), .lit (.int .u8 29), .lit (.int .u8 14), .lit (.int .u8 24), .lit (.int .u8 3), .lit (.int .u8 30), .lit (.int .u8 22), .lit (.int .u8 20), .lit (.int .u8 15), .lit (.int .u8 25), .lit (.int .u8 17), .lit (.int .u8 4), .lit (.int .u8 8), .lit (.int .u8 31), .lit (.int .u8 27), .lit (.int .u8 13), .lit (.int .u8 23), .lit (.int .u8 21), .lit (.int .u8 19), .lit (.int .u8 16), .lit (.int .u8 7), .lit (.int .u8 26), .lit (.int .u8 12), .lit (.int .u8 18), .lit (.int .u8 6), .lit (.int .u8 11), .lit (.int .u8 5), .lit (.int .u8 10), .lit (.int .u8 9)]
def laid_math_bits_deBruijn64tab {H : Type} : DataW H := .agg [.lit (.int .u8 0), .lit (.int .u8 1), .lit (.int .u8 56), .lit (.int .u8 2), .lit (.int .u8 57), .lit (.int .u8 49), .lit (.int .u8 28), .lit (.int .u8 3), .lit (.int .u8 61), .lit (.int .u8 58), .lit (.int .u8 42), .lit (.int .u8 50), .lit (.int .u8 38), .lit (.int .u8 29), .lit (.int .u8 17), .lit (.int .u8 4), .lit (.int .u8 62), .lit (.int .u8 47), .lit (.int .u8 59), .lit (.int .u8 36), .lit (.int .u8 45), .lit (.int .u8 43), .lit (.int .u8 51), .lit (.int .u8 22), .lit (.int .u8 53), .lit (.int .u8 39), .lit (.int .u8 33), .lit (.int .u8 30), .lit (.int .u8 24), .lit (.int .u8 18), .lit (.int .u8 12), .lit (.int .u8 5), .lit (.int .u8 63), .lit (.int .u8 55), .lit (.int .u8 48), .lit (.int .u8 27), .lit (.int .u8 60), .lit (.int .u8 41), .lit (.int .u8 37), .lit (.int .u8 16), .lit (.int .u8 46), .lit (.int .u8 35), .lit (.int .u8 44), .lit (.int .u8 21), .lit (.int .u8 52), .lit (.int .u8 32), .lit (.int .u8 23), .lit (.int .u8 11), .lit (.int .u8 54), .lit (.int .u8 26), .lit (.int .u8 40), .lit (.int .u8 15), .lit (.int .u8 34), .lit (.int .u8 20), .lit (.int .u8 31), .lit (.int .u8 10), .lit (.int .u8 25), .lit (.int .u8 14), .lit (.int .u8 19), .lit (.int .u8 9), .lit (.int .u8 13), .lit (.int .u8 8), .lit (.int .u8 7), .lit (.int .u8 6)]
def laid_internal_strconv_uint64pow10 {H : Type} : DataW H := .agg [.lit (.int .u64 1), .lit (.int .u64 10), .lit (.int .u64 100), .lit (.int .u64 1000), .lit (.int .u64 10000), .lit (.int .u64 100000), .lit (.int .u64 1000000), .lit (.int .u64 10000000), .lit (.int .u64 100000000), .lit (.int .u64 1000000000), .lit (.int .u64 10000000000), .lit (.int .u64 100000000000), .lit (.int .u64 1000000000000), .lit (.int .u64 10000000000000), .lit (.int .u64 100000000000000), .lit (.int .u64 1000000000000000), .lit (.int .u64 10000000000000000), .lit (.int .u64 100000000000000000), .lit (.int .u64 1000000000000000000), .lit (.int .u64 10000000000000000000)]

/-- 'laws.FnMeterAdd': WHATEVER THE INPUT: true; the input reads as it did. -/
def fnMeterAddSpec : ChangeSpec := { name := "fnMeterAdd", fn := fun _ => fun
  | [d] => { results := [.lit (.bool true)], args := [d] }
  | _ => none }
def fnMeterAddRow : OpenClaim := { program := "ytfbdfiepnepgpaadoor", sum := "d730f06ff10e963716d300d65b0b7a6cd2076b6cb8e56c9dac4bf32d8732dfe7", func := "loop.example/powercontrol/laws.FnMeterAdd", spec := "fnMeterAdd", inPlace := ["internal/abi.NoEscape"], named := ["internal/strconv.uint64pow10", "math/bits.deBruijn32tab", "math/bits.deBruijn64tab"], apart := false, laid := [("math/bits.deBruijn32tab", laid_math_bits_deBruijn32tab), ("math/bits.deBruijn64tab", laid_math_bits_deBruijn64tab), ("internal/strconv.uint64pow10", laid_internal_strconv_uint64pow10)] }
def FnMeterAddSaid : Prop := fnMeterAddRow.holds Tryd.pinned (OpenSpec.ofChange fnMeterAddSpec)

/-- ITS FALSE NEIGHBOUR: 'it returns false'. Refute it at one input. -/
def fnMeterAddWrong : ChangeSpec := { name := "fnMeterAdd", fn := fun _ => fun
  | [d] => { results := [.lit (.bool false)], args := [d] }
  | _ => none }
def FnMeterAddWrongFalsely : Prop := fnMeterAddRow.holds Tryd.pinned (OpenSpec.ofChange fnMeterAddWrong)

/-- 'laws.FnMeterUse': WHATEVER THE INPUT: true; the input reads as it did. -/
def fnMeterUseSpec : ChangeSpec := { name := "fnMeterUse", fn := fun _ => fun
  | [d] => { results := [.lit (.bool true)], args := [d] }
  | _ => none }
def fnMeterUseRow : OpenClaim := { program := "ytfbdfiepnepgpaadoor", sum := "d730f06ff10e963716d300d65b0b7a6cd2076b6cb8e56c9dac4bf32d8732dfe7", func := "loop.example/powercontrol/laws.FnMeterUse", spec := "fnMeterUse", inPlace := ["internal/abi.NoEscape"], named := ["internal/strconv.uint64pow10", "math/bits.deBruijn32tab", "math/bits.deBruijn64tab"], apart := false, laid := [("math/bits.deBruijn32tab", laid_math_bits_deBruijn32tab), ("math/bits.deBruijn64tab", laid_math_bits_deBruijn64tab), ("internal/strconv.uint64pow10", laid_internal_strconv_uint64pow10)] }
def FnMeterUseSaid : Prop := fnMeterUseRow.holds Tryd.pinned (OpenSpec.ofChange fnMeterUseSpec)

/-- ITS FALSE NEIGHBOUR: 'it returns false'. Refute it at one input. -/
def fnMeterUseWrong : ChangeSpec := { name := "fnMeterUse", fn := fun _ => fun
  | [d] => { results := [.lit (.bool false)], args := [d] }
  | _ => none }
def FnMeterUseWrongFalsely : Prop := fnMeterUseRow.holds Tryd.pinned (OpenSpec.ofChange fnMeterUseWrong)

/-- 'laws.FnTapsValid': WHATEVER THE INPUT: true; the input reads as it did. -/
def fnTapsValidSpec : ChangeSpec := { name := "fnTapsValid", fn := fun _ => fun
  | [d] => { results := [.lit (.bool true)], args := [d] }
  | _ => none }
def fnTapsValidRow : OpenClaim := { program := "ytfbdfiepnepgpaadoor", sum := "d730f06ff10e963716d300d65b0b7a6cd2076b6cb8e56c9dac4bf32d8732dfe7", func := "loop.example/powercontrol/laws.FnTapsValid", spec := "fnTapsValid", inPlace := ["internal/abi.NoEscape"], named := ["internal/strconv.uint64pow10", "math/bits.deBruijn32tab", "math/bits.deBruijn64tab"], apart := false, laid := [("math/bits.deBruijn32tab", laid_math_bits_deBruijn32tab), ("math/bits.deBruijn64tab", laid_math_bits_deBruijn64tab), ("internal/strconv.uint64pow10", laid_internal_strconv_uint64pow10)] }
def FnTapsValidSaid : Prop := fnTapsValidRow.holds Tryd.pinned (OpenSpec.ofChange fnTapsValidSpec)

/-- ITS FALSE NEIGHBOUR: 'it returns false'. Refute it at one input. -/
def fnTapsValidWrong : ChangeSpec := { name := "fnTapsValid", fn := fun _ => fun
  | [d] => { results := [.lit (.bool false)], args := [d] }
  | _ => none }
def FnTapsValidWrongFalsely : Prop := fnTapsValidRow.holds Tryd.pinned (OpenSpec.ofChange fnTapsValidWrong)

/-- 'laws.FnJobsValid': WHATEVER THE INPUT: true; the input reads as it did. -/
def fnJobsValidSpec : ChangeSpec := { name := "fnJobsValid", fn := fun _ => fun
  | [d] => { results := [.lit (.bool true)], args := [d] }
  | _ => none }
def fnJobsValidRow : OpenClaim := { program := "ytfbdfiepnepgpaadoor", sum := "d730f06ff10e963716d300d65b0b7a6cd2076b6cb8e56c9dac4bf32d8732dfe7", func := "loop.example/powercontrol/laws.FnJobsValid", spec := "fnJobsValid", inPlace := ["internal/abi.NoEscape"], named := ["internal/strconv.uint64pow10", "math/bits.deBruijn32tab", "math/bits.deBruijn64tab"], apart := false, laid := [("math/bits.deBruijn32tab", laid_math_bits_deBruijn32tab), ("math/bits.deBruijn64tab", laid_math_bits_deBruijn64tab), ("internal/strconv.uint64pow10", laid_internal_strconv_uint64pow10)] }
def FnJobsValidSaid : Prop := fnJobsValidRow.holds Tryd.pinned (OpenSpec.ofChange fnJobsValidSpec)

/-- ITS FALSE NEIGHBOUR: 'it returns false'. Refute it at one input. -/
def fnJobsValidWrong : ChangeSpec := { name := "fnJobsValid", fn := fun _ => fun
  | [d] => { results := [.lit (.bool false)], args := [d] }
  | _ => none }
def FnJobsValidWrongFalsely : Prop := fnJobsValidRow.holds Tryd.pinned (OpenSpec.ofChange fnJobsValidWrong)

/-- 'laws.FnPlantsValid': WHATEVER THE INPUT: true; the input reads as it did. -/
def fnPlantsValidSpec : ChangeSpec := { name := "fnPlantsValid", fn := fun _ => fun
  | [d] => { results := [.lit (.bool true)], args := [d] }
  | _ => none }
def fnPlantsValidRow : OpenClaim := { program := "ytfbdfiepnepgpaadoor", sum := "d730f06ff10e963716d300d65b0b7a6cd2076b6cb8e56c9dac4bf32d8732dfe7", func := "loop.example/powercontrol/laws.FnPlantsValid", spec := "fnPlantsValid", inPlace := ["internal/abi.NoEscape"], named := ["internal/strconv.uint64pow10", "math/bits.deBruijn32tab", "math/bits.deBruijn64tab"], apart := false, laid := [("math/bits.deBruijn32tab", laid_math_bits_deBruijn32tab), ("math/bits.deBruijn64tab", laid_math_bits_deBruijn64tab), ("internal/strconv.uint64pow10", laid_internal_strconv_uint64pow10)] }
def FnPlantsValidSaid : Prop := fnPlantsValidRow.holds Tryd.pinned (OpenSpec.ofChange fnPlantsValidSpec)

/-- ITS FALSE NEIGHBOUR: 'it returns false'. Refute it at one input. -/
def fnPlantsValidWrong : ChangeSpec := { name := "fnPlantsValid", fn := fun _ => fun
  | [d] => { results := [.lit (.bool false)], args := [d] }
  | _ => none }
def FnPlantsValidWrongFalsely : Prop := fnPlantsValidRow.holds Tryd.pinned (OpenSpec.ofChange fnPlantsValidWrong)

/-- 'laws.FnBandsValid': WHATEVER THE INPUT: true; the input reads as it did. -/
def fnBandsValidSpec : ChangeSpec := { name := "fnBandsValid", fn := fun _ => fun
  | [d] => { results := [.lit (.bool true)], args := [d] }
  | _ => none }
def fnBandsValidRow : OpenClaim := { program := "ytfbdfiepnepgpaadoor", sum := "d730f06ff10e963716d300d65b0b7a6cd2076b6cb8e56c9dac4bf32d8732dfe7", func := "loop.example/powercontrol/laws.FnBandsValid", spec := "fnBandsValid", inPlace := ["internal/abi.NoEscape"], named := ["internal/strconv.uint64pow10", "math/bits.deBruijn32tab", "math/bits.deBruijn64tab"], apart := false, laid := [("math/bits.deBruijn32tab", laid_math_bits_deBruijn32tab), ("math/bits.deBruijn64tab", laid_math_bits_deBruijn64tab), ("internal/strconv.uint64pow10", laid_internal_strconv_uint64pow10)] }
def FnBandsValidSaid : Prop := fnBandsValidRow.holds Tryd.pinned (OpenSpec.ofChange fnBandsValidSpec)

/-- ITS FALSE NEIGHBOUR: 'it returns false'. Refute it at one input. -/
def fnBandsValidWrong : ChangeSpec := { name := "fnBandsValid", fn := fun _ => fun
  | [d] => { results := [.lit (.bool false)], args := [d] }
  | _ => none }
def FnBandsValidWrongFalsely : Prop := fnBandsValidRow.holds Tryd.pinned (OpenSpec.ofChange fnBandsValidWrong)

/-- 'laws.FnPriceAt': WHATEVER THE INPUT: true; the input reads as it did. -/
def fnPriceAtSpec : ChangeSpec := { name := "fnPriceAt", fn := fun _ => fun
  | [d] => { results := [.lit (.bool true)], args := [d] }
  | _ => none }
def fnPriceAtRow : OpenClaim := { program := "ytfbdfiepnepgpaadoor", sum := "d730f06ff10e963716d300d65b0b7a6cd2076b6cb8e56c9dac4bf32d8732dfe7", func := "loop.example/powercontrol/laws.FnPriceAt", spec := "fnPriceAt", inPlace := ["internal/abi.NoEscape"], named := ["internal/strconv.uint64pow10", "math/bits.deBruijn32tab", "math/bits.deBruijn64tab"], apart := false, laid := [("math/bits.deBruijn32tab", laid_math_bits_deBruijn32tab), ("math/bits.deBruijn64tab", laid_math_bits_deBruijn64tab), ("internal/strconv.uint64pow10", laid_internal_strconv_uint64pow10)] }
def FnPriceAtSaid : Prop := fnPriceAtRow.holds Tryd.pinned (OpenSpec.ofChange fnPriceAtSpec)

/-- ITS FALSE NEIGHBOUR: 'it returns false'. Refute it at one input. -/
def fnPriceAtWrong : ChangeSpec := { name := "fnPriceAt", fn := fun _ => fun
  | [d] => { results := [.lit (.bool false)], args := [d] }
  | _ => none }
def FnPriceAtWrongFalsely : Prop := fnPriceAtRow.holds Tryd.pinned (OpenSpec.ofChange fnPriceAtWrong)

/-- 'laws.FnPhaseSum': WHATEVER THE INPUT: true; the input reads as it did. -/
def fnPhaseSumSpec : ChangeSpec := { name := "fnPhaseSum", fn := fun _ => fun
  | [d] => { results := [.lit (.bool true)], args := [d] }
  | _ => none }
def fnPhaseSumRow : OpenClaim := { program := "ytfbdfiepnepgpaadoor", sum := "d730f06ff10e963716d300d65b0b7a6cd2076b6cb8e56c9dac4bf32d8732dfe7", func := "loop.example/powercontrol/laws.FnPhaseSum", spec := "fnPhaseSum", inPlace := ["internal/abi.NoEscape"], named := ["internal/strconv.uint64pow10", "math/bits.deBruijn32tab", "math/bits.deBruijn64tab"], apart := false, laid := [("math/bits.deBruijn32tab", laid_math_bits_deBruijn32tab), ("math/bits.deBruijn64tab", laid_math_bits_deBruijn64tab), ("internal/strconv.uint64pow10", laid_internal_strconv_uint64pow10)] }
def FnPhaseSumSaid : Prop := fnPhaseSumRow.holds Tryd.pinned (OpenSpec.ofChange fnPhaseSumSpec)

/-- ITS FALSE NEIGHBOUR: 'it returns false'. Refute it at one input. -/
def fnPhaseSumWrong : ChangeSpec := { name := "fnPhaseSum", fn := fun _ => fun
  | [d] => { results := [.lit (.bool false)], args := [d] }
  | _ => none }
def FnPhaseSumWrongFalsely : Prop := fnPhaseSumRow.holds Tryd.pinned (OpenSpec.ofChange fnPhaseSumWrong)

/-- 'laws.FnBill': WHATEVER THE INPUT: true; the input reads as it did. -/
def fnBillSpec : ChangeSpec := { name := "fnBill", fn := fun _ => fun
  | [d] => { results := [.lit (.bool true)], args := [d] }
  | _ => none }
def fnBillRow : OpenClaim := { program := "ytfbdfiepnepgpaadoor", sum := "d730f06ff10e963716d300d65b0b7a6cd2076b6cb8e56c9dac4bf32d8732dfe7", func := "loop.example/powercontrol/laws.FnBill", spec := "fnBill", inPlace := ["internal/abi.NoEscape"], named := ["internal/strconv.uint64pow10", "math/bits.deBruijn32tab", "math/bits.deBruijn64tab"], apart := false, laid := [("math/bits.deBruijn32tab", laid_math_bits_deBruijn32tab), ("math/bits.deBruijn64tab", laid_math_bits_deBruijn64tab), ("internal/strconv.uint64pow10", laid_internal_strconv_uint64pow10)] }
def FnBillSaid : Prop := fnBillRow.holds Tryd.pinned (OpenSpec.ofChange fnBillSpec)

/-- ITS FALSE NEIGHBOUR: 'it returns false'. Refute it at one input. -/
def fnBillWrong : ChangeSpec := { name := "fnBill", fn := fun _ => fun
  | [d] => { results := [.lit (.bool false)], args := [d] }
  | _ => none }
def FnBillWrongFalsely : Prop := fnBillRow.holds Tryd.pinned (OpenSpec.ofChange fnBillWrong)

/-- 'laws.FnPhaseNext': WHATEVER THE INPUT: true; the input reads as it did. -/
def fnPhaseNextSpec : ChangeSpec := { name := "fnPhaseNext", fn := fun _ => fun
  | [d] => { results := [.lit (.bool true)], args := [d] }
  | _ => none }
def fnPhaseNextRow : OpenClaim := { program := "ytfbdfiepnepgpaadoor", sum := "d730f06ff10e963716d300d65b0b7a6cd2076b6cb8e56c9dac4bf32d8732dfe7", func := "loop.example/powercontrol/laws.FnPhaseNext", spec := "fnPhaseNext", inPlace := ["internal/abi.NoEscape"], named := ["internal/strconv.uint64pow10", "math/bits.deBruijn32tab", "math/bits.deBruijn64tab"], apart := false, laid := [("math/bits.deBruijn32tab", laid_math_bits_deBruijn32tab), ("math/bits.deBruijn64tab", laid_math_bits_deBruijn64tab), ("internal/strconv.uint64pow10", laid_internal_strconv_uint64pow10)] }
def FnPhaseNextSaid : Prop := fnPhaseNextRow.holds Tryd.pinned (OpenSpec.ofChange fnPhaseNextSpec)

/-- ITS FALSE NEIGHBOUR: 'it returns false'. Refute it at one input. -/
def fnPhaseNextWrong : ChangeSpec := { name := "fnPhaseNext", fn := fun _ => fun
  | [d] => { results := [.lit (.bool false)], args := [d] }
  | _ => none }
def FnPhaseNextWrongFalsely : Prop := fnPhaseNextRow.holds Tryd.pinned (OpenSpec.ofChange fnPhaseNextWrong)

/-- 'laws.FnImbalance': WHATEVER THE INPUT: true; the input reads as it did. -/
def fnImbalanceSpec : ChangeSpec := { name := "fnImbalance", fn := fun _ => fun
  | [d] => { results := [.lit (.bool true)], args := [d] }
  | _ => none }
def fnImbalanceRow : OpenClaim := { program := "ytfbdfiepnepgpaadoor", sum := "d730f06ff10e963716d300d65b0b7a6cd2076b6cb8e56c9dac4bf32d8732dfe7", func := "loop.example/powercontrol/laws.FnImbalance", spec := "fnImbalance", inPlace := ["internal/abi.NoEscape"], recurses := true, named := ["internal/strconv.uint64pow10", "math/bits.deBruijn32tab", "math/bits.deBruijn64tab"], apart := false, laid := [("math/bits.deBruijn32tab", laid_math_bits_deBruijn32tab), ("math/bits.deBruijn64tab", laid_math_bits_deBruijn64tab), ("internal/strconv.uint64pow10", laid_internal_strconv_uint64pow10)] }
def FnImbalanceSaid : Prop := fnImbalanceRow.holds Tryd.pinned (OpenSpec.ofChange fnImbalanceSpec)

/-- ITS FALSE NEIGHBOUR: 'it returns false'. Refute it at one input. -/
def fnImbalanceWrong : ChangeSpec := { name := "fnImbalance", fn := fun _ => fun
  | [d] => { results := [.lit (.bool false)], args := [d] }
  | _ => none }
def FnImbalanceWrongFalsely : Prop := fnImbalanceRow.holds Tryd.pinned (OpenSpec.ofChange fnImbalanceWrong)

/-- 'laws.FnBestPhases': WHATEVER THE INPUT: true; the input reads as it did. -/
def fnBestPhasesSpec : ChangeSpec := { name := "fnBestPhases", fn := fun _ => fun
  | [d] => { results := [.lit (.bool true)], args := [d] }
  | _ => none }
def fnBestPhasesRow : OpenClaim := { program := "ytfbdfiepnepgpaadoor", sum := "d730f06ff10e963716d300d65b0b7a6cd2076b6cb8e56c9dac4bf32d8732dfe7", func := "loop.example/powercontrol/laws.FnBestPhases", spec := "fnBestPhases", inPlace := ["internal/abi.NoEscape"], recurses := true, named := ["internal/strconv.uint64pow10", "math/bits.deBruijn32tab", "math/bits.deBruijn64tab"], apart := false, laid := [("math/bits.deBruijn32tab", laid_math_bits_deBruijn32tab), ("math/bits.deBruijn64tab", laid_math_bits_deBruijn64tab), ("internal/strconv.uint64pow10", laid_internal_strconv_uint64pow10)] }
def FnBestPhasesSaid : Prop := fnBestPhasesRow.holds Tryd.pinned (OpenSpec.ofChange fnBestPhasesSpec)

/-- ITS FALSE NEIGHBOUR: 'it returns false'. Refute it at one input. -/
def fnBestPhasesWrong : ChangeSpec := { name := "fnBestPhases", fn := fun _ => fun
  | [d] => { results := [.lit (.bool false)], args := [d] }
  | _ => none }
def FnBestPhasesWrongFalsely : Prop := fnBestPhasesRow.holds Tryd.pinned (OpenSpec.ofChange fnBestPhasesWrong)

/- THE SECOND FORM. 'bulk': how many values and letters a reading holds, each counted each time it is reached (what is shared counts as often as it is met; a slice's spare places count too). A statement '..UptoSaid' is the law's where the arguments, and the package variables that the reading takes, are together of bulk at most 1048576: NARROWER than '..Said'. Prove '..Said' where nothing that the law and all that it calls make is longer than what came in: it says more and counts as full. Else prove '..UptoSaid'. A law counts once. -/
mutual
def uptoBulk {H : Type} : DataW H → Nat
  | .lit (.string bytes) => bytes.length + 1
  | .lit _ => 1
  | .nil => 1
  | .ptr d => uptoBulk d + 1
  | .slice elems spare => uptoBulkAll elems + uptoBulkAll spare + 1
  | .agg parts => uptoBulkAll parts + 1
  | .iface _ d => uptoBulk d + 1
  | .map entries => uptoBulkEntries entries + 1
  | .held _ => 1
def uptoBulkAll {H : Type} : List (DataW H) → Nat
  | [] => 0
  | d :: r => uptoBulk d + uptoBulkAll r
def uptoBulkEntries {H : Type} : List (Lit × DataW H) → Nat
  | [] => 0
  | x :: r => uptoBulkEntry x + uptoBulkEntries r
def uptoBulkEntry {H : Type} : Lit × DataW H → Nat
  | (.string bytes, d) => bytes.length + uptoBulk d + 1
  | (_, d) => uptoBulk d + 1
 end
def uptoSmall : (H : Type) → List (DataW H) → Bool := fun _ ds => decide (uptoBulkAll ds ≤ 1048576)
def OpenSpec.upto (s : _root_.Go.ChangeSpec) : _root_.Go.OpenSpec := { _root_.Go.OpenSpec.ofChange s with cond := some uptoSmall }

/-- 'laws.FnMeterAdd', WHERE WHAT IT READS IS OF BULK AT MOST 1048576: true; the input reads as it did. -/
def fnMeterAddUptoRow : OpenClaim := { program := "ytfbdfiepnepgpaadoor", sum := "d730f06ff10e963716d300d65b0b7a6cd2076b6cb8e56c9dac4bf32d8732dfe7", func := "loop.example/powercontrol/laws.FnMeterAdd", spec := "fnMeterAdd", inPlace := ["internal/abi.NoEscape"], named := ["internal/strconv.uint64pow10", "math/bits.deBruijn32tab", "math/bits.deBruijn64tab"], apart := false, laid := [("math/bits.deBruijn32tab", laid_math_bits_deBruijn32tab), ("math/bits.deBruijn64tab", laid_math_bits_deBruijn64tab), ("internal/strconv.uint64pow10", laid_internal_strconv_uint64pow10)], narrowed := true }
def FnMeterAddUptoSaid : Prop := fnMeterAddUptoRow.holds Tryd.pinned (OpenSpec.upto fnMeterAddSpec)

/-- 'laws.FnMeterUse', WHERE WHAT IT READS IS OF BULK AT MOST 1048576: true; the input reads as it did. -/
def fnMeterUseUptoRow : OpenClaim := { program := "ytfbdfiepnepgpaadoor", sum := "d730f06ff10e963716d300d65b0b7a6cd2076b6cb8e56c9dac4bf32d8732dfe7", func := "loop.example/powercontrol/laws.FnMeterUse", spec := "fnMeterUse", inPlace := ["internal/abi.NoEscape"], named := ["internal/strconv.uint64pow10", "math/bits.deBruijn32tab", "math/bits.deBruijn64tab"], apart := false, laid := [("math/bits.deBruijn32tab", laid_math_bits_deBruijn32tab), ("math/bits.deBruijn64tab", laid_math_bits_deBruijn64tab), ("internal/strconv.uint64pow10", laid_internal_strconv_uint64pow10)], narrowed := true }
def FnMeterUseUptoSaid : Prop := fnMeterUseUptoRow.holds Tryd.pinned (OpenSpec.upto fnMeterUseSpec)

/-- 'laws.FnTapsValid', WHERE WHAT IT READS IS OF BULK AT MOST 1048576: true; the input reads as it did. -/
def fnTapsValidUptoRow : OpenClaim := { program := "ytfbdfiepnepgpaadoor", sum := "d730f06ff10e963716d300d65b0b7a6cd2076b6cb8e56c9dac4bf32d8732dfe7", func := "loop.example/powercontrol/laws.FnTapsValid", spec := "fnTapsValid", inPlace := ["internal/abi.NoEscape"], named := ["internal/strconv.uint64pow10", "math/bits.deBruijn32tab", "math/bits.deBruijn64tab"], apart := false, laid := [("math/bits.deBruijn32tab", laid_math_bits_deBruijn32tab), ("math/bits.deBruijn64tab", laid_math_bits_deBruijn64tab), ("internal/strconv.uint64pow10", laid_internal_strconv_uint64pow10)], narrowed := true }
def FnTapsValidUptoSaid : Prop := fnTapsValidUptoRow.holds Tryd.pinned (OpenSpec.upto fnTapsValidSpec)

/-- 'laws.FnJobsValid', WHERE WHAT IT READS IS OF BULK AT MOST 1048576: true; the input reads as it did. -/
def fnJobsValidUptoRow : OpenClaim := { program := "ytfbdfiepnepgpaadoor", sum := "d730f06ff10e963716d300d65b0b7a6cd2076b6cb8e56c9dac4bf32d8732dfe7", func := "loop.example/powercontrol/laws.FnJobsValid", spec := "fnJobsValid", inPlace := ["internal/abi.NoEscape"], named := ["internal/strconv.uint64pow10", "math/bits.deBruijn32tab", "math/bits.deBruijn64tab"], apart := false, laid := [("math/bits.deBruijn32tab", laid_math_bits_deBruijn32tab), ("math/bits.deBruijn64tab", laid_math_bits_deBruijn64tab), ("internal/strconv.uint64pow10", laid_internal_strconv_uint64pow10)], narrowed := true }
def FnJobsValidUptoSaid : Prop := fnJobsValidUptoRow.holds Tryd.pinned (OpenSpec.upto fnJobsValidSpec)

/-- 'laws.FnPlantsValid', WHERE WHAT IT READS IS OF BULK AT MOST 1048576: true; the input reads as it did. -/
def fnPlantsValidUptoRow : OpenClaim := { program := "ytfbdfiepnepgpaadoor", sum := "d730f06ff10e963716d300d65b0b7a6cd2076b6cb8e56c9dac4bf32d8732dfe7", func := "loop.example/powercontrol/laws.FnPlantsValid", spec := "fnPlantsValid", inPlace := ["internal/abi.NoEscape"], named := ["internal/strconv.uint64pow10", "math/bits.deBruijn32tab", "math/bits.deBruijn64tab"], apart := false, laid := [("math/bits.deBruijn32tab", laid_math_bits_deBruijn32tab), ("math/bits.deBruijn64tab", laid_math_bits_deBruijn64tab), ("internal/strconv.uint64pow10", laid_internal_strconv_uint64pow10)], narrowed := true }
def FnPlantsValidUptoSaid : Prop := fnPlantsValidUptoRow.holds Tryd.pinned (OpenSpec.upto fnPlantsValidSpec)

/-- 'laws.FnBandsValid', WHERE WHAT IT READS IS OF BULK AT MOST 1048576: true; the input reads as it did. -/
def fnBandsValidUptoRow : OpenClaim := { program := "ytfbdfiepnepgpaadoor", sum := "d730f06ff10e963716d300d65b0b7a6cd2076b6cb8e56c9dac4bf32d8732dfe7", func := "loop.example/powercontrol/laws.FnBandsValid", spec := "fnBandsValid", inPlace := ["internal/abi.NoEscape"], named := ["internal/strconv.uint64pow10", "math/bits.deBruijn32tab", "math/bits.deBruijn64tab"], apart := false, laid := [("math/bits.deBruijn32tab", laid_math_bits_deBruijn32tab), ("math/bits.deBruijn64tab", laid_math_bits_deBruijn64tab), ("internal/strconv.uint64pow10", laid_internal_strconv_uint64pow10)], narrowed := true }
def FnBandsValidUptoSaid : Prop := fnBandsValidUptoRow.holds Tryd.pinned (OpenSpec.upto fnBandsValidSpec)

/-- 'laws.FnPriceAt', WHERE WHAT IT READS IS OF BULK AT MOST 1048576: true; the input reads as it did. -/
def fnPriceAtUptoRow : OpenClaim := { program := "ytfbdfiepnepgpaadoor", sum := "d730f06ff10e963716d300d65b0b7a6cd2076b6cb8e56c9dac4bf32d8732dfe7", func := "loop.example/powercontrol/laws.FnPriceAt", spec := "fnPriceAt", inPlace := ["internal/abi.NoEscape"], named := ["internal/strconv.uint64pow10", "math/bits.deBruijn32tab", "math/bits.deBruijn64tab"], apart := false, laid := [("math/bits.deBruijn32tab", laid_math_bits_deBruijn32tab), ("math/bits.deBruijn64tab", laid_math_bits_deBruijn64tab), ("internal/strconv.uint64pow10", laid_internal_strconv_uint64pow10)], narrowed := true }
def FnPriceAtUptoSaid : Prop := fnPriceAtUptoRow.holds Tryd.pinned (OpenSpec.upto fnPriceAtSpec)

/-- 'laws.FnPhaseSum', WHERE WHAT IT READS IS OF BULK AT MOST 1048576: true; the input reads as it did. -/
def fnPhaseSumUptoRow : OpenClaim := { program := "ytfbdfiepnepgpaadoor", sum := "d730f06ff10e963716d300d65b0b7a6cd2076b6cb8e56c9dac4bf32d8732dfe7", func := "loop.example/powercontrol/laws.FnPhaseSum", spec := "fnPhaseSum", inPlace := ["internal/abi.NoEscape"], named := ["internal/strconv.uint64pow10", "math/bits.deBruijn32tab", "math/bits.deBruijn64tab"], apart := false, laid := [("math/bits.deBruijn32tab", laid_math_bits_deBruijn32tab), ("math/bits.deBruijn64tab", laid_math_bits_deBruijn64tab), ("internal/strconv.uint64pow10", laid_internal_strconv_uint64pow10)], narrowed := true }
def FnPhaseSumUptoSaid : Prop := fnPhaseSumUptoRow.holds Tryd.pinned (OpenSpec.upto fnPhaseSumSpec)

/-- 'laws.FnBill', WHERE WHAT IT READS IS OF BULK AT MOST 1048576: true; the input reads as it did. -/
def fnBillUptoRow : OpenClaim := { program := "ytfbdfiepnepgpaadoor", sum := "d730f06ff10e963716d300d65b0b7a6cd2076b6cb8e56c9dac4bf32d8732dfe7", func := "loop.example/powercontrol/laws.FnBill", spec := "fnBill", inPlace := ["internal/abi.NoEscape"], named := ["internal/strconv.uint64pow10", "math/bits.deBruijn32tab", "math/bits.deBruijn64tab"], apart := false, laid := [("math/bits.deBruijn32tab", laid_math_bits_deBruijn32tab), ("math/bits.deBruijn64tab", laid_math_bits_deBruijn64tab), ("internal/strconv.uint64pow10", laid_internal_strconv_uint64pow10)], narrowed := true }
def FnBillUptoSaid : Prop := fnBillUptoRow.holds Tryd.pinned (OpenSpec.upto fnBillSpec)

/-- 'laws.FnPhaseNext', WHERE WHAT IT READS IS OF BULK AT MOST 1048576: true; the input reads as it did. -/
def fnPhaseNextUptoRow : OpenClaim := { program := "ytfbdfiepnepgpaadoor", sum := "d730f06ff10e963716d300d65b0b7a6cd2076b6cb8e56c9dac4bf32d8732dfe7", func := "loop.example/powercontrol/laws.FnPhaseNext", spec := "fnPhaseNext", inPlace := ["internal/abi.NoEscape"], named := ["internal/strconv.uint64pow10", "math/bits.deBruijn32tab", "math/bits.deBruijn64tab"], apart := false, laid := [("math/bits.deBruijn32tab", laid_math_bits_deBruijn32tab), ("math/bits.deBruijn64tab", laid_math_bits_deBruijn64tab), ("internal/strconv.uint64pow10", laid_internal_strconv_uint64pow10)], narrowed := true }
def FnPhaseNextUptoSaid : Prop := fnPhaseNextUptoRow.holds Tryd.pinned (OpenSpec.upto fnPhaseNextSpec)

/-- 'laws.FnImbalance', WHERE WHAT IT READS IS OF BULK AT MOST 1048576: true; the input reads as it did. -/
def fnImbalanceUptoRow : OpenClaim := { program := "ytfbdfiepnepgpaadoor", sum := "d730f06ff10e963716d300d65b0b7a6cd2076b6cb8e56c9dac4bf32d8732dfe7", func := "loop.example/powercontrol/laws.FnImbalance", spec := "fnImbalance", inPlace := ["internal/abi.NoEscape"], recurses := true, named := ["internal/strconv.uint64pow10", "math/bits.deBruijn32tab", "math/bits.deBruijn64tab"], apart := false, laid := [("math/bits.deBruijn32tab", laid_math_bits_deBruijn32tab), ("math/bits.deBruijn64tab", laid_math_bits_deBruijn64tab), ("internal/strconv.uint64pow10", laid_internal_strconv_uint64pow10)], narrowed := true }
def FnImbalanceUptoSaid : Prop := fnImbalanceUptoRow.holds Tryd.pinned (OpenSpec.upto fnImbalanceSpec)

/-- 'laws.FnBestPhases', WHERE WHAT IT READS IS OF BULK AT MOST 1048576: true; the input reads as it did. -/
def fnBestPhasesUptoRow : OpenClaim := { program := "ytfbdfiepnepgpaadoor", sum := "d730f06ff10e963716d300d65b0b7a6cd2076b6cb8e56c9dac4bf32d8732dfe7", func := "loop.example/powercontrol/laws.FnBestPhases", spec := "fnBestPhases", inPlace := ["internal/abi.NoEscape"], recurses := true, named := ["internal/strconv.uint64pow10", "math/bits.deBruijn32tab", "math/bits.deBruijn64tab"], apart := false, laid := [("math/bits.deBruijn32tab", laid_math_bits_deBruijn32tab), ("math/bits.deBruijn64tab", laid_math_bits_deBruijn64tab), ("internal/strconv.uint64pow10", laid_internal_strconv_uint64pow10)], narrowed := true }
def FnBestPhasesUptoSaid : Prop := fnBestPhasesUptoRow.holds Tryd.pinned (OpenSpec.upto fnBestPhasesSpec)

end Rows
end Go.Proofs.YtfbdfiepnepgpaaDoor
