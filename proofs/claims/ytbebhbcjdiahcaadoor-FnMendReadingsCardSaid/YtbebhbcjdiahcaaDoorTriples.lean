/-
  Contracts of the laws' own functions over structs of three numbers: copying, comparing and marking. (Written by a program of mine, wip/tools/gen5.py.)
-/
import Derived.Test.YtbebhbcjdiahcaaDoorPairs
namespace Go.Proofs.YtbebhbcjdiahcaaDoor
open Go.RowKit
set_option linter.unusedVariables false

def eqT (p q : Int × Int × Int) : Bool := p == q
theorem eqT_yes {p q : Int × Int × Int} (h1 : p.1 = q.1) (h2 : p.2.1 = q.2.1) (h3 : p.2.2 = q.2.2) : eqT p q = true := by simp [eqT, Prod.ext_iff, h1, h2, h3]
theorem eqT_no1 {p q : Int × Int × Int} (h1 : p.1 ≠ q.1) : eqT p q = false := by simp [eqT, Prod.ext_iff, h1]
theorem eqT_no2 {p q : Int × Int × Int} (h1 : p.2.1 ≠ q.2.1) : eqT p q = false := by simp [eqT, Prod.ext_iff, h1]
theorem eqT_no3 {p q : Int × Int × Int} (h1 : p.2.2 ≠ q.2.2) : eqT p q = false := by simp [eqT, Prod.ext_iff, h1]
theorem eqT_true {p q : Int × Int × Int} (h : eqT p q = true) : p = q := by simpa [eqT] using h
theorem eqT_false {p q : Int × Int × Int} (h : eqT p q = false) : p ≠ q := by simpa [eqT] using h

theorem infoLine : (Tryd.prog.info? 60).map (fun i => (i.zero, i.size, i.bytes)) = some (some (.agg #[.int .i64 0, .int .i64 0, .int .i64 0]), 3, 24) := by kernel_rfl

end Go.Proofs.YtbebhbcjdiahcaaDoor
