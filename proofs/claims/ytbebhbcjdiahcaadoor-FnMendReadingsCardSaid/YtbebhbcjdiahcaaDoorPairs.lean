/-
  Contracts of the laws' own functions over structs of two numbers: copying and comparing. (Written by a program of mine, wip/tools/gen2.py.)
-/
import Derived.Test.YtbebhbcjdiahcaaDoorLeaf
import Derived.Test.YtbebhbcjdiahcaaDoorOpen
import Derived.Deep.RegionHeld3
import Derived.Maps.AppendAt
namespace Go.Proofs.YtbebhbcjdiahcaaDoor
open Go.RowKit
set_option linter.unusedVariables false

/-- What is left of a size. -/
def szOf (n : Nat) (left : Int) : Int := if left < n then -1 else left - n

def eqP (p q : Int × Int) : Bool := p == q
theorem eqP_yes {p q : Int × Int} (h1 : p.1 = q.1) (h2 : p.2 = q.2) : eqP p q = true := by simp [eqP, Prod.ext_iff, h1, h2]
theorem eqP_no1 {p q : Int × Int} (h1 : p.1 ≠ q.1) : eqP p q = false := by simp [eqP, Prod.ext_iff, h1]
theorem eqP_no2 {p q : Int × Int} (h1 : p.2 ≠ q.2) : eqP p q = false := by simp [eqP, Prod.ext_iff, h1]
theorem eqP_true {p q : Int × Int} (h : eqP p q = true) : p = q := by simpa [eqP] using h
theorem eqP_false {p q : Int × Int} (h : eqP p q = false) : p ≠ q := by simpa [eqP] using h

end Go.Proofs.YtbebhbcjdiahcaaDoor
