/-
  Which jobs and which plants are valid: the reference's function and the program's compute the same. (Written by a program of mine, wip/tools/gen3.py.)
-/
import Derived.Test.YtijnahflfbjgiaaDoorPairs
namespace Go.Proofs.YtijnahflfbjgiaaDoor
open Go.RowKit
set_option linter.unusedVariables false

/-- At most eight, each as it has to be. -/
def jobB (xs : List (Int × Int)) : Bool := decide (xs.length ≤ 8) && xs.all fun p => inB p.1 1 999 && inB p.2 0 999

/-- At most eight, each as it has to be. -/
def plantB (xs : List (Int × Int)) : Bool := decide (xs.length ≤ 8) && xs.all fun p => inB p.1 0 999 && inB p.2 0 999

end Go.Proofs.YtijnahflfbjgiaaDoor
