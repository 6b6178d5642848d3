/-
  A region whose order is drawn: what is known of every world may be said more strongly on the way. Plain law.
-/
import Derived.Test.YtgkgdbmmhcdohaaDoorBase
import Derived.OrdersHeld
import Derived.Deep.RegionHeld3
namespace Go.Proofs.YtgkgdbmmhcdohaaDoor
open Go.RowKit
set_option linter.unusedVariables false

theorem wpAnyH_more {P : Program} {ops : Array Oper} {Q : Exit → Act → World → Prop} {md : Region.Mode} {S T : World → Prop} (h : ∀ w, T w → S w) :
    ∀ (fuel : Nat) (listed : Array Bool) (a : Act) (w : World), wpAnyH P md ops Q T fuel listed a w → wpAnyH P md ops Q S fuel listed a w
  | 0, _, _, _, k => k
  | fuel + 1, listed, a, w, k => ⟨k.1, fun i hi => wpOp_mono (fun a' w' ⟨k1, k2⟩ => ⟨h w' k1, wpAnyH_more h fuel _ a' w' k2⟩) (k.2 i hi)⟩

end Go.Proofs.YtgkgdbmmhcdohaaDoor
