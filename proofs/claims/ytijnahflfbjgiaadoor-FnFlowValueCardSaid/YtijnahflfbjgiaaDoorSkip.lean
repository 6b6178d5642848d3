/-
  Operations of a region whose order is drawn that are not wanted: passed over many at a time. Plain laws.
-/
import Derived.Test.YtijnahflfbjgiaaDoorBase
import Derived.OrdersHeld
import Derived.Deep.RegionHeld3
namespace Go.Proofs.YtijnahflfbjgiaaDoor
open Go.RowKit
set_option linter.unusedVariables false

section
variable {P : Program} {ops : Array Oper} {Q : Exit → Act → World → Prop} {md : Region.Mode} {S : World → Prop}
def skips (ops : Array Oper) : List Nat → Act → Act
  | [], a => a
  | i :: is, a => skips ops is (match ops[i]? with | some o => a.put o.dst undef | none => a)
def marks : List Nat → Array Bool → Array Bool
  | [], l => l
  | i :: is, l => marks is (l.setIfInBounds i true)
def skipFree (md : Region.Mode) (ops : Array Oper) : List Nat → Array Bool → Bool
  | [], _ => true
  | i :: is, listed => Region.free md ops listed i && (Region.ready md ops listed).contains i && skipFree md ops is (listed.setIfInBounds i true)
def skipNo (ops : Array Oper) : List Nat → Act → Bool
  | [], _ => true
  | i :: is, a => match ops[i]? with
    | some o => !Region.wanted o (yielded ops a.tmps) && skipNo ops is (a.put o.dst undef)
    | none => false
theorem wpAnyH_skips (hs : Region.noSelect ops = true) : ∀ (is : List Nat) (fuel : Nat) (listed : Array Bool) (a : Act) (w : World), skipFree md ops is listed = true → skipNo ops is a = true → S w → (∀ c t v a w, Q (.panic c) (Act.put a (some t) v) w → Q (.panic c) a w) →
    wpAnyH P md ops Q S fuel (marks is listed) (skips ops is a) w → wpAnyH P md ops Q S (fuel + is.length) listed a w
  | [], fuel, listed, a, w, _, _, _, _, h => h
  | i :: is, fuel, listed, a, w, hfr, hok, hS, hQ, h => by
    unfold skipFree at hfr
    unfold skipNo at hok
    simp only [Bool.and_eq_true] at hfr
    obtain ⟨⟨h1, h2⟩, h5⟩ := hfr
    cases ho : ops[i]? with
    | none => rw [ho] at hok; cases hok
    | some o =>
      rw [ho] at hok
      simp only [Bool.and_eq_true, Bool.not_eq_true'] at hok
      obtain ⟨h3, h4⟩ := hok
      refine wpAnyH_take (fuel := fuel + is.length) (i := i) (oi := o) (v := undef) ho hs h1 h2 (fun c a w => by
        cases hd : o.dst with
        | none => exact fun h => h
        | some t => exact hQ c t undef a w) (Or.inr ⟨h3, rfl⟩) hS ?_
      have h' : wpAnyH P md ops Q S fuel (marks is (listed.setIfInBounds i true)) (skips ops is (a.put o.dst undef)) w := by
        have := h
        unfold marks skips at this
        rw [ho] at this
        exact this
      exact wpAnyH_skips hs is fuel _ _ w h5 h4 hS hQ h'
end

end Go.Proofs.YtijnahflfbjgiaaDoor
