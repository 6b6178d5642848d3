/-
  'out = append(out, k)' on a list of numbers that the call itself has made: one law for the walk. And: marking and reading the marks of a list of numbers.
-/
import Derived.Test.YtbebhbcjdiahcaaDoorLeaf
import Derived.Maps.AppendAt
namespace Go.Proofs.YtbebhbcjdiahcaaDoor
open Go.RowKit
set_option linter.unusedVariables false

theorem encI_snoc (xs : List Int) (k : Int) : encI (xs ++ [k]) = encI xs ++ [.int .i64 k] := by simp [encI]

theorem app_int {ops : Array Oper} {rest : List Oper} {o : Oper} {a : Act} {Q : Exit → Act → World → Prop} (wr : World) (hgd : o.guard = none) (s x : Operand)
    (ho : o.op = .call { callee := .builtin .append, args := #[s, x], argTypes := #[28, 28] })
    (base : Nat) (A : Option Addr) (n c : Nat) (ord : List Int) (k : Int) (hs : a.eval s = .slice A n c) (hown : wr.ownsRow base 3 1 (.slice A n c) n (encI ord)) (H : Nat) (hH : wr.heap.size = H) (hx : a.eval x = .slice (some ⟨H, 0, none⟩) 1 1)
    (hb : base ≤ wr.heap.size) (hn : n ≤ 1048576)
    (h : ∀ D d w', w'.ownsRow base 3 1 (.slice D (n + 1) d) (n + 1) (encI (ord ++ [k])) → wr.grownBy w' (Value.slice A n c).ownBlock → wpList Tryd.prog ops Q rest (a.put o.dst (.slice D (n + 1) d)) w') :
    wpList Tryd.prog ops Q (o :: rest) a (wr.alloc (.cells #[.int .i64 k] 3)) := by
  subst hH
  obtain ⟨i0, hi, hz0, hz1, hz2⟩ := info_parts infoI
  refine wpList_append_own_at _ hgd s x 28 ho base 3 i0 (.int .i64 0) 1 8 Tryd.underlying28 hi hz0 hz1 hz2 rfl (by decide) (.slice A n c) n (encI ord) hs (hown.alloc _) ⟨wr.heap.size, 0, none⟩ 1 1 [.int .i64 k] hx rfl (cell_one_new _ _ _) (by simp [Value.oneCell']) (by unfold maxLen; omega) (by omega) (by simp; omega) ?_
  intro v' w' ho' hg _ _
  obtain ⟨D, d, rfl, _, _⟩ := own_slice ho'
  refine h D d w' (by rw [encI_snoc]; exact ho') ?_
  exact ⟨hg.os, hg.tape, hg.output, Nat.le_trans (by simp) hg.size, fun i hi' hne => (hg.block i (by simp; omega) hne).trans (Below.heap_alloc wr _ i hi')⟩

/-- Blocks that lie below those of the call's own stay while a list of the call's own grows. -/
theorem grown_below {wr w' : World} {base e size n : Nat} {v : Value} {cs : List Value} (ho : wr.ownsRow base e size v n cs) (hg : wr.grownBy w' v.ownBlock) (hb : base ≤ wr.heap.size) : Below base wr w' :=
  ⟨hg.os, hg.tape, hg.output, hg.size, fun i hi => hg.block i (by omega) (fun he => by have := (ho.lt i he.symm).1; omega)⟩

/-- The numbers k, k + 1, .. -/
def iota (k : Int) (n : Nat) : List Int := (List.range n).map fun (j : Nat) => k + (j : Int)
theorem iota_len (k : Int) (n : Nat) : (iota k n).length = n := by simp [iota]
theorem iota_at (k : Int) (n j : Nat) (h : j < n) : at_ (iota k n) j = k + j := by simp [at_, iota, h]

/-- A list of numbers that the call has made. -/
def MadeInts (R : List Int → Prop) (w : World) (e : Ending) (w' : World) : Prop :=
  ∃ ord D d, R ord ∧ e = .returned (.slice D ord.length d) ∧ w'.ownsRow w.heap.size 3 1 (.slice D ord.length d) ord.length (encI ord) ∧ Below w.heap.size w w'

end Go.Proofs.YtbebhbcjdiahcaaDoor
