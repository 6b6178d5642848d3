/-
  Appending a number to a list of the call's own: where the list lies behind it is told, too. A plain law over the program's table of types.
-/
import Derived.Test.YtbebhbcjdiahcaaDoorAppend
namespace Go.Proofs.YtbebhbcjdiahcaaDoor
open Go.RowKit
set_option linter.unusedVariables false

theorem app_int2 {ops : Array Oper} {rest : List Oper} {o : Oper} {a : Act} {Q : Exit → Act → World → Prop} (wr : World) (hgd : o.guard = none) (s x : Operand)
    (ho : o.op = .call { callee := .builtin .append, args := #[s, x], argTypes := #[28, 28] })
    (base : Nat) (A : Option Addr) (n c : Nat) (ord : List Int) (k : Int) (hs : a.eval s = .slice A n c) (hown : wr.ownsRow base 3 1 (.slice A n c) n (encI ord)) (H : Nat) (hH : wr.heap.size = H) (hx : a.eval x = .slice (some ⟨H, 0, none⟩) 1 1)
    (hb : base ≤ wr.heap.size) (hn : n ≤ 1048576)
    (h : ∀ D d w', w'.ownsRow base 3 1 (.slice D (n + 1) d) (n + 1) (encI (ord ++ [k])) → wr.grownBy w' (Value.slice A n c).ownBlock → (∀ g, (Value.slice D (n + 1) d).ownBlock = some g → (Value.slice A n c).ownBlock = some g ∨ wr.heap.size ≤ g) → wpList Tryd.prog ops Q rest (a.put o.dst (.slice D (n + 1) d)) w') :
    wpList Tryd.prog ops Q (o :: rest) a (wr.alloc (.cells #[.int .i64 k] 3)) := by
  subst hH
  obtain ⟨i0, hi, hz0, hz1, hz2⟩ := info_parts infoI
  refine wpList_append_own_at _ hgd s x 28 ho base 3 i0 (.int .i64 0) 1 8 Tryd.underlying28 hi hz0 hz1 hz2 rfl (by decide) (.slice A n c) n (encI ord) hs (hown.alloc _) ⟨wr.heap.size, 0, none⟩ 1 1 [.int .i64 k] hx rfl (cell_one_new _ _ _) (by simp [Value.oneCell']) (by unfold maxLen; omega) (by omega) (by simp; omega) ?_
  intro v' w' ho' hg _ hw
  obtain ⟨D, d, rfl, _, _⟩ := own_slice ho'
  refine h D d w' (by rw [encI_snoc]; exact ho') ⟨hg.os, hg.tape, hg.output, Nat.le_trans (by simp) hg.size, fun i hi' hne => (hg.block i (by simp; omega) hne).trans (Below.heap_alloc wr _ i hi')⟩ fun g hgb => ?_
  rcases hw with hw | hw
  · exact .inl (by rw [← hw]; exact hgb)
  · rw [hw] at hgb
    injection hgb with hgb
    simp at hgb
    exact .inr (by omega)
/-- A list of the call's own stays while another one grows. -/
theorem own_apart {wr w' : World} {base e size n : Nat} {v v' : Value} {cs : List Value} (ho : wr.ownsRow base e size v n cs) (hg : wr.grownBy w' v'.ownBlock) (hne : ∀ g, v.ownBlock = some g → ¬ v'.ownBlock = some g) : w'.ownsRow base e size v n cs :=
  ho.kept hg (by
    cases hv : v.ownBlock with
    | none => exact .inl rfl
    | some g => exact .inr fun he => hne g hv he.symm)

end Go.Proofs.YtbebhbcjdiahcaaDoor
