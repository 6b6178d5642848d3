/-
  The reference's drawing of loads, and of loads with phases. Of what is drawn only length and range are said.
-/
import Derived.Test.YtbebhbcjdiahcaaDoorDraw
import Derived.Test.YtbebhbcjdiahcaaDoorAppend
import Derived.Test.YtbebhbcjdiahcaaDoorAppAny
namespace Go.Proofs.YtbebhbcjdiahcaaDoor
open Go.RowKit
set_option linter.unusedVariables false

/-- A drawn list of numbers, of the call's own. -/
def DrawnI (B g P L : Nat) (lo hi : Int) (w : World) (e : Ending) (w' : World) : Prop :=
  ∃ xs D d, xs.length ≤ L ∧ (∀ n ∈ xs, lo ≤ n ∧ n ≤ hi) ∧ e = .returned (.slice D xs.length d) ∧ w'.ownsRow w.heap.size 3 1 (.slice D xs.length d) xs.length (encI xs) ∧ RdU B w' g P ∧ w.grownBy w' (some g)

theorem RdU.grown {B g P : Nat} {w w' : World} {row : Option Nat} (h : RdU B w g P) (hg : w.grownBy w' row) (hr : ∀ k, row = some k → g < k) : RdU B w' g P :=
  h.far ⟨hg.os, hg.tape, hg.output, hg.size, fun k hk => hg.block k (by have := h.lt; omega) (fun e => by have := hr k e.symm; omega)⟩
theorem own_big {w : World} {base e size n : Nat} {v : Value} {cs : List Value} (ho : w.ownsRow base e size v n cs) : ∀ k, v.ownBlock = some k → base ≤ k := fun k hk => (ho.lt k hk).1

theorem make7 (w : World) : (Instr.makeSlice 28 (.int .i64 7) (.int .i64 7)).run Tryd.prog w = .ok (.slice (some ⟨w.heap.size, 0, none⟩) 7 7) (w.alloc (.cells (zrow 7) 3)) := by
  obtain ⟨i0, hi, hz0, hz1, hz2⟩ := info_parts infoI
  exact run_make_z (P := Tryd.prog) 28 3 (.int .i64 0) 1 8 Tryd.underlying28 infoI rfl (by decide) 7 7 (by decide) (by decide) (by decide) w

theorem cells2 (w : World) (a b : Int) : (w.alloc (.cells #[.int .i64 a, .int .i64 b] 3)).cell? ⟨w.heap.size, 0, none⟩ = some (.int .i64 a) ∧ (w.alloc (.cells #[.int .i64 a, .int .i64 b] 3)).cell? ⟨w.heap.size, 1, none⟩ = some (.int .i64 b) := (Blk.new w 3 #[.int .i64 a, .int .i64 b]).two

end Go.Proofs.YtbebhbcjdiahcaaDoor
