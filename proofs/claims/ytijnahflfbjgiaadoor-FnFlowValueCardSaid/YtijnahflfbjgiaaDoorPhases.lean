/-
  Chapter 36 (phases): what the program's functions and the reference's compute, and the walks of the laws on them.
-/
import Derived.Test.YtijnahflfbjgiaaDoorLeaf
import Derived.Test.YtijnahflfbjgiaaDoorOpen
namespace Go.Proofs.YtijnahflfbjgiaaDoor
open Go.RowKit
set_option linter.unusedVariables false

/-- At most six loads, each in 0..999. -/
def tapsB (xs : List Int) : Bool := decide (xs.length ≤ 6) && xs.all fun x => inB x 0 999

/-! ### the sums of the phases -/
/-- The sum of the first k loads that are on a phase. -/
def phSum (loads phases : List Int) (ph : Int) : Nat → Int
  | 0 => 0
  | k + 1 => phSum loads phases ph k + if at_ phases k = ph then at_ loads k else 0
def phOk (loads phases : List Int) : Bool := tapsB loads && decide (phases.length = loads.length) && phases.all fun x => inB x 0 2
def phaseSumB (loads phases : List Int) (ph : Int) : Int := if phOk loads phases && inB ph 0 2 then phSum loads phases ph loads.length else -1

theorem taps_at {xs : List Int} (h : tapsB xs = true) (k : Nat) (hk : k < xs.length) : 0 ≤ at_ xs k ∧ at_ xs k ≤ 999 := by
  simp [tapsB] at h
  exact inB_true (by rw [at_eq xs k hk]; exact h.2 _ (List.getElem_mem hk))
theorem taps_len {xs : List Int} (h : tapsB xs = true) : xs.length ≤ 6 := by
  simp [tapsB] at h
  exact h.1
theorem phSum_in {loads phases : List Int} (h : tapsB loads = true) (ph : Int) (k : Nat) (hk : k ≤ loads.length) : 0 ≤ phSum loads phases ph k ∧ phSum loads phases ph k ≤ 999 * k := by
  induction k with
  | zero => simp [phSum]
  | succ k ih =>
    have := ih (by omega)
    have := taps_at h k (by omega)
    unfold phSum
    split <;> omega
theorem phOk_taps {loads phases : List Int} (h : tapsB loads = false) : phOk loads phases = false := by simp [phOk, h]
theorem phOk_len {loads phases : List Int} (h : phases.length ≠ loads.length) : phOk loads phases = false := by simp [phOk, h]
theorem phOk_no {loads phases : List Int} (k : Nat) (hk : k < phases.length) (h : inB (at_ phases k) 0 2 = false) : phOk loads phases = false := by
  unfold phOk
  rw [all_no _ _ k hk (by rw [← at_eq phases k hk]; exact h)]
  simp
theorem phOk_yes {loads phases : List Int} (h1 : tapsB loads = true) (h2 : phases.length = loads.length) (h3 : ∀ j, j < phases.length → inB (at_ phases j) 0 2 = true) : phOk loads phases = true := by
  unfold phOk
  rw [h1, h2]
  simp only [decide_true, Bool.and_self, Bool.true_and, List.all_eq_true]
  intro x hx
  obtain ⟨j, hj, rfl⟩ := List.getElem_of_mem hx
  rw [← at_eq phases j hj]
  exact h3 j hj

/-- What phaseSums returns: the three sums, and whether everything is valid. -/
def SumsPost (xs ys : List Int) (w : World) (e : Ending) (w' : World) : Prop :=
  ∃ s0 s1 s2 : Int, e = .returned (.tuple #[.agg #[.int .i64 s0, .int .i64 s1, .int .i64 s2], .bool (phOk xs ys)]) ∧ (phOk xs ys = true → s0 = phSum xs ys 0 xs.length ∧ s1 = phSum xs ys 1 xs.length ∧ s2 = phSum xs ys 2 xs.length) ∧ Below w.heap.size w w'

/-- The greatest one of three less the least one. -/
def imb (a b c : Int) : Int := max a (max b c) - min a (min b c)

def imbB (xs ys : List Int) : Int := if phOk xs ys then imb (phSum xs ys 0 xs.length) (phSum xs ys 1 xs.length) (phSum xs ys 2 xs.length) else -1
theorem phOk_tapsB {xs ys : List Int} (h : phOk xs ys = true) : tapsB xs = true := by
  simp [phOk] at h
  exact h.1.1
theorem phSum_le {xs ys : List Int} (h : phOk xs ys = true) (ph : Int) : 0 ≤ phSum xs ys ph xs.length ∧ phSum xs ys ph xs.length ≤ 5994 := by
  have h1 := phSum_in (phases := ys) (phOk_tapsB h) ph xs.length (Nat.le_refl _)
  have h2 := taps_len (phOk_tapsB h)
  omega

/-! ### where a further load goes -/
def phNext (a b c : Int) : Int := if b < a then (if c < b then 2 else 1) else (if c < a then 2 else 0)
def phNextB (xs ys : List Int) : Int := if phOk xs ys then phNext (phSum xs ys 0 xs.length) (phSum xs ys 1 xs.length) (phSum xs ys 2 xs.length) else -1
/-- The best one of the first k phases. -/
def phBest (a b c : Int) : Nat → Int
  | 0 => 0
  | 1 => 0
  | 2 => if b < a then 1 else 0
  | _ => phNext a b c

end Go.Proofs.YtijnahflfbjgiaaDoor
