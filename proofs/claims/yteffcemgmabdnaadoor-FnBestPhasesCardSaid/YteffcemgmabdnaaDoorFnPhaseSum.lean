/-
  The law FnPhaseSum over drawn loads and phases: the walk.
-/
import Derived.Test.YteffcemgmabdnaaDoorPhases
import Derived.Test.YteffcemgmabdnaaDoorPhDraw
import Derived.Test.YteffcemgmabdnaaDoorFnTaps
namespace Go.Proofs.YteffcemgmabdnaaDoor
open Go.RowKit
set_option linter.unusedVariables false

/-- Two drawn lists and a number, in memory of the call's own. -/
def Got2I (w : World) (e : Ending) (w' : World) : Prop :=
  ∃ (xs ys : List Int) (D : Option Addr) (d : Nat) (E : Option Addr) (f : Nat), xs.length ≤ 7 ∧ ys.length ≤ 8 ∧ (∀ n ∈ xs, -1 ≤ n ∧ n ≤ 1000) ∧ (∀ n ∈ ys, -1 ≤ n ∧ n ≤ 3) ∧ e = .returned (.tuple #[.slice D xs.length d, .slice E ys.length f]) ∧
    w'.ownsRow w.heap.size 3 1 (.slice D xs.length d) xs.length (encI xs) ∧ w'.ownsRow w.heap.size 3 1 (.slice E ys.length f) ys.length (encI ys) ∧ Below w.heap.size w w'
def Got3I (w : World) (e : Ending) (w' : World) : Prop :=
  ∃ (xs ys : List Int) (D : Option Addr) (d : Nat) (E : Option Addr) (f : Nat) (z : Int), xs.length ≤ 7 ∧ ys.length ≤ 8 ∧ (∀ n ∈ xs, -1 ≤ n ∧ n ≤ 1000) ∧ (∀ n ∈ ys, -1 ≤ n ∧ n ≤ 3) ∧ (-1 ≤ z ∧ z ≤ 9) ∧ e = .returned (.tuple #[.slice D xs.length d, .slice E ys.length f, .int .i64 z]) ∧
    w'.ownsRow w.heap.size 3 1 (.slice D xs.length d) xs.length (encI xs) ∧ w'.ownsRow w.heap.size 3 1 (.slice E ys.length f) ys.length (encI ys) ∧ Below w.heap.size w w'

/-- The sum of the first k numbers. -/
def sumI (xs : List Int) : Nat → Int
  | 0 => 0
  | k + 1 => sumI xs k + at_ xs k
theorem sumI_in {xs : List Int} (h : ∀ n ∈ xs, -1 ≤ n ∧ n ≤ 1000) (k : Nat) (hk : k ≤ xs.length) : -1 * (k : Int) ≤ sumI xs k ∧ sumI xs k ≤ 1000 * k := by
  induction k with
  | zero => simp [sumI]
  | succ k ih =>
    have := ih (by omega)
    have := h _ (mem_at k (by omega))
    unfold sumI
    omega

theorem three_sums {xs ys : List Int} (h : phOk xs ys = true) : phSum xs ys 0 xs.length + phSum xs ys 1 xs.length + phSum xs ys 2 xs.length = sumI xs xs.length := by
  simp only [phOk, Bool.and_eq_true, decide_eq_true_eq, List.all_eq_true] at h
  obtain ⟨⟨_, h2⟩, h3⟩ := h
  have : ∀ k, k ≤ xs.length → phSum xs ys 0 k + phSum xs ys 1 k + phSum xs ys 2 k = sumI xs k := by
    intro k
    induction k with
    | zero => intro; rfl
    | succ k ih =>
      intro hk
      have := ih (by omega)
      have := inB_true (h3 _ (mem_at k (by omega)))
      unfold phSum sumI
      rcases (by omega : at_ ys k = 0 ∨ at_ ys k = 1 ∨ at_ ys k = 2) with e | e | e
      all_goals
        rw [e]
        simp
        omega
  exact this _ (Nat.le_refl _)
theorem ps_cases (xs ys : List Int) (ph : Int) : phaseSumB xs ys ph = -1 ∨ (phOk xs ys = true ∧ 0 ≤ phaseSumB xs ys ph ∧ phaseSumB xs ys ph ≤ 5994) := by
  unfold phaseSumB
  cases h : phOk xs ys
  · left; simp
  · cases h2 : inB ph 0 2
    · left; simp
    · right
      have := phSum_le h ph
      simp
      omega
theorem ps_yes {xs ys : List Int} (h : phOk xs ys = true) (ph : Int) (h0 : 0 ≤ ph) (h2 : ph ≤ 2) : phaseSumB xs ys ph = phSum xs ys ph xs.length := by
  unfold phaseSumB
  rw [h, inB_mk h0 h2]
  rfl

end Go.Proofs.YteffcemgmabdnaaDoor
