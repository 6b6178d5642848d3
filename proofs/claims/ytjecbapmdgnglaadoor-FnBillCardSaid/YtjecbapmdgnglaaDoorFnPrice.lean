/-
  The law FnPriceAt over drawn bands and an hour: the walk.
-/
import Derived.Test.YtjecbapmdgnglaaDoorFnBands
namespace Go.Proofs.YtjecbapmdgnglaaDoor
open Go.RowKit
set_option linter.unusedVariables false

/-- Whether one of the first k bands has a price. -/
def someP (xs : List (Int × Int)) (x : Int) : Nat → Bool
  | 0 => false
  | k + 1 => someP xs x k || decide ((at2 xs k).2 = x)
theorem someP_yes {xs : List (Int × Int)} {x : Int} {k : Nat} (h : someP xs x k = true) : someP xs x (k + 1) = true := by simp [someP, h]
theorem someP_no {xs : List (Int × Int)} {x : Int} {k : Nat} (h : someP xs x k = false) : someP xs x (k + 1) = decide ((at2 xs k).2 = x) := by simp [someP, h]

/-- A drawn list of pairs and a number. -/
def Got2N (t : TypeId) (L : Nat) (w : World) (e : Ending) (w' : World) : Prop :=
  ∃ (xs : List (Int × Int)) (D : Option Addr) (d : Nat) (z : Int), xs.length ≤ L ∧ (-1 ≤ z ∧ z ≤ 1000) ∧ e = .returned (.tuple #[.slice D xs.length d, .int .i64 z]) ∧ w'.ownsRow w.heap.size t 2 (.slice D xs.length d) xs.length (enc2 xs) ∧ Below w.heap.size w w'

/-- What the last price is: that of the band that begins with the hour, or that of the hour before. -/
theorem prF_at {xs : List (Int × Int)} (hv : bandsB xs = true) (hour : Int) (k : Nat) (hk : k < xs.length) (h : (at2 xs k).1 = hour) : prF xs hour xs.length = (at2 xs k).2 := by
  have h1 := prF_stop hv hour (k + 1) (xs.length - (k + 1)) (by omega) (fun hk1 => by
    obtain ⟨_, _, _, g4⟩ := bandsB_ok hv
    have := (bandOk_in (g4 (k + 1) hk1)).2.2
    simp at this
    omega)
  rw [show k + 1 + (xs.length - (k + 1)) = xs.length by omega] at h1
  rw [h1]
  unfold prF
  rw [if_pos (by omega)]
theorem prF_prev {xs : List (Int × Int)} (hour : Int) (k : Nat) (h : ∀ j, j < k → (at2 xs j).1 ≠ hour) : prF xs (hour - 1) k = prF xs hour k := by
  induction k with
  | zero => rfl
  | succ k ih =>
    have := h k (by omega)
    unfold prF
    rw [ih (fun j hj => h j (by omega))]
    by_cases hle : (at2 xs k).1 ≤ hour
    · rw [if_pos (by omega), if_pos hle]
    · rw [if_neg (by omega), if_neg hle]
theorem prF_some {xs : List (Int × Int)} (hour : Int) (h0 : (at2 xs 0).1 ≤ hour) (k : Nat) : someP xs (prF xs hour (k + 1)) (k + 1) = true := by
  induction k with
  | zero => simp [someP, prF, h0]
  | succ k ih =>
    unfold prF
    by_cases hle : (at2 xs (k + 1)).1 ≤ hour
    · rw [if_pos hle]
      simp [someP]
    · rw [if_neg hle]
      exact someP_yes ih
theorem price_cases (xs : List (Int × Int)) (hour : Int) : priceB xs hour = -1 ∨ (bandsB xs = true ∧ 0 ≤ hour ∧ hour ≤ 23 ∧ priceB xs hour = prF xs hour xs.length) := by
  unfold priceB
  cases h : bandsB xs
  · left; simp
  · cases h2 : inB hour 0 23
    · left; simp
    · right
      have := inB_true h2
      exact ⟨rfl, this.1, this.2, by simp⟩
theorem price_yes {xs : List (Int × Int)} (h : bandsB xs = true) (hour : Int) (h0 : 0 ≤ hour) (h1 : hour ≤ 23) : priceB xs hour = prF xs hour xs.length := by
  unfold priceB
  rw [h, inB_mk h0 h1]
  rfl

end Go.Proofs.YtjecbapmdgnglaaDoor
