/-
  Chapter 35, the reference's order of jobs, and what is lost at least.
-/
import Derived.Test.YtijnahflfbjgiaaDoorBestJobs
namespace Go.Proofs.YtijnahflfbjgiaaDoor
open Go.RowKit
set_option linter.unusedVariables false

theorem bestF_lt (lt : Int → Int → Bool) (out : List Int) (j : Nat) : bestF lt out j = -1 ∨ (0 ≤ bestF lt out j ∧ bestF lt out j < j) := by
  induction j with
  | zero => exact .inl rfl
  | succ j ih =>
    have hu : bestF lt out (j + 1) = if !hasB out j && (decide (bestF lt out j < 0) || lt j (bestF lt out j)) then (j : Int) else bestF lt out j := rfl
    rw [hu]
    split <;> omega
theorem bestF_has {lt : Int → Int → Bool} {out : List Int} {j : Nat} (h : hasB out j = true) : bestF lt out (j + 1) = bestF lt out j := by
  have hu : bestF lt out (j + 1) = if !hasB out j && (decide (bestF lt out j < 0) || lt j (bestF lt out j)) then (j : Int) else bestF lt out j := rfl
  rw [hu, h]
  simp
theorem bestF_first {lt : Int → Int → Bool} {out : List Int} {j : Nat} (h : hasB out j = false) (hb : bestF lt out j = -1) : bestF lt out (j + 1) = j := by
  have hu : bestF lt out (j + 1) = if !hasB out j && (decide (bestF lt out j < 0) || lt j (bestF lt out j)) then (j : Int) else bestF lt out j := rfl
  rw [hu, h, hb]
  simp
theorem bestF_yes {lt : Int → Int → Bool} {out : List Int} {j m : Nat} (h : hasB out j = false) (hb : bestF lt out j = m) (hl : lt j m = true) : bestF lt out (j + 1) = j := by
  have hu : bestF lt out (j + 1) = if !hasB out j && (decide (bestF lt out j < 0) || lt j (bestF lt out j)) then (j : Int) else bestF lt out j := rfl
  rw [hu, h, hb, hl]
  simp
theorem bestF_no {lt : Int → Int → Bool} {out : List Int} {j m : Nat} (h : hasB out j = false) (hb : bestF lt out j = m) (hl : lt j m = false) : bestF lt out (j + 1) = m := by
  have hu : bestF lt out (j + 1) = if !hasB out j && (decide (bestF lt out j < 0) || lt j (bestF lt out j)) then (j : Int) else bestF lt out j := rfl
  have : decide ((m : Int) < 0) = false := by simp
  rw [hu, h, hb, hl, this]
  simp
theorem job_prod {xs : List (Int × Int)} (hv : jobB xs = true) (a b : Nat) (ha : a < xs.length) (hb : b < xs.length) : 0 ≤ (at2 xs a).1 * (at2 xs b).2 ∧ (at2 xs a).1 * (at2 xs b).2 ≤ 998001 := by
  obtain ⟨⟨u1, u2⟩, u3, u4⟩ := job_at hv a ha
  obtain ⟨⟨v1, v2⟩, v3, v4⟩ := job_at hv b hb
  exact mul_in (m := 999) (n := 999) ⟨by omega, u2⟩ ⟨v3, v4⟩ (by omega)

/-! ### what is lost at least -/
def leastB (xs : List (Int × Int)) : Int := if jobB xs then lostB xs (bestJobs xs) else -1
theorem least_no {xs : List (Int × Int)} (h : jobB xs = false) (ord : List Int) : lostB xs ord = -1 := by simp [lostB, lostOk, h]

end Go.Proofs.YtijnahflfbjgiaaDoor
