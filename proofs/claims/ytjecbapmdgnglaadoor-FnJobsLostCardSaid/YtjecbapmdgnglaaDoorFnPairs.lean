/-
  The laws FnJobsValid and FnPlantsValid over drawn lists: the walks. (Written by a program of mine, wip/tools/gen4.py.)
-/
import Derived.Test.YtjecbapmdgnglaaDoorValid
import Derived.Test.YtjecbapmdgnglaaDoorFnTaps
import Derived.Test.YtjecbapmdgnglaaDoorDrawPairs
namespace Go.Proofs.YtjecbapmdgnglaaDoor
open Go.RowKit
set_option linter.unusedVariables false

theorem enc2_drop (xs : List (Int × Int)) (k : Nat) : enc2 (xs.drop k) = (enc2 xs).drop (k * 2) := by
  induction k generalizing xs with
  | zero => simp
  | succ k ih =>
    cases xs with
    | nil => simp [enc2]
    | cons a t =>
      rw [show (k + 1) * 2 = k * 2 + 2 by omega]
      simpa [enc2] using ih t
theorem Sl.drop2 {w : World} {B b off : Nat} {xs : List (Int × Int)} (h : Sl w B 2 (some ⟨b, off, none⟩) xs.length (enc2 xs)) (k : Nat) (hk : k ≤ xs.length) : Sl w B 2 (some ⟨b, off + k * 2, none⟩) (xs.drop k).length (enc2 (xs.drop k)) := by
  have := h.from_ k hk
  rw [List.length_drop, enc2_drop]
  exact this
theorem Sl.nil2 (w : World) (B : Nat) (A : Option Addr) : Sl w B 2 A ([] : List (Int × Int)).length (enc2 []) := ⟨by simp [enc2], fun hn => absurd hn (by simp)⟩

/-- A drawn list of pairs, in memory of the call's own. -/
def Got2 (t : TypeId) (L : Nat) (w : World) (e : Ending) (w' : World) : Prop :=
  ∃ (xs : List (Int × Int)) (D : Option Addr) (d : Nat), xs.length ≤ L ∧ (∀ p ∈ xs, (-1 ≤ p.1 ∧ p.1 ≤ 1000) ∧ (-1 ≤ p.2 ∧ p.2 ≤ 1000)) ∧ e = .returned (.slice D xs.length d) ∧ w'.ownsRow w.heap.size t 2 (.slice D xs.length d) xs.length (enc2 xs) ∧ Below w.heap.size w w'
theorem nil_cases {α : Type} (b : Bool) (xs : List α) : b = false ∨ (b = true ∧ xs = []) ∨ (b = true ∧ ¬ xs = []) := by
  cases b
  · exact .inl rfl
  · by_cases h : xs = []
    · exact .inr (.inl ⟨rfl, h⟩)
    · exact .inr (.inr ⟨rfl, h⟩)

theorem job_more (xs : List (Int × Int)) : jobB (xs ++ [(0, 0)]) = false := by
  simp [jobB, inB]
theorem job_less {xs : List (Int × Int)} (h : jobB xs = true) (k : Nat) : jobB (xs.drop k) = true := by
  simp only [jobB, Bool.and_eq_true, decide_eq_true_eq, List.all_eq_true] at h ⊢
  refine ⟨by rw [List.length_drop]; omega, fun x hx => h.2 x (List.mem_of_mem_drop hx)⟩

theorem plant_more (xs : List (Int × Int)) : plantB (xs ++ [(-1, 0)]) = false := by
  simp [plantB, inB]
theorem plant_less {xs : List (Int × Int)} (h : plantB xs = true) (k : Nat) : plantB (xs.drop k) = true := by
  simp only [plantB, Bool.and_eq_true, decide_eq_true_eq, List.all_eq_true] at h ⊢
  refine ⟨by rw [List.length_drop]; omega, fun x hx => h.2 x (List.mem_of_mem_drop hx)⟩

end Go.Proofs.YtjecbapmdgnglaaDoor
