/-
  Chapter 35 (crews): what the program's functions and the reference's compute, and the walks of the laws on them.
-/
import Derived.Test.YtijnahflfbjgiaaDoorValid
namespace Go.Proofs.YtijnahflfbjgiaaDoor
open Go.RowKit
set_option linter.unusedVariables false

/-- The job at place k of an order is one, and has not come before. -/
def jobAt (xs : List (Int × Int)) (ord : List Int) (k : Nat) : Bool := inB (at_ ord k) 0 ((xs.length : Int) - 1) && !hasB (ord.take k) (at_ ord k)
def timeF (xs : List (Int × Int)) (ord : List Int) : Nat → Int
  | 0 => 0
  | k + 1 => timeF xs ord k + (at2 xs (at_ ord k).toNat).1
def lostF (xs : List (Int × Int)) (ord : List Int) : Nat → Int
  | 0 => 0
  | k + 1 => lostF xs ord k + (at2 xs (at_ ord k).toNat).2 * timeF xs ord (k + 1)
def lostOk (xs : List (Int × Int)) (ord : List Int) : Bool := jobB xs && decide (ord.length = xs.length) && decide (∀ j, j < ord.length → jobAt xs ord j = true)
def lostB (xs : List (Int × Int)) (ord : List Int) : Int := if lostOk xs ord then lostF xs ord ord.length else -1

theorem job_at {xs : List (Int × Int)} (h : jobB xs = true) (k : Nat) (hk : k < xs.length) : (1 ≤ (at2 xs k).1 ∧ (at2 xs k).1 ≤ 999) ∧ (0 ≤ (at2 xs k).2 ∧ (at2 xs k).2 ≤ 999) := by
  simp [jobB] at h
  have := h.2 (at2 xs k).1 (at2 xs k).2 (by rw [at2_eq xs k hk]; exact List.getElem_mem hk)
  exact ⟨inB_true this.1, inB_true this.2⟩
theorem job_len {xs : List (Int × Int)} (h : jobB xs = true) : xs.length ≤ 8 := by
  simp [jobB] at h
  exact h.1
theorem jobAt_in {xs : List (Int × Int)} {ord : List Int} {k : Nat} (h : jobAt xs ord k = true) : 0 ≤ at_ ord k ∧ at_ ord k < xs.length := by
  simp [jobAt] at h
  have := inB_true h.1
  omega
theorem lostOk_no {xs : List (Int × Int)} {ord : List Int} (k : Nat) (hk : k < ord.length) (h : jobAt xs ord k = false) : lostOk xs ord = false := by
  have : decide (∀ j, j < ord.length → jobAt xs ord j = true) = false := decide_eq_false fun hh => by rw [hh k hk] at h; cases h
  unfold lostOk
  rw [this]
  simp
theorem lostOk_yes {xs : List (Int × Int)} {ord : List Int} (h1 : jobB xs = true) (h2 : ord.length = xs.length) (h : ∀ j, j < ord.length → jobAt xs ord j = true) : lostOk xs ord = true := by
  have : decide (∀ j, j < ord.length → jobAt xs ord j = true) = true := decide_eq_true h
  unfold lostOk
  rw [this]
  simp [h1, h2]
theorem timeF_in {xs : List (Int × Int)} {ord : List Int} (h : jobB xs = true) (k : Nat) (hall : ∀ j, j < k → jobAt xs ord j = true) : 0 ≤ timeF xs ord k ∧ timeF xs ord k ≤ 999 * k := by
  induction k with
  | zero => simp [timeF]
  | succ k ih =>
    have := ih fun j hj => hall j (by omega)
    have h1 := jobAt_in (hall k (by omega))
    have := job_at h (at_ ord k).toNat (by omega)
    unfold timeF
    omega
theorem mul_in {a b m n : Int} (ha : 0 ≤ a ∧ a ≤ m) (hb : 0 ≤ b ∧ b ≤ n) (hn : 0 ≤ n) : 0 ≤ a * b ∧ a * b ≤ m * n := by
  refine ⟨Int.mul_nonneg ha.1 hb.1, ?_⟩
  exact Int.le_trans (Int.mul_le_mul_of_nonneg_right ha.2 hb.1) (Int.mul_le_mul_of_nonneg_left hb.2 (by omega))
theorem lostF_in {xs : List (Int × Int)} {ord : List Int} (h : jobB xs = true) (k : Nat) (hk : k ≤ 8) (hall : ∀ j, j < k → jobAt xs ord j = true) : 0 ≤ lostF xs ord k ∧ lostF xs ord k ≤ 7984008 * k := by
  induction k with
  | zero => simp [lostF]
  | succ k ih =>
    have := ih (by omega) fun j hj => hall j (by omega)
    have h1 := jobAt_in (hall k (by omega))
    have h2 := job_at h (at_ ord k).toNat (by omega)
    have h3 := timeF_in (ord := ord) h (k + 1) hall
    have h4 := mul_in h2.2 (show 0 ≤ timeF xs ord (k + 1) ∧ timeF xs ord (k + 1) ≤ 7992 by omega) (by omega)
    unfold lostF
    omega
/-- The ways through the tests of one job. -/
theorem jobAt_cases (xs : List (Int × Int)) (ord : List Int) (k : Nat) :
    (at_ ord k < 0 ∧ inB (at_ ord k) 0 ((xs.length : Int) - 1) = false ∧ jobAt xs ord k = false) ∨ (0 ≤ at_ ord k ∧ (xs.length : Int) ≤ at_ ord k ∧ inB (at_ ord k) 0 ((xs.length : Int) - 1) = false ∧ jobAt xs ord k = false) ∨
    (∃ m : Nat, at_ ord k = m ∧ m < xs.length ∧ inB (m : Int) 0 ((xs.length : Int) - 1) = true ∧ hasB (ord.take k) m = true ∧ jobAt xs ord k = false) ∨
    (∃ m : Nat, at_ ord k = m ∧ m < xs.length ∧ inB (m : Int) 0 ((xs.length : Int) - 1) = true ∧ hasB (ord.take k) m = false ∧ jobAt xs ord k = true) := by
  by_cases h0 : at_ ord k < 0
  · have : inB (at_ ord k) 0 ((xs.length : Int) - 1) = false := inB_no (.inl h0)
    exact .inl ⟨h0, this, by simp [jobAt, this]⟩
  · by_cases h1 : (xs.length : Int) ≤ at_ ord k
    · have : inB (at_ ord k) 0 ((xs.length : Int) - 1) = false := inB_no (.inr (by omega))
      exact .inr (.inl ⟨by omega, h1, this, by simp [jobAt, this]⟩)
    · obtain ⟨m, hm⟩ := Int.eq_ofNat_of_zero_le (show 0 ≤ at_ ord k by omega)
      have hin : inB (m : Int) 0 ((xs.length : Int) - 1) = true := inB_mk (by omega) (by omega)
      cases h2 : hasB (ord.take k) m
      · exact .inr (.inr (.inr ⟨m, hm, by omega, hin, h2, by unfold jobAt; rw [hm, hin, h2]; rfl⟩))
      · exact .inr (.inr (.inl ⟨m, hm, by omega, hin, h2, by unfold jobAt; rw [hm, hin, h2]; rfl⟩))
theorem lost_cases (xs : List (Int × Int)) (ord : List Int) : (jobB xs = false ∧ lostB xs ord = -1) ∨ (jobB xs = true ∧ ((ord.length : Int) != xs.length) = true ∧ lostB xs ord = -1) ∨
    (jobB xs = true ∧ ((ord.length : Int) != xs.length) = false ∧ ord.length = xs.length) := by
  cases h1 : jobB xs
  · exact .inl ⟨rfl, by simp [lostB, lostOk, h1]⟩
  · by_cases h2 : ord.length = xs.length
    · exact .inr (.inr ⟨rfl, by simp [h2], h2⟩)
    · exact .inr (.inl ⟨rfl, by simp; omega, by simp [lostB, lostOk, h2]⟩)
theorem timeF_succ {xs : List (Int × Int)} {ord : List Int} {k m : Nat} (hm : at_ ord k = m) : timeF xs ord (k + 1) = timeF xs ord k + (at2 xs m).1 := by
  show timeF xs ord k + (at2 xs (at_ ord k).toNat).1 = _
  rw [hm]
  rfl
theorem lostF_succ {xs : List (Int × Int)} {ord : List Int} {k m : Nat} (hm : at_ ord k = m) : lostF xs ord (k + 1) = lostF xs ord k + (at2 xs m).2 * (timeF xs ord k + (at2 xs m).1) := by
  rw [← timeF_succ hm]
  show lostF xs ord k + (at2 xs (at_ ord k).toNat).2 * timeF xs ord (k + 1) = _
  rw [hm]
  rfl

end Go.Proofs.YtijnahflfbjgiaaDoor
