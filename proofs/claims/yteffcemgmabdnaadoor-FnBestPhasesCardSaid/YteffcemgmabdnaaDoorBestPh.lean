/-
  Chapter 36: the best phases, as a plain function: the first of all lists, in their order, with the least imbalance. Plain definitions and lemmas, no function of the program.
-/
import Derived.Test.YteffcemgmabdnaaDoorPhases
namespace Go.Proofs.YteffcemgmabdnaaDoor
open Go.RowKit
set_option linter.unusedVariables false

/-- The last n digits of a number to the base 3, the first counts most. -/
def digs : Nat → Nat → List Int
  | 0, _ => []
  | n + 1, N => digs n (N / 3) ++ [((N % 3 : Nat) : Int)]
theorem digs_len (n N : Nat) : (digs n N).length = n := by
  induction n generalizing N with
  | zero => rfl
  | succ n ih => simp [digs, ih]
theorem digs_cons (k N : Nat) : digs (k + 1) N = (((N / 3 ^ k) % 3 : Nat) : Int) :: digs k N := by
  induction k generalizing N with
  | zero => simp [digs]
  | succ k ih =>
    rw [digs, ih, digs, List.cons_append]
    congr 2
    rw [Nat.div_div_eq_div_mul, Nat.pow_succ, Nat.mul_comm]
theorem digs_snoc (k N p : Nat) (hp : p < 3) : digs k N ++ [(p : Int)] = digs (k + 1) (3 * N + p) := by
  rw [digs]
  congr 2
  · omega
  · congr 2; omega
theorem digs_in (n N : Nat) : ∀ x ∈ digs n N, 0 ≤ x ∧ x ≤ 2 := by
  induction n generalizing N with
  | zero => intro x hx; simp [digs] at hx
  | succ n ih =>
    intro x hx
    simp only [digs, List.mem_append, List.mem_singleton] at hx
    rcases hx with hx | hx
    · exact ih _ x hx
    · omega
theorem digs_all : ∀ (n : Nat) (ys : List Int), ys.length = n → (∀ x ∈ ys, 0 ≤ x ∧ x ≤ 2) → ∃ N, N < 3 ^ n ∧ digs n N = ys := by
  intro n
  induction n with
  | zero => intro ys hl _; exact ⟨0, by simp, by simp [digs]; exact List.length_eq_zero_iff.1 hl⟩
  | succ n ih =>
    intro ys hl hy
    have hne : ys ≠ [] := by intro h; subst h; simp at hl
    obtain ⟨N, hN, he⟩ := ih ys.dropLast (by simp [hl]) (fun x hx => hy x (List.dropLast_subset _ hx))
    have hlast := hy _ (List.getLast_mem hne)
    obtain ⟨p, hp⟩ : ∃ p : Nat, ys.getLast hne = (p : Int) := ⟨(ys.getLast hne).toNat, by omega⟩
    refine ⟨3 * N + p, by rw [Nat.pow_succ]; omega, ?_⟩
    rw [← digs_snoc n N p (by omega), he, ← hp]
    exact List.dropLast_concat_getLast hne

theorem imbB_in {xs ys : List Int} (h : phOk xs ys = true) : 0 ≤ imbB xs ys ∧ imbB xs ys ≤ 5994 := by
  have ht : tapsB xs = true := by simp [phOk] at h; exact h.1.1
  have hl := taps_len ht
  have h0 := phSum_in (phases := ys) ht 0 xs.length (Nat.le_refl _)
  have h1 := phSum_in (phases := ys) ht 1 xs.length (Nat.le_refl _)
  have h2 := phSum_in (phases := ys) ht 2 xs.length (Nat.le_refl _)
  simp only [imbB, h, if_true, imb]
  omega
theorem digs_ok {xs : List Int} (h : tapsB xs = true) (N : Nat) : phOk xs (digs xs.length N) = true :=
  phOk_yes h (digs_len _ _) fun j hj => by
    have := digs_in xs.length N _ (mem_at j hj)
    exact inB_mk this.1 this.2

/-- The best of the first N lists, and its imbalance; -1 if there is none. -/
def bestU (xs : List Int) : Nat → List Int × Int
  | 0 => ([], -1)
  | N + 1 => if (bestU xs N).2 < 0 ∨ imbB xs (digs xs.length N) < (bestU xs N).2 then (digs xs.length N, imbB xs (digs xs.length N)) else bestU xs N
def bestPh (xs : List Int) : List Int := if tapsB xs then (bestU xs (3 ^ xs.length)).1 else []
theorem bestU_yes {xs : List Int} {N : Nat} (h : (bestU xs N).2 < 0 ∨ imbB xs (digs xs.length N) < (bestU xs N).2) : bestU xs (N + 1) = (digs xs.length N, imbB xs (digs xs.length N)) := by
  rw [bestU, if_pos h]
theorem bestU_no {xs : List Int} {N : Nat} (h : ¬ ((bestU xs N).2 < 0 ∨ imbB xs (digs xs.length N) < (bestU xs N).2)) : bestU xs (N + 1) = bestU xs N := by
  rw [bestU, if_neg h]
theorem bestU_inv {xs : List Int} (h : tapsB xs = true) (N : Nat) :
    (N = 0 ∧ bestU xs N = ([], -1)) ∨ (0 < N ∧ ∃ M, M < N ∧ (bestU xs N).1 = digs xs.length M ∧ (bestU xs N).2 = imbB xs (bestU xs N).1 ∧ ∀ K, K < N → (bestU xs N).2 ≤ imbB xs (digs xs.length K)) := by
  induction N with
  | zero => exact .inl ⟨rfl, rfl⟩
  | succ N ih =>
    right
    refine ⟨by omega, ?_⟩
    have hn := imbB_in (digs_ok h N)
    by_cases hc : (bestU xs N).2 < 0 ∨ imbB xs (digs xs.length N) < (bestU xs N).2
    · rw [bestU_yes hc]
      refine ⟨N, by omega, rfl, rfl, fun K hK => ?_⟩
      by_cases hKN : K = N
      · subst hKN; exact Int.le_refl _
      · rcases ih with ⟨h0, _⟩ | ⟨h0, M, hM, h1, h2, h3⟩
        · omega
        · have := h3 K (by omega)
          have hM2 := imbB_in (digs_ok h M)
          rw [← h1, ← h2] at hM2
          show imbB xs (digs xs.length N) ≤ _
          omega
    · rw [bestU_no hc]
      rcases ih with ⟨h0, h1⟩ | ⟨h0, M, hM, h1, h2, h3⟩
      · subst h0
        exact absurd (.inl (by rw [h1]; decide)) hc
      · refine ⟨M, by omega, h1, h2, fun K hK => ?_⟩
        by_cases hKN : K = N
        · subst hKN; omega
        · exact h3 K (by omega)
theorem bestU_ok {xs : List Int} (h : tapsB xs = true) (N : Nat) (hN : 0 < N) : phOk xs (bestU xs N).1 = true ∧ (bestU xs N).2 = imbB xs (bestU xs N).1 := by
  rcases bestU_inv h N with ⟨h0, _⟩ | ⟨_, M, _, h1, h2, _⟩
  · omega
  · exact ⟨by rw [h1]; exact digs_ok h M, h2⟩
theorem bestU_len {xs : List Int} (h : tapsB xs = true) (N : Nat) : (bestU xs N).1.length ≤ 6 := by
  have := taps_len h
  rcases bestU_inv h N with ⟨_, h1⟩ | ⟨_, M, _, h1, _⟩
  · rw [h1]; simp
  · rw [h1, digs_len]; exact this
theorem bestPh_len {xs : List Int} (h : tapsB xs = true) : (bestPh xs).length = xs.length := by
  rw [bestPh, if_pos h]
  rcases bestU_inv h (3 ^ xs.length) with ⟨h0, _⟩ | ⟨_, M, _, h1, _⟩
  · exact absurd h0 (Nat.ne_of_gt (Nat.pow_pos (by decide)))
  · rw [h1, digs_len]
theorem bestPh_ok {xs : List Int} (h : tapsB xs = true) : phOk xs (bestPh xs) = true := by
  rw [bestPh, if_pos h]
  exact (bestU_ok h _ (Nat.pow_pos (by decide))).1
/-- No list of phases has less. -/
theorem bestPh_least {xs ys : List Int} (h : phOk xs ys = true) : imbB xs (bestPh xs) ≤ imbB xs ys := by
  have h' := h
  simp only [phOk, Bool.and_eq_true, decide_eq_true_eq, List.all_eq_true] at h'
  obtain ⟨⟨ht, hl⟩, hy⟩ := h'
  obtain ⟨N, hN, rfl⟩ := digs_all xs.length ys hl (fun x hx => inB_true (hy x hx))
  rw [bestPh, if_pos ht]
  rcases bestU_inv ht (3 ^ xs.length) with ⟨h0, _⟩ | ⟨_, M, _, h1, h2, h3⟩
  · exact absurd h0 (Nat.ne_of_gt (Nat.pow_pos (by decide)))
  · rw [← h2]; exact h3 N hN

/-! ### phases can be made nearly equal -/
/-- The greatest of the first k loads, at least 0. -/
def mostF (xs : List Int) : Nat → Int
  | 0 => 0
  | k + 1 => max (mostF xs k) (at_ xs k)
theorem mostF_in (xs : List Int) (k : Nat) : 0 ≤ mostF xs k := by
  induction k with
  | zero => exact Int.le_refl _
  | succ k ih => unfold mostF; omega
theorem phSum_take {xs ys zs : List Int} (ph : Int) (k : Nat) (h : ∀ j, j < k → at_ ys j = at_ zs j) : phSum xs ys ph k = phSum xs zs ph k := by
  induction k with
  | zero => rfl
  | succ k ih => rw [phSum, phSum, ih (fun j hj => h j (by omega)), h k (by omega)]
theorem at_snoc_lt (ys : List Int) (a : Int) (j : Nat) (h : j < ys.length) : at_ (ys ++ [a]) j = at_ ys j := by
  simp [at_, List.getElem?_append_left h]
theorem at_snoc_eq (ys : List Int) (a : Int) : at_ (ys ++ [a]) ys.length = a := by simp [at_]
theorem phSum_snoc (xs ys : List Int) (a ph : Int) : phSum xs (ys ++ [a]) ph (ys.length + 1) = phSum xs ys ph ys.length + if a = ph then at_ xs ys.length else 0 := by
  rw [phSum, at_snoc_eq, phSum_take (zs := ys) ph ys.length (fun j hj => at_snoc_lt ys a j hj)]
theorem near {xs : List Int} (h : tapsB xs = true) (k : Nat) (hk : k ≤ xs.length) :
    ∃ ys : List Int, ys.length = k ∧ (∀ x ∈ ys, 0 ≤ x ∧ x ≤ 2) ∧ imb (phSum xs ys 0 k) (phSum xs ys 1 k) (phSum xs ys 2 k) ≤ mostF xs k := by
  induction k with
  | zero => exact ⟨[], rfl, by simp, by simp [phSum, imb, mostF]⟩
  | succ k ih =>
    obtain ⟨ys, hl, hy, hi⟩ := ih (by omega)
    have hx := taps_at h k (by omega)
    have hm := mostF_in xs k
    subst hl
    have key : ∃ a : Int, (0 ≤ a ∧ a ≤ 2) ∧ imb (phSum xs (ys ++ [a]) 0 (ys.length + 1)) (phSum xs (ys ++ [a]) 1 (ys.length + 1)) (phSum xs (ys ++ [a]) 2 (ys.length + 1)) ≤ mostF xs (ys.length + 1) := by
      simp only [phSum_snoc]
      rw [mostF]
      unfold imb at hi ⊢
      generalize phSum xs ys 0 ys.length = a at *
      generalize phSum xs ys 1 ys.length = b at *
      generalize phSum xs ys 2 ys.length = c at *
      generalize at_ xs ys.length = l at *
      generalize mostF xs ys.length = m at *
      by_cases h0 : a ≤ b ∧ a ≤ c
      · refine ⟨0, by omega, ?_⟩
        simp
        omega
      · by_cases h1 : b ≤ c
        · refine ⟨1, by omega, ?_⟩
          simp
          omega
        · refine ⟨2, by omega, ?_⟩
          simp
          omega
    obtain ⟨a, ha, hi2⟩ := key
    refine ⟨ys ++ [a], by simp, fun x hx => ?_, hi2⟩
    simp only [List.mem_append, List.mem_singleton] at hx
    rcases hx with hx | rfl
    · exact hy x hx
    · exact ha
theorem bestPh_most {xs : List Int} (h : tapsB xs = true) : imbB xs (bestPh xs) ≤ mostF xs xs.length := by
  obtain ⟨ys, hl, hy, hi⟩ := near h xs.length (Nat.le_refl _)
  have hok : phOk xs ys = true := phOk_yes h hl fun j hj => by
    have := hy _ (mem_at j hj)
    exact inB_mk this.1 this.2
  have := bestPh_least hok
  have he : imbB xs ys = imb (phSum xs ys 0 xs.length) (phSum xs ys 1 xs.length) (phSum xs ys 2 xs.length) := by simp [imbB, hok]
  omega
/-- With the phases in turn it is the same. -/
theorem phSum_turn {xs ys : List Int} (hy : ∀ x ∈ ys, 0 ≤ x ∧ x ≤ 2) (ph : Int) (hp : 0 ≤ ph ∧ ph ≤ 2) (k : Nat) (hk : k ≤ ys.length) : phSum xs (ys.map fun y => (y + 1) % 3) ((ph + 1) % 3) k = phSum xs ys ph k := by
  induction k with
  | zero => rfl
  | succ k ih =>
    rw [phSum, phSum, ih (by omega)]
    have h1 : at_ (ys.map fun y => (y + 1) % 3) k = (at_ ys k + 1) % 3 := by
      rw [at_eq _ k (by simp; omega), at_eq ys k (by omega)]; simp
    have h2 := hy _ (mem_at k (show k < ys.length by omega))
    rw [h1]
    congr 1
    by_cases he : at_ ys k = ph
    · rw [if_pos he, if_pos (by rw [he])]
    · rw [if_neg he, if_neg (by omega)]
theorem imbB_turn {xs ys : List Int} (h : phOk xs ys = true) : imbB xs (ys.map fun y => (y + 1) % 3) = imbB xs ys := by
  have h' := h
  simp only [phOk, Bool.and_eq_true, decide_eq_true_eq, List.all_eq_true] at h'
  obtain ⟨⟨ht, hl⟩, hy⟩ := h'
  have hy2 : ∀ x ∈ ys, 0 ≤ x ∧ x ≤ 2 := fun x hx => inB_true (hy x hx)
  have hok : phOk xs (ys.map fun y => (y + 1) % 3) = true := phOk_yes ht (by simp [hl]) fun j hj => by
    have hj' : j < ys.length := by simpa using hj
    have := hy2 _ (mem_at j hj')
    rw [at_eq _ j hj]
    simp only [List.getElem_map]
    exact inB_mk (by omega) (by omega)
  have e0 := phSum_turn (xs := xs) hy2 0 (by omega) xs.length (by omega)
  have e1 := phSum_turn (xs := xs) hy2 1 (by omega) xs.length (by omega)
  have e2 := phSum_turn (xs := xs) hy2 2 (by omega) xs.length (by omega)
  simp only [imbB, h, hok, if_true]
  simp only [show ((0 : Int) + 1) % 3 = 1 from rfl, show ((1 : Int) + 1) % 3 = 2 from rfl, show ((2 : Int) + 1) % 3 = 0 from rfl] at e0 e1 e2
  rw [e0, e1, e2]
  unfold imb
  omega

end Go.Proofs.YteffcemgmabdnaaDoor
