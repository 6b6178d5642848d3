/-
  The law FnAckOrder: plain facts on the order in which alarms are acknowledged.
-/
import Derived.Test.YtijnahflfbjgiaaDoorAlPlain
namespace Go.Proofs.YtijnahflfbjgiaaDoor
open Go.RowKit
set_option linter.unusedVariables false

theorem selG_len (lt : Int → Int → Bool) (base : List Int) (n k : Nat) : (selG lt base n k).length = k := by
  induction k with
  | zero => rfl
  | succ k ih => rw [show selG lt base n (k + 1) = selG lt base n k ++ [bestF lt (base ++ selG lt base n k) n] from rfl, List.length_append, ih]; rfl
theorem selG_take (lt : Int → Int → Bool) (base : List Int) (n : Nat) {k m : Nat} (h : k ≤ m) : (selG lt base n m).take k = selG lt base n k := by
  induction m with
  | zero => obtain rfl : k = 0 := by omega
            rfl
  | succ m ih =>
    by_cases hk : k = m + 1
    · subst hk
      exact List.take_of_length_le (by rw [selG_len]; omega)
    · rw [show selG lt base n (m + 1) = selG lt base n m ++ [bestF lt (base ++ selG lt base n m) n] from rfl, List.take_append_of_le_length (by rw [selG_len]; omega)]
      exact ih (by omega)
theorem selG_at (lt : Int → Int → Bool) (base : List Int) (n : Nat) {k m : Nat} (h : k < m) : at_ (selG lt base n m) k = bestF lt (base ++ selG lt base n k) n := by
  have h1 := selG_take lt base n (show k + 1 ≤ m from h)
  have h2 : at_ ((selG lt base n m).take (k + 1)) k = at_ (selG lt base n m) k := by
    rw [at_eq _ k (by rw [List.length_take, selG_len]; omega), at_eq _ k (by rw [selG_len]; omega), List.getElem_take]
  rw [← h2, h1, show selG lt base n (k + 1) = selG lt base n k ++ [bestF lt (base ++ selG lt base n k) n] from rfl, at_eq _ k (by rw [List.length_append, selG_len]; simp), List.getElem_append_right (by rw [selG_len]; omega)]
  simp [selG_len]
/-- What holds of the k-th in the order. -/
theorem ack_at {xs : List (Int × Int × Int)} (hv : alarmB xs = true) (k : Nat) (hk : k < (ackL xs).length) :
    ∃ i : Nat, at_ (ackL xs) k = i ∧ i < xs.length ∧ (ackL xs).take (k + 1) = (ackL xs).take k ++ [(i : Int)] ∧ ∀ t ys, Ackd t xs ((ackL xs).take k) ys → nextB ys = i := by
  have hl := ackL_len hv
  have hA : ackL xs = selG (alLt xs) (seenK xs xs.length) xs.length (unseenK xs xs.length).length := by rw [ackL, if_pos hv]
  rw [hl] at hk
  have h1 := selG_next (al_tr (xs := xs)) _ _ (unseenK_nodup xs xs.length) (el_mem _ _) k hk
  obtain ⟨⟨h2, h3⟩, _⟩ := (unseenK_mem _ _ _).1 h1.1
  obtain ⟨i, hi⟩ := Int.eq_ofNat_of_zero_le h2
  refine ⟨i, ?_, by omega, ?_, fun t ys h => ?_⟩
  · rw [hA, selG_at _ _ _ hk]
    exact hi
  · rw [hA, selG_take _ _ _ (show k + 1 ≤ _ from hk), selG_take _ _ _ (Nat.le_of_lt hk)]
    rw [← hi]
    rfl
  · rw [hA, selG_take _ _ _ (Nat.le_of_lt hk)] at h
    rw [h.nextB]
    exact hi
theorem ack_rank {xs : List (Int × Int × Int)} (hv : alarmB xs = true) (k i j : Nat) (hk : k + 1 < (ackL xs).length) (hi : at_ (ackL xs) k = i) (hj : at_ (ackL xs) (k + 1) = j) : decide ((at3 xs i).1 < (at3 xs j).1) = false := by
  have hl := ackL_len hv
  have hA : ackL xs = selG (alLt xs) (seenK xs xs.length) xs.length (unseenK xs xs.length).length := by rw [ackL, if_pos hv]
  have hp := (selG_inv (al_tr (xs := xs)) _ _ (unseenK_nodup xs xs.length) (el_mem _ _) _ (Nat.le_refl _)).2.2.2.1
  rw [← hA] at hp
  have := List.pairwise_iff_getElem.1 hp k (k + 1) (by omega) hk (by omega)
  rw [← at_eq _ k (by omega), ← at_eq _ (k + 1) hk, hi, hj] at this
  obtain ⟨_, _, h⟩ := this
  simp only [alLt, Int.toNat_natCast, decide_eq_true_eq, decide_eq_false_iff_not] at h ⊢
  omega
theorem ack_end {xs : List (Int × Int × Int)} (hv : alarmB xs = true) {t : Int} {ys : List (Int × Int × Int)} (h : Ackd t xs (ackL xs) ys) : nextB ys = -1 := by
  have hA : ackL xs = selG (alLt xs) (seenK xs xs.length) xs.length (unseenK xs xs.length).length := by rw [ackL, if_pos hv]
  rw [h.nextB, hA]
  exact selG_end (al_tr (xs := xs)) _ _ (unseenK_nodup xs xs.length) (el_mem _ _)

end Go.Proofs.YtijnahflfbjgiaaDoor
