/-
  Chapter 30, the alarm that is looked at next: the program's function; and small functions of the laws.
-/
import Derived.Test.YtijnahflfbjgiaaDoorAckS
namespace Go.Proofs.YtijnahflfbjgiaaDoor
open Go.RowKit
set_option linter.unusedVariables false

theorem selG_head {lt : Int → Int → Bool} {base : List Int} {n : Nat} (k : Nat) : at_ (selG lt base n (k + 1)) 0 = bestF lt (base ++ []) n ∧ (selG lt base n (k + 1)).length = k + 1 := by
  induction k with
  | zero => exact ⟨rfl, rfl⟩
  | succ k ih =>
    have hu : selG lt base n (k + 1 + 1) = selG lt base n (k + 1) ++ [bestF lt (base ++ selG lt base n (k + 1)) n] := rfl
    rw [hu]
    refine ⟨?_, by simp [ih.2]⟩
    rw [← ih.1]
    have hl := ih.2
    unfold at_
    rw [List.getD_eq_getElem?_getD, List.getD_eq_getElem?_getD, List.getElem?_append_left (by omega)]
theorem next_nil {xs : List (Int × Int × Int)} (h : ackL xs = []) : nextB xs = -1 := by
  cases hv : alarmB xs
  · simp [nextB, hv]
  · have hl := ackL_len hv
    rw [h] at hl
    have := selG_end (lt := alLt xs) (n := xs.length) al_tr (seenK xs xs.length) (unseenK xs xs.length) (unseenK_nodup _ _) (el_mem _ _)
    rw [← hl] at this
    rw [nextB, if_pos hv, nextF]
    simpa [selG] using this
theorem next_head {xs : List (Int × Int × Int)} (h : 0 < (ackL xs).length) : nextB xs = at_ (ackL xs) 0 := by
  cases hv : alarmB xs
  · simp [ackL, hv] at h
  · have hl := ackL_len hv
    rw [nextB, if_pos hv, nextF, ackL, if_pos hv]
    obtain ⟨k, hk⟩ : ∃ k, (unseenK xs xs.length).length = k + 1 := ⟨(unseenK xs xs.length).length - 1, by omega⟩
    rw [hk, (selG_head k).1, List.append_nil]

theorem implAlarmNext_any (A : Option Addr) (c : Nat) (xs : List (Int × Int × Int)) (w : World) (h : Sl w w.heap.size 3 A xs.length (enc3 xs)) (hm : xs.length ≤ 1048576) :
    Calls Tryd.prog 24 #[.slice A xs.length c] w fun e w' => e = .returned (.int .i64 (nextB xs)) ∧ Below w.heap.size w w' := by
  go_enter Tryd.func24, Tryd.ntmps24
  go_wp2_with fail
  refine (implAckOrder_any _ _ _ _ h hm).mono ?_
  rintro e w1 ⟨r, D, d, hR, rfl, ho, hb1⟩
  obtain rfl : r = ackL xs := hR
  have K1 := hide hb1
  clear hb1
  by_cases h0 : (ackL xs).length = 0
  · have hz : (((ackL xs).length : Int) == 0) = true := by simp [h0]
    have HN := hide (next_nil (List.eq_nil_of_length_eq_zero h0))
    clear h0 ho
    go_wp2_with fail
    go_ret
    exact ⟨ret_int HN.out.symm, K1.out⟩
  · have hz : (((ackL xs).length : Int) == 0) = false := by simp; intro h; simp [h] at h0
    have HN := hide (next_head (xs := xs) (by omega))
    obtain ⟨g, c', hv, hg, hg2⟩ := ho.form (by omega)
    cases hv
    have hc := ho.cellAt 0 (by omega)
    rw [encI_at (ackL xs) 0 (by omega)] at hc
    have hp : (0 : Int) < (ackL xs).length := by omega
    clear h0 ho
    go_wp2_with fail
    go_ret
    exact ⟨ret_int HN.out.symm, K1.out⟩

theorem lawUnseen_any (p : Int × Int × Int) (w : World) : Calls Tryd.prog 25 #[.int .i64 p.2.1] w fun e w' => e = .returned (.bool (unseen p)) ∧ w = w' := by
  rcases unseen_cases2 p with ⟨u, s1, s2⟩ | ⟨u, s1⟩ | ⟨u, s1, s2⟩
  all_goals
    have U := hide u
    clear u
    go_enter Tryd.func25, Tryd.ntmps25
    go_wp2
    go_ret
    exact ⟨ret_bool U.out.symm, rfl⟩

theorem lawUnseen_eq (p : Int × Int × Int) (b : Bool) (h : unseen p = b) (w : World) : Calls Tryd.prog 25 #[.int .i64 p.2.1] w fun e w' => e = .returned (.bool b) ∧ w = w' := by
  subst h
  exact lawUnseen_any p w

/-- No alarm that nobody has acknowledged comes before the next one. -/
theorem next_best {xs : List (Int × Int × Int)} (hv : alarmB xs = true) (k : Nat) (hk : k < xs.length) (hu : unseen (at3 xs k) = true) : ∃ m : Nat, nextB xs = m ∧ m < xs.length ∧ alLt xs k m = false := by
  rcases best_inv (lt := alLt xs) al_tr (seenK xs xs.length) xs.length (Nat.le_refl _) with ⟨h1, h2⟩ | ⟨h1, h2, h3, h4⟩
  · exfalso
    have := ((seenK_mem _ _ _).1 (h2 k hk)).2
    rw [Int.toNat_natCast, hu] at this
    cases this
  · obtain ⟨m, hm⟩ := Int.eq_ofNat_of_zero_le h1
    refine ⟨m, by rw [nextB, if_pos hv, nextF, hm], by omega, ?_⟩
    have hns : (k : Int) ∉ seenK xs xs.length := fun h => by
      have := ((seenK_mem _ _ _).1 h).2
      rw [Int.toNat_natCast, hu] at this
      cases this
    cases hc : alLt xs k m
    · rfl
    · exfalso
      by_cases hkm : (k : Int) = m
      · rw [hkm] at hc
        simp [alLt] at hc
      · have h5 := h4 k hk hns (by rw [hm]; exact hkm)
        rw [hm] at h5
        exact al_asy _ _ h5 ⟨⟨by omega, by omega⟩, ⟨by omega, by omega⟩, .inl hc⟩
theorem next_unseen {xs : List (Int × Int × Int)} (hv : alarmB xs = true) : nextB xs = -1 ∨ ∃ m : Nat, nextB xs = m ∧ m < xs.length ∧ unseen (at3 xs m) = true := by
  rcases best_inv (lt := alLt xs) al_tr (seenK xs xs.length) xs.length (Nat.le_refl _) with ⟨h1, h2⟩ | ⟨h1, h2, h3, h4⟩
  · exact .inl (by rw [nextB, if_pos hv, nextF, h1])
  · obtain ⟨m, hm⟩ := Int.eq_ofNat_of_zero_le h1
    refine .inr ⟨m, by rw [nextB, if_pos hv, nextF, hm], by omega, ?_⟩
    cases hu : unseen (at3 xs m)
    · exact absurd ((seenK_mem xs xs.length m).2 ⟨⟨by omega, by omega⟩, hu⟩) (by rw [← hm]; exact h3)
    · rfl

end Go.Proofs.YtijnahflfbjgiaaDoor
