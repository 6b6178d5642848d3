/-
  Chapter 35, the order in which jobs are done: the library's sort of the program and the selection of the reference come to the same order.
-/
import Derived.Test.YtijnahflfbjgiaaDoorJobs
import Derived.Test.YtijnahflfbjgiaaDoorSort
import Derived.IntWalk
namespace Go.Proofs.YtijnahflfbjgiaaDoor
open Go.RowKit
set_option linter.unusedVariables false

/-- Job a is done before job b. -/
def jobLt (xs : List (Int × Int)) (a b : Int) : Bool := decide ((at2 xs a.toNat).1 * (at2 xs b.toNat).2 < (at2 xs b.toNat).1 * (at2 xs a.toNat).2)

theorem le_trans_ratio {ta la tb lb tc lc : Int} (ha : 1 ≤ ta) (hb : 1 ≤ tb) (hc : 1 ≤ tc) (h1 : ta * lb ≤ tb * la) (h2 : tb * lc ≤ tc * lb) : ta * lc ≤ tc * la := by
  have g1 : tc * (ta * lb) ≤ tc * (tb * la) := Int.mul_le_mul_of_nonneg_left h1 (by omega)
  have g2 : ta * (tb * lc) ≤ ta * (tc * lb) := Int.mul_le_mul_of_nonneg_left h2 (by omega)
  have e1 : tc * (ta * lb) = ta * (tc * lb) := by rw [Int.mul_left_comm]
  have e2 : ta * (tb * lc) = tb * (ta * lc) := by rw [Int.mul_left_comm]
  have e3 : tc * (tb * la) = tb * (tc * la) := by rw [Int.mul_left_comm]
  have g3 : tb * (ta * lc) ≤ tb * (tc * la) := by omega
  exact Int.le_of_mul_le_mul_left g3 (by omega)
theorem lt_trans_ratio {ta la tb lb tc lc : Int} (ha : 1 ≤ ta) (hb : 1 ≤ tb) (hc : 1 ≤ tc) (h1 : ta * lb ≤ tb * la) (h2 : tb * lc ≤ tc * lb) (h : ta * lb < tb * la ∨ tb * lc < tc * lb) : ta * lc < tc * la := by
  have e1 : tc * (ta * lb) = ta * (tc * lb) := by rw [Int.mul_left_comm]
  have e2 : ta * (tb * lc) = tb * (ta * lc) := by rw [Int.mul_left_comm]
  have e3 : tc * (tb * la) = tb * (tc * la) := by rw [Int.mul_left_comm]
  have g1 : tc * (ta * lb) ≤ tc * (tb * la) := Int.mul_le_mul_of_nonneg_left h1 (by omega)
  have g2 : ta * (tb * lc) ≤ ta * (tc * lb) := Int.mul_le_mul_of_nonneg_left h2 (by omega)
  have g3 : tb * (ta * lc) < tb * (tc * la) := by
    rcases h with h | h
    · have : tc * (ta * lb) < tc * (tb * la) := Int.mul_lt_mul_of_pos_left h (by omega)
      omega
    · have : ta * (tb * lc) < ta * (tc * lb) := Int.mul_lt_mul_of_pos_left h (by omega)
      omega
  exact Int.lt_of_mul_lt_mul_left g3 (by omega)
theorem job_rel {xs : List (Int × Int)} {a b : Int} (h : Rel (jobLt xs) xs.length a b) : (at2 xs a.toNat).1 * (at2 xs b.toNat).2 ≤ (at2 xs b.toNat).1 * (at2 xs a.toNat).2 ∧ ((at2 xs a.toNat).1 * (at2 xs b.toNat).2 < (at2 xs b.toNat).1 * (at2 xs a.toNat).2 ∨ a < b) := by
  obtain ⟨_, _, h | ⟨h1, h2⟩⟩ := h
  · have : (at2 xs a.toNat).1 * (at2 xs b.toNat).2 < (at2 xs b.toNat).1 * (at2 xs a.toNat).2 := by simpa [jobLt] using h
    exact ⟨by omega, .inl this⟩
  · have : ¬ (at2 xs b.toNat).1 * (at2 xs a.toNat).2 < (at2 xs a.toNat).1 * (at2 xs b.toNat).2 := by simpa [jobLt] using h1
    exact ⟨by omega, .inr h2⟩
theorem job_tr {xs : List (Int × Int)} (hv : jobB xs = true) (a b c : Int) (h1 : Rel (jobLt xs) xs.length a b) (h2 : Rel (jobLt xs) xs.length b c) : Rel (jobLt xs) xs.length a c := by
  obtain ⟨p1, p2⟩ := job_rel h1
  obtain ⟨q1, q2⟩ := job_rel h2
  have ha := h1.1
  have hb := h1.2.1
  have hc := h2.2.1
  have ta := (job_at hv a.toNat (by omega)).1.1
  have tb := (job_at hv b.toNat (by omega)).1.1
  have tc := (job_at hv c.toNat (by omega)).1.1
  refine ⟨ha, hc, ?_⟩
  have hle := le_trans_ratio ta tb tc p1 q1
  by_cases hs : (at2 xs a.toNat).1 * (at2 xs b.toNat).2 < (at2 xs b.toNat).1 * (at2 xs a.toNat).2 ∨ (at2 xs b.toNat).1 * (at2 xs c.toNat).2 < (at2 xs c.toNat).1 * (at2 xs b.toNat).2
  · left
    have := lt_trans_ratio ta tb tc p1 q1 hs
    simpa [jobLt] using this
  · right
    refine ⟨by simp [jobLt]; omega, ?_⟩
    have h3 : a < b := by
      rcases p2 with p2 | p2
      · exact absurd (.inl p2) hs
      · exact p2
    have h4 : b < c := by
      rcases q2 with q2 | q2
      · exact absurd (.inr q2) hs
      · exact q2
    omega
theorem job_asy {xs : List (Int × Int)} (a b : Int) (h1 : Rel (jobLt xs) xs.length a b) (h2 : Rel (jobLt xs) xs.length b a) : False := by
  obtain ⟨p1, p2⟩ := job_rel h1
  obtain ⟨q1, q2⟩ := job_rel h2
  omega
/-- The order of the jobs; none for jobs that are not valid. -/
def bestJobs (xs : List (Int × Int)) : List Int := if jobB xs then selF (jobLt xs) xs.length xs.length else []
theorem bestJobs_len {xs : List (Int × Int)} (h : jobB xs = true) : (bestJobs xs).length = xs.length := by
  unfold bestJobs
  rw [if_pos h]
  exact (sel_inv (job_tr h) xs.length (Nat.le_refl _)).1
def BJ (xs : List (Int × Int)) (ord : List Int) : Prop := ord = bestJobs xs
theorem BJ_unique {xs : List (Int × Int)} {a b : List Int} (ha : BJ xs a) (hb : BJ xs b) : a = b := by rw [ha, hb]
theorem BJ_len {xs : List (Int × Int)} {a : List Int} (ha : BJ xs a) : a.length ≤ 8 := by
  rw [ha]
  unfold bestJobs
  split
  · next h =>
    rw [(sel_inv (job_tr h) xs.length (Nat.le_refl _)).1]
    exact job_len h
  · simp

/-! ### the library's comparing and sorting -/
def cmpI (a b : Int) : Int := if a < b then -1 else if b < a then 1 else 0

theorem isNaN_any (a : Int) (w : World) : Calls Tryd.prog 97 #[.int .i64 a] w fun e w' => e = .returned (.bool false) ∧ w = w' := by
  go_enter Tryd.func97, Tryd.ntmps97
  go_wp2
  go_ret
  exact ⟨rfl, rfl⟩

theorem cmpCompare_any (a b : Int) (w : World) : Calls Tryd.prog 64 #[.int .i64 a, .int .i64 b] w fun e w' => e = .returned (.int .i64 (cmpI a b)) ∧ w = w' := by
  have hc : a < b ∨ ¬ a < b ∧ b < a ∨ ¬ a < b ∧ ¬ b < a := by omega
  rcases hc with h | ⟨h1, h2⟩ | ⟨h1, h2⟩
  all_goals
    go_enter Tryd.func64, Tryd.ntmps64
    go_wp2_with ((go_at_call 97; refine (isNaN_any _ _).mono ?_; rintro e w' ⟨rfl, rfl⟩))
    go_ret
    exact ⟨ret_int (by unfold cmpI; (repeat' split) <;> omega), rfl⟩

/-- A call that only reads. -/
def Quiet (v : Value) (w : World) (e : Ending) (w' : World) : Prop := e = .returned v ∧ ∃ n, w' = w.drewN n

theorem quiet_drew {P : Program} {f : FuncId} {args : Array Value} {w : World} {n : Nat} {v : Value} (h : Calls P f args (w.drewN n) (Quiet v (w.drewN n))) : Calls P f args (w.drewN n) fun e w'' => e = .returned v ∧ ∃ m, w'' = w.drewN m :=
  h.mono fun _ _ ⟨he, m, hm⟩ => ⟨he, n + m, by rw [hm, World.drewN_drewN]⟩

theorem jobLt_cmp (xs : List (Int × Int)) (a b : Nat) : jobLt xs a b = decide (cmpI ((at2 xs a).1 * (at2 xs b).2) ((at2 xs b).1 * (at2 xs a).2) < 0) := by
  unfold jobLt cmpI
  simp only [Int.toNat_natCast]
  rw [decide_eq_decide]
  (repeat' split) <;> omega

theorem swapL_at (l : List Int) (j : Nat) (hj : j + 1 < l.length) : ((encI l).set (j + 1) (.int .i64 (at_ l j))).set j (.int .i64 (at_ l (j + 1))) = encI (swapL l (j + 1)) := by
  simp [encI, swapL, List.map_set]
theorem swapL_dom {l : List Int} {P : Int → Prop} {j : Nat} (hj : j + 1 < l.length) (h : ∀ x ∈ l, P x) : ∀ x ∈ swapL l (j + 1), P x := by
  intro x hx
  unfold swapL at hx
  have h1 := List.mem_or_eq_of_mem_set hx
  rcases h1 with h1 | rfl
  · have h2 := List.mem_or_eq_of_mem_set h1
    rcases h2 with h2 | rfl
    · exact h x h2
    · exact h _ (mem_at _ (by simp; omega))
  · exact h _ (mem_at _ hj)

end Go.Proofs.YtijnahflfbjgiaaDoor
