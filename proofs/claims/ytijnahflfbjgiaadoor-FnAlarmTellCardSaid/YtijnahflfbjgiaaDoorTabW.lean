/-
  Chapter 30, alarms: the state behind an event, as the program reads it out of its table; what is built on it.
-/
import Derived.Test.YtijnahflfbjgiaaDoorTab
import Derived.Test.YtijnahflfbjgiaaDoorAlDraw
import Derived.Test.YtijnahflfbjgiaaDoorAlNextW
namespace Go.Proofs.YtijnahflfbjgiaaDoor
open Go.RowKit
set_option linter.unusedVariables false

theorem implAlarmStep_any (s e : Int) (w : World) (hT : Tab w) : Calls Tryd.prog 18 #[.int .i64 s, .int .i64 e] w fun r w' => r = .returned (.int .i64 (stepB s e)) ∧ w = w' := by
  by_cases h1 : 0 ≤ s
  · by_cases h2 : s ≤ 3
    · by_cases h3 : 0 ≤ e
      · by_cases h4 : e ≤ 2
        · have t0 := hT.cell 0 _ rfl
          have t1 := hT.cell 1 _ rfl
          have t2 := hT.cell 2 _ rfl
          have t3 := hT.cell 3 _ rfl
          have t4 := hT.cell 4 _ rfl
          have t5 := hT.cell 5 _ rfl
          have t6 := hT.cell 6 _ rfl
          have t7 := hT.cell 7 _ rfl
          have t8 := hT.cell 8 _ rfl
          have t9 := hT.cell 9 _ rfl
          have t10 := hT.cell 10 _ rfl
          have t11 := hT.cell 11 _ rfl
          obtain rfl | rfl | rfl | rfl : s = 0 ∨ s = 1 ∨ s = 2 ∨ s = 3 := by omega
          all_goals
            obtain rfl | rfl | rfl : e = 0 ∨ e = 1 ∨ e = 2 := by omega
          all_goals
            clear h1 h2 h3 h4
            go_enter Tryd.func18, Tryd.ntmps18
            go_wp2
            go_ret
            exact ⟨ret_int (by decide), rfl⟩
        · have Q := hide (show stepB s e = -1 by unfold stepB; rw [inB_no (n := e) (by omega)]; simp)
          go_enter Tryd.func18, Tryd.ntmps18
          go_wp2
          go_ret
          exact ⟨ret_int Q.out.symm, rfl⟩
      · have Q := hide (show stepB s e = -1 by unfold stepB; rw [inB_no (n := e) (by omega)]; simp)
        go_enter Tryd.func18, Tryd.ntmps18
        go_wp2
        go_ret
        exact ⟨ret_int Q.out.symm, rfl⟩
    · have Q := hide (show stepB s e = -1 by unfold stepB; rw [inB_no (n := s) (by omega)]; simp)
      go_enter Tryd.func18, Tryd.ntmps18
      go_wp2
      go_ret
      exact ⟨ret_int Q.out.symm, rfl⟩
  · have Q := hide (show stepB s e = -1 by unfold stepB; rw [inB_no (n := s) (by omega)]; simp)
    go_enter Tryd.func18, Tryd.ntmps18
    go_wp2
    go_ret
    exact ⟨ret_int Q.out.symm, rfl⟩

/-- The state behind events; -1 if there is none. -/
def runB (s : Int) (es : List Int) : Int := if inB s 0 3 then es.foldl stepB s else -1
theorem stepB_in (s e : Int) : stepB s e = -1 ∨ (0 ≤ stepB s e ∧ stepB s e ≤ 3) := by
  unfold stepB
  split
  · rename_i h
    simp only [Bool.and_eq_true] at h
    exact .inr (stepT_in (inB_true h.1))
  · exact .inl rfl
theorem stepB_neg (e : Int) : stepB (-1) e = -1 := by unfold stepB; rw [inB_no (n := (-1 : Int)) (by omega)]; rfl
theorem foldl_neg (es : List Int) : es.foldl stepB (-1) = -1 := by
  induction es with
  | nil => rfl
  | cons e es ih => rw [List.foldl_cons, stepB_neg, ih]
theorem foldl_in (s : Int) (h : s = -1 ∨ (0 ≤ s ∧ s ≤ 3)) (es : List Int) : es.foldl stepB s = -1 ∨ (0 ≤ es.foldl stepB s ∧ es.foldl stepB s ≤ 3) := by
  induction es generalizing s with
  | nil => exact h
  | cons e es ih => exact ih _ (stepB_in s e)
theorem foldl_step (s : Int) (es : List Int) (k : Nat) (hk : k < es.length) : (es.take (k + 1)).foldl stepB s = stepB ((es.take k).foldl stepB s) (at_ es k) := by
  rw [List.take_succ_eq_append_getElem hk, List.foldl_append, at_eq es k hk]
  rfl
theorem foldl_cut (s : Int) (es : List Int) (k : Nat) : (es.drop k).foldl stepB ((es.take k).foldl stepB s) = es.foldl stepB s := by
  rw [← List.foldl_append, List.take_append_drop]
theorem foldl_dead (s : Int) (es : List Int) (k : Nat) (h : (es.take k).foldl stepB s = -1) : es.foldl stepB s = -1 := by
  rw [← foldl_cut s es k, h, foldl_neg]

end Go.Proofs.YtijnahflfbjgiaaDoor
