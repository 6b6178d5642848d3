/-
  Chapter 30, alarms: the state behind an event, as the program reads it out of its table; what is built on it.
-/
import Derived.Test.YteffcemgmabdnaaDoorTab
import Derived.Test.YteffcemgmabdnaaDoorAlDraw
import Derived.Test.YteffcemgmabdnaaDoorAlNextW
namespace Go.Proofs.YteffcemgmabdnaaDoor
open Go.RowKit
set_option linter.unusedVariables false

theorem implAlarmStep_any (s e : Int) (w : World) (hT : Tab w) : Calls Tryd.prog 24 #[.int .i64 s, .int .i64 e] w fun r w' => r = .returned (.int .i64 (stepB s e)) ∧ w = w' := by
  by_cases h1 : 0 ≤ s
  · by_cases h2 : s ≤ 3
    · by_cases h3 : 0 ≤ e
      · by_cases h4 : e ≤ 2
        · have t0 := hT.cell 0 _ rfl
          have t1 := hT.cell 1 _ rfl
          have t2 := hT.cell 2 _ rfl
          have t3 := hT.cell 3 _ rfl
          have t4 := hT.cell 4 _ rfl
          have t5 := hT.cell 5 _ rfl
          have t6 := hT.cell 6 _ rfl
          have t7 := hT.cell 7 _ rfl
          have t8 := hT.cell 8 _ rfl
          have t9 := hT.cell 9 _ rfl
          have t10 := hT.cell 10 _ rfl
          have t11 := hT.cell 11 _ rfl
          obtain rfl | rfl | rfl | rfl : s = 0 ∨ s = 1 ∨ s = 2 ∨ s = 3 := by omega
          all_goals
            obtain rfl | rfl | rfl : e = 0 ∨ e = 1 ∨ e = 2 := by omega
          all_goals
            clear h1 h2 h3 h4
            go_enter Tryd.func24, Tryd.ntmps24
            go_wp2
            go_ret
            exact ⟨ret_int (by decide), rfl⟩
        · have Q := hide (show stepB s e = -1 by unfold stepB; rw [inB_no (n := e) (by omega)]; simp)
          go_enter Tryd.func24, Tryd.ntmps24
          go_wp2
          go_ret
          exact ⟨ret_int Q.out.symm, rfl⟩
      · have Q := hide (show stepB s e = -1 by unfold stepB; rw [inB_no (n := e) (by omega)]; simp)
        go_enter Tryd.func24, Tryd.ntmps24
        go_wp2
        go_ret
        exact ⟨ret_int Q.out.symm, rfl⟩
    · have Q := hide (show stepB s e = -1 by unfold stepB; rw [inB_no (n := s) (by omega)]; simp)
      go_enter Tryd.func24, Tryd.ntmps24
      go_wp2
      go_ret
      exact ⟨ret_int Q.out.symm, rfl⟩
  · have Q := hide (show stepB s e = -1 by unfold stepB; rw [inB_no (n := s) (by omega)]; simp)
    go_enter Tryd.func24, Tryd.ntmps24
    go_wp2
    go_ret
    exact ⟨ret_int Q.out.symm, rfl⟩

/-- The state behind events; -1 if there is none. -/
def runB (s : Int) (es : List Int) : Int := if inB s 0 3 then es.foldl stepB s else -1
theorem stepB_in (s e : Int) : stepB s e = -1 ∨ (0 ≤ stepB s e ∧ stepB s e ≤ 3) := by
  unfold stepB
  split
  · rename_i h
    simp only [Bool.and_eq_true] at h
    exact .inr (stepT_in (inB_true h.1))
  · exact .inl rfl
theorem stepB_neg (e : Int) : stepB (-1) e = -1 := by unfold stepB; rw [inB_no (n := (-1 : Int)) (by omega)]; rfl
theorem foldl_neg (es : List Int) : es.foldl stepB (-1) = -1 := by
  induction es with
  | nil => rfl
  | cons e es ih => rw [List.foldl_cons, stepB_neg, ih]
theorem foldl_in (s : Int) (h : s = -1 ∨ (0 ≤ s ∧ s ≤ 3)) (es : List Int) : es.foldl stepB s = -1 ∨ (0 ≤ es.foldl stepB s ∧ es.foldl stepB s ≤ 3) := by
  induction es generalizing s with
  | nil => exact h
  | cons e es ih => exact ih _ (stepB_in s e)
theorem foldl_step (s : Int) (es : List Int) (k : Nat) (hk : k < es.length) : (es.take (k + 1)).foldl stepB s = stepB ((es.take k).foldl stepB s) (at_ es k) := by
  rw [List.take_succ_eq_append_getElem hk, List.foldl_append, at_eq es k hk]
  rfl
theorem foldl_cut (s : Int) (es : List Int) (k : Nat) : (es.drop k).foldl stepB ((es.take k).foldl stepB s) = es.foldl stepB s := by
  rw [← List.foldl_append, List.take_append_drop]
theorem foldl_dead (s : Int) (es : List Int) (k : Nat) (h : (es.take k).foldl stepB s = -1) : es.foldl stepB s = -1 := by
  rw [← foldl_cut s es k, h, foldl_neg]

theorem implAlarmRun_any (s : Int) (A : Option Addr) (c : Nat) (es : List Int) (w : World) (h : Sl w w.heap.size 1 A es.length (encI es)) (hm : es.length ≤ 1048576) (hT : Tab w) :
    Calls Tryd.prog 12 #[.int .i64 s, .slice A es.length c] w fun r w' => r = .returned (.int .i64 (runB s es)) ∧ w = w' := by
  by_cases h1 : 0 ≤ s
  · by_cases h2 : s ≤ 3
    · have Q := hide (show runB s es = es.foldl stepB s by unfold runB; rw [inB_mk h1 h2]; rfl)
      have HIn := hide (And.intro h1 h2)
      have HT := hide hT
      go_enter Tryd.func12, Tryd.ntmps12
      go_wp2_with fail
      clear h1 h2
      go_loopw [0, 15] (fun st i wr => ∃ k : Nat, k ≤ es.length ∧ i = .int .i64 k ∧ st = .int .i64 ((es.take k).foldl stepB s) ∧ (0 ≤ (es.take k).foldl stepB s ∧ (es.take k).foldl stepB s ≤ 3) ∧ wr = w) (fun _ i _ => es.length - (intOf i).toNat)
      case atStart => exact ⟨0, Nat.zero_le _, rfl, rfl, HIn.out, rfl⟩
      case round =>
        obtain ⟨k, hk, rfl, rfl, hin, rfl⟩ := hrel
        have HI := hide hin
        clear hin
        by_cases hlt : k < es.length
        · obtain ⟨b, off, rfl, hb, hc⟩ := h.int k hlt
          have k0 : (0 : Int) ≤ k := by omega
          have k1 : (k : Int) < es.length := by omega
          have HS := hide (foldl_step s es k hlt)
          have hsi := stepB_in ((es.take k).foldl stepB s) (at_ es k)
          generalize hcur : (es.take k).foldl stepB s = cur at *
          rcases hsi with hsi | hsi
          · have hd : decide (stepB cur (at_ es k) < 0) = true := by rw [hsi]; decide
            have HD := hide (foldl_dead s es (k + 1) (by rw [HS.out, hsi]))
            clear hsi
            go_wp2_with ((go_at_call 24; refine (implAlarmStep_any _ _ _ HT.out).mono ?_; rintro _ w' ⟨rfl, rfl⟩))
            go_ret
            exact ⟨ret_int (by rw [Q.out, HD.out]), rfl⟩
          · have hd : decide (stepB cur (at_ es k) < 0) = false := by simp; omega
            have HSI := hide hsi
            clear hsi
            go_wp2_with ((go_at_call 24; refine (implAlarmStep_any _ _ _ HT.out).mono ?_; rintro _ w' ⟨rfl, rfl⟩))
            go_roundw
            case rel => exact ⟨k + 1, by omega, by go_num, by rw [HS.out], by rw [HS.out]; exact HSI.out, by first | rfl | trivial⟩
            case measure => simp [intOf]; omega
        · obtain rfl : k = es.length := by omega
          go_wp2_with fail
          go_ret
          exact ⟨ret_int (by rw [Q.out, List.take_length]), rfl⟩
    · have Q := hide (show runB s es = -1 by unfold runB; rw [inB_no (n := s) (by omega)]; rfl)
      go_enter Tryd.func12, Tryd.ntmps12
      go_wp2_with fail
      go_ret
      exact ⟨ret_int Q.out.symm, rfl⟩
  · have Q := hide (show runB s es = -1 by unfold runB; rw [inB_no (n := s) (by omega)]; rfl)
    go_enter Tryd.func12, Tryd.ntmps12
    go_wp2_with fail
    go_ret
    exact ⟨ret_int Q.out.symm, rfl⟩

theorem specAlarmRun_any (s : Int) (A : Option Addr) (c : Nat) (es : List Int) (w : World) (h : Sl w w.heap.size 1 A es.length (encI es)) (hm : es.length ≤ 1048576) :
    Calls Tryd.prog 13 #[.int .i64 s, .slice A es.length c] w fun r w' => r = .returned (.int .i64 (runB s es)) ∧ w = w' := by
  cases h1 : inB s 0 3
  · have Q := hide (show runB s es = -1 by unfold runB; rw [h1]; rfl)
    go_enter Tryd.func13, Tryd.ntmps13
    go_wp2_with ((go_at_call 45; refine (l1In_any _ _ _ _).mono ?_; rintro _ w' ⟨rfl, rfl⟩))
    go_ret
    exact ⟨ret_int Q.out.symm, rfl⟩
  · have Q := hide (show runB s es = es.foldl stepB s by unfold runB; rw [h1]; rfl)
    go_enter Tryd.func13, Tryd.ntmps13
    go_wp2_with ((go_at_call 45; refine (l1In_any _ _ _ _).mono ?_; rintro _ w' ⟨rfl, rfl⟩))
    go_loopw [0, 5] (fun st i wr => ∃ k : Nat, k ≤ es.length ∧ i = .int .i64 k ∧ st = .int .i64 ((es.take k).foldl stepB s) ∧ wr = w) (fun _ i _ => es.length - (intOf i).toNat)
    case atStart => exact ⟨0, Nat.zero_le _, rfl, rfl, rfl⟩
    case round =>
      obtain ⟨k, hk, rfl, rfl, rfl⟩ := hrel
      by_cases hlt : k < es.length
      · obtain ⟨b, off, rfl, hb, hc⟩ := h.int k hlt
        have k0 : (0 : Int) ≤ k := by omega
        have k1 : (k : Int) < es.length := by omega
        have HS := hide (foldl_step s es k hlt)
        go_wp2_with ((go_at_call 46; refine (specAlarmStep_any _ _ _).mono ?_; rintro _ w' ⟨rfl, rfl⟩))
        go_roundw
        case rel => exact ⟨k + 1, by omega, by go_num, by rw [HS.out], by first | rfl | trivial⟩
        case measure => simp [intOf]; omega
      · obtain rfl : k = es.length := by omega
        go_wp2_with fail
        go_ret
        exact ⟨ret_int (by rw [Q.out, List.take_length]), rfl⟩

end Go.Proofs.YteffcemgmabdnaaDoor
