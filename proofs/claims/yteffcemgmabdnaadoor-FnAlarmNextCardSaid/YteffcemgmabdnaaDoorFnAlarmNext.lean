/-
  The law FnAlarmNext over drawn alarms: the walk.
-/
import Derived.Test.YteffcemgmabdnaaDoorAlDraw
import Derived.Test.YteffcemgmabdnaaDoorAlNextW
namespace Go.Proofs.YteffcemgmabdnaaDoor
open Go.RowKit
set_option linter.unusedVariables false

set_option maxRecDepth 8000 in
set_option maxHeartbeats 4000000 in
theorem fnAlarmNext_walk (A0 : Option Addr) (c0 : Nat) (x0 : List Int) (w : World) (l0 : x0.length ≤ c0) (m0 : c0 ≤ maxLen) (s0 : Sl w w.heap.size 1 A0 x0.length (encU x0)) (i0 : ∀ n ∈ x0, 0 ≤ n ∧ n ≤ 255) :
    Calls Tryd.prog 9 #[.slice A0 x0.length c0] w fun e w' => e = .returned (.bool true) ∧ Below w.heap.size w w' := by
  have hm2 := m0
  unfold maxLen at m0
  by_cases hm : x0.length ≤ 1048576
  · have HC := hide (DrawAlarmNext_any A0 c0 x0 w s0 l0 hm2 i0)
    clear i0 s0
    go_enter Tryd.func9, Tryd.ntmps9
    go_wp2_with fail
    refine HC.out.mono ?_
    rintro e w1 ⟨xs, D, d, hl, hxr, rfl, hox, hb1⟩
    have K := hide hb1
    have HX := hide hox
    clear hb1 HC hxr hox
    go_wp2_with fail
    refine (implAlarmNext_any _ _ _ _ (Sl.of_own HX.out) (by omega)).mono ?_
    rintro e w2 ⟨rfl, hb2⟩
    have X2 := hide (HX.out.keepB hb2)
    have K2 := hide (K.out.then hb2)
    clear hb2
    go_wp2_with fail
    refine (specAlarmNext_any _ _ _ _ (Sl.of_own X2.out) (by omega)).mono ?_
    rintro e w3 ⟨rfl, nn, rfl⟩
    have X3 : Hid ((w2.drewN nn).ownsRow w.heap.size 41 3 (.slice D xs.length d) xs.length (enc3 xs)) := hide (own_mono X2.out (by have := K.out.size; omega))
    have K3 := hide (below_drewN K2.out nn)
    go_wp2_with fail
    refine (specAlarmsValid_any _ _ _ _ (Sl.of_own X3.out) (by omega)).mono ?_
    rintro e w4 ⟨rfl, rfl⟩
    cases hv : alarmB xs
    · have HN := hide (show nextB xs = -1 by simp [nextB, hv])
      rw [HN.out]
      clear hv
      go_wp2_with fail
      refine (alive_any _).mono ?_
      rintro e w6 ⟨rfl, hb6⟩
      have K6 := hide (K3.out.then hb6)
      clear hb6
      go_wp2_with fail
      go_ret
      exact ⟨rfl, K6.out⟩
    · have HV := hide hv
      clear hv
      go_wp2_with fail
      go_loopw [5] (fun i wr => ∃ k n : Nat, k ≤ xs.length ∧ i = .int .i64 k ∧ wr = w2.drewN n) (fun i _ => xs.length - (intOf i).toNat)
      case atStart => exact ⟨0, nn, Nat.zero_le _, rfl, rfl⟩
      case round =>
        obtain ⟨k, n, hk, rfl, rfl⟩ := hrel
        by_cases hlt : k < xs.length
        · obtain ⟨b, off, hA, hb, hc, hd, he⟩ := (Sl.of_own X2.out).three k hlt
          have hp : 0 < xs.length := by omega
          obtain ⟨gx, cx, hvx, hgx, hgx2⟩ := X2.out.form hp
          cases hvx
          simp at hA
          obtain ⟨rfl, rfl⟩ := hA
          simp only [Nat.zero_add] at hc hd he
          have k0 : (0 : Int) ≤ k := by omega
          have k1 : (k : Int) < xs.length := by omega
          cases hu : unseen (at3 xs k)
          · go_wp2_with fail
            go_quiet ((go_at_call 15; exact quiet_add_left (lawUnseen_eq (at3 xs k) false hu _)))
            go_wp2_with fail
            go_roundw
            case rel => exact ⟨k + 1, _, by omega, by go_num, rfl⟩
            case measure => simp [intOf]; omega
          · obtain ⟨m, hm1, hm2', hm3⟩ := next_best HV.out k hlt hu
            rw [hm1]
            have HM := hide hm1
            obtain ⟨b', off', hA, hb', hc', hd', he'⟩ := (Sl.of_own X2.out).three m hm2'
            simp at hA
            obtain ⟨rfl, rfl⟩ := hA
            simp only [Nat.zero_add] at hc' hd' he'
            have j0 : (0 : Int) ≤ m := by omega
            have j1 : (m : Int) < xs.length := by omega
            have hneg : decide ((m : Int) < 0) = false := by simp
            clear hm1
            rcases allt_cases xs k m with ⟨l, t1⟩ | ⟨l, t1, t2⟩ | ⟨l, t1, t2, t3⟩ | ⟨l, t1, t2, t3⟩
            · rw [hm3] at l; cases l
            · go_wp2_with fail
              go_quiet ((go_at_call 15; exact quiet_add_left (lawUnseen_eq (at3 xs k) true hu _)))
              go_wp2_with fail
              go_roundw
              case rel => exact ⟨k + 1, _, by omega, by go_num, rfl⟩
              case measure => simp [intOf]; omega
            · rw [hm3] at l; cases l
            · go_wp2_with fail
              go_quiet ((go_at_call 15; exact quiet_add_left (lawUnseen_eq (at3 xs k) true hu _)))
              go_wp2_with fail
              go_roundw
              case rel => exact ⟨k + 1, _, by omega, by go_num, rfl⟩
              case measure => simp [intOf]; omega
        · rcases next_unseen HV.out with hn | ⟨m, hm1, hm2', hm3⟩
          · rw [hn]
            go_wp2_with fail
            go_ret
            exact ⟨rfl, below_drewN K2.out n⟩
          · rw [hm1]
            clear hm1
            obtain ⟨b, off, hA, hb, hc, hd, he⟩ := (Sl.of_own X2.out).three m hm2'
            obtain ⟨gx, cx, hvx, hgx, hgx2⟩ := X2.out.form (by omega)
            cases hvx
            simp at hA
            obtain ⟨rfl, rfl⟩ := hA
            simp only [Nat.zero_add] at hc hd he
            have j0 : (0 : Int) ≤ m := by omega
            have j1 : (m : Int) < xs.length := by omega
            have hneg : ((m : Int) == -1) = false := by simp
            go_wp2_with ((go_at_call 15; refine (lawUnseen_eq (at3 xs m) true hm3 _).mono ?_; rintro e w' ⟨rfl, rfl⟩))
            go_ret
            exact ⟨rfl, below_drewN K2.out n⟩
  · go_enter Tryd.func9, Tryd.ntmps9
    go_wp2_with fail
    go_ret
    exact ⟨rfl, Below.refl _ _⟩

end Go.Proofs.YteffcemgmabdnaaDoor
