/-
  Chapter 36 (phases): what the program's functions and the reference's compute, and the walks of the laws on them.
-/
import Derived.Test.YtfnilchegccmeaaLeaf
import Derived.Test.YtfnilchegccmeaaOpen
namespace Go.Proofs.Ytfnilchegccmeaa
open Go.RowKit
set_option linter.unusedVariables false

/-- At most six loads, each in 0..999. -/
def tapsB (xs : List Int) : Bool := decide (xs.length ≤ 6) && xs.all fun x => inB x 0 999

theorem specTapsValid_any (A : Option Addr) (c : Nat) (xs : List Int) (w : World) (h : Sl w w.heap.size 1 A xs.length (encI xs)) (hm : xs.length ≤ 1048576) :
    Calls Try.prog 24 #[.slice A xs.length c] w fun e w' => e = .returned (.bool (tapsB xs)) ∧ w = w' := by
  go_enter Try.func24, Try.ntmps24
  go_wp2
  go_loop [3] (fun i => ∃ k : Nat, k ≤ xs.length ∧ i = .int .i64 k ∧ (xs.take k).all (fun x => inB x 0 999) = true) (fun i => xs.length - (intOf i).toNat)
  case atStart => exact ⟨0, Nat.zero_le _, rfl, by simp⟩
  case round =>
    obtain ⟨k, hk, rfl, hall⟩ := hrel
    have H := Lib.hid hall; clear hall
    by_cases hlt : k < xs.length
    · obtain ⟨b, off, rfl, hb, hc⟩ := h.int k hlt
      by_cases hin : inB (at_ xs k) 0 999 = true
      · go_wp2_with ((go_at_call 54; refine (l1In_any _ _ _ _).mono ?_; rintro e w' ⟨rfl, rfl⟩))
        go_round
        case rel => exact ⟨k + 1, by omega, by go_num, all_take _ _ _ hlt H.out (by rw [← at_eq xs k hlt]; exact hin)⟩
        case measure => simp [intOf]; omega
      · have hin' : inB (at_ xs k) 0 999 = false := by simpa using hin
        clear hin
        go_wp2_with ((go_at_call 54; refine (l1In_any _ _ _ _).mono ?_; rintro e w' ⟨rfl, rfl⟩))
        go_ret
        exact ⟨ret_bool (by unfold tapsB; rw [all_no _ _ _ hlt (by rw [← at_eq xs k hlt]; exact hin')]; simp), rfl⟩
    · by_cases h6 : xs.length ≤ 6
      all_goals
        go_wp2
        go_ret
        exact ⟨ret_bool (by unfold tapsB; rw [all_end _ _ _ (by omega) H.out]; simp [h6]; omega), rfl⟩

theorem implTapsValid_any (A : Option Addr) (c : Nat) (xs : List Int) (w : World) (h : Sl w w.heap.size 1 A xs.length (encI xs)) (hm : xs.length ≤ 1048576) :
    Calls Try.prog 26 #[.slice A xs.length c] w fun e w' => e = .returned (.bool (tapsB xs)) ∧ w = w' := by
  by_cases h6 : xs.length ≤ 6
  · go_enter Try.func26, Try.ntmps26
    go_wp2
    go_loop [10] (fun i => ∃ k : Nat, k ≤ xs.length ∧ i = .int .i64 k ∧ (xs.take k).all (fun x => inB x 0 999) = true) (fun i => xs.length - (intOf i).toNat)
    case atStart => exact ⟨0, Nat.zero_le _, rfl, by simp⟩
    case round =>
      obtain ⟨k, hk, rfl, hall⟩ := hrel
      have H := Lib.hid hall; clear hall
      by_cases hlt : k < xs.length
      · obtain ⟨b, off, rfl, hb, hc⟩ := h.int k hlt
        by_cases hin : inB (at_ xs k) 0 999 = true
        · go_wp2_with ((go_at_call 56; refine (powerValid_any _ _).mono ?_; rintro e w' ⟨rfl, rfl⟩))
          go_round
          case rel => exact ⟨k + 1, by omega, by go_num, all_take _ _ _ hlt H.out (by rw [← at_eq xs k hlt]; exact hin)⟩
          case measure => simp [intOf]; omega
        · have hin' : inB (at_ xs k) 0 999 = false := by simpa using hin
          clear hin
          go_wp2_with ((go_at_call 56; refine (powerValid_any _ _).mono ?_; rintro e w' ⟨rfl, rfl⟩))
          go_ret
          exact ⟨ret_bool (by unfold tapsB; rw [all_no _ _ _ hlt (by rw [← at_eq xs k hlt]; exact hin')]; simp), rfl⟩
      · go_wp2
        go_ret
        exact ⟨ret_bool (by unfold tapsB; rw [all_end _ _ _ (by omega) H.out]; simp [h6]), rfl⟩
  · go_enter Try.func26, Try.ntmps26
    go_wp2
    go_ret
    exact ⟨ret_bool (by unfold tapsB; simp [h6]), rfl⟩

theorem fnExactTapsValid_walk (A0 : Option Addr) (c0 : Nat) (x0 : List Int) (w : World) (l0 : x0.length ≤ c0) (m0 : c0 ≤ maxLen) (s0 : Sl w w.heap.size 1 A0 x0.length (encI x0)) (_i0 : ∀ n ∈ x0, I64 n) :
    Calls Try.prog 7 #[.slice A0 x0.length c0] w fun e w' => e = .returned (.bool true) ∧ Below w.heap.size w w' := by
  unfold maxLen at m0
  by_cases hm : x0.length ≤ 1048576
  · go_enter Try.func7, Try.ntmps7
    go_wp2_with fail
    refine (toIntS_any _ _ _ _ s0 hm).mono ?_
    rintro e w1 ⟨D1, d1, rfl, ho1, hb1⟩
    go_wp2_with fail
    refine (specTapsValid_any _ _ _ _ (Sl.of_own ho1) hm).mono ?_
    rintro e w' ⟨rfl, rfl⟩
    go_wp2_with fail
    refine (toIntS_any _ _ _ _ (s0.to hb1) hm).mono ?_
    rintro e w2 ⟨D2, d2, rfl, ho2, hb2⟩
    go_wp2_with fail
    refine (implTapsValid_any _ _ _ _ (Sl.of_own ho2) hm).mono ?_
    rintro e w' ⟨rfl, rfl⟩
    go_wp2_with fail
    refine (toIntS_any _ _ _ _ ((s0.to hb1).to hb2) hm).mono ?_
    rintro e w3 ⟨D3, d3, rfl, ho3, hb3⟩
    go_wp2_with fail
    refine (eqIntS_any _ _ _ _ _ _ _ ((Sl.of_own ho2).to hb3) (Sl.of_own ho3) hm).mono ?_
    rintro e w4 ⟨rfl, hb4⟩
    rw [eqI_self]
    go_wp2_with fail
    go_ret
    exact ⟨rfl, (((hb1.trans (hb2.mono hb1.size)).trans (hb3.mono (by have := hb1.size; have := hb2.size; omega))).trans (hb4.mono (by have := hb1.size; have := hb2.size; have := hb3.size; omega)))⟩
  · go_enter Try.func7, Try.ntmps7
    go_wp2
    go_ret
    exact ⟨rfl, Below.refl _ _⟩

end Go.Proofs.Ytfnilchegccmeaa
