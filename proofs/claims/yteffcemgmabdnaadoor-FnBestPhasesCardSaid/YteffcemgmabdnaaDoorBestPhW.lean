/-
  Chapter 36: the best phases; what the reference's function computes.
-/
import Derived.Test.YteffcemgmabdnaaDoorBestPh
import Derived.Test.YteffcemgmabdnaaDoorAppAny
import Derived.IntWalk
namespace Go.Proofs.YteffcemgmabdnaaDoor
open Go.RowKit
set_option linter.unusedVariables false

theorem l36Of_any (N m : Nat) (w : World) (hN : N ≤ 1000000) (hm : m ≤ 6) :
    Calls Tryd.prog 64 #[.int .i64 N, .int .i64 m] w (MadeInts (fun r => r = digs m N) w) := by
  have HO := hide (World.ownsRow_lit (base := w.heap.size) (e := 3) (size := 1) w #[] 0 (Nat.le_refl _) (Nat.zero_le _) rfl)
  have HB := hide ((Below.refl w.heap.size w).alloc (Nat.le_refl _) (.cells #[] 3))
  go_enter Tryd.func64, Tryd.ntmps64
  go_wp2_with fail
  go_loopw [0, 5, 6] (fun q o i wr => ∃ (k p : Nat) (xs : List Int) (D : Option Addr) (d : Nat), k ≤ m ∧ p ≤ 1000000 ∧ q = .int .i64 p ∧ o = .slice D xs.length d ∧ i = .int .i64 k ∧ Hid (xs.length = k ∧ xs = digs k N ∧ p = N / 3 ^ k) ∧ wr.ownsRow w.heap.size 3 1 (.slice D xs.length d) xs.length (encI xs) ∧ Below w.heap.size w wr) (fun _ _ i _ => m - (intOf i).toNat)
  case atStart => exact ⟨0, N, [], _, _, Nat.zero_le _, hN, rfl, rfl, rfl, hide ⟨rfl, rfl, by simp⟩, HO.out, HB.out⟩
  case round =>
    obtain ⟨k, p, xs, D, d, hk, hp, rfl, rfl, rfl, HX, ho, hb⟩ := hrel
    have hl := HX.out.1
    have HL := hide hl
    have HO1 := hide ho
    have HB1 := hide hb
    have hs1 := hb.size
    clear ho hb hl
    by_cases hlt : k < m
    · have hxl : xs.length ≤ 6 := by have := HL.out; omega
      have N6 := hide (World.ownsRow_lit (base := w.heap.size) (e := 3) (size := 1) wr #[.int .i64 ((p % 3 : Nat) : Int)] 1 hs1 (by unfold maxLen; omega) rfl)
      have O6 := hide (HO1.out.alloc (.cells #[.int .i64 ((p % 3 : Nat) : Int)] 3))
      have e1 : Int.tmod (p : Int) 3 = ((p % 3 : Nat) : Int) := by rw [Int.tmod_eq_emod_of_nonneg (by omega)]; omega
      have e2 : Int.tdiv (p : Int) 3 = ((p / 3 : Nat) : Int) := by rw [Int.tdiv_eq_ediv_of_nonneg (by omega)]; omega
      go_wp2_with (at_builtin; refine app_ints _ rfl (.tmp 15) (.tmp 16) rfl w.heap.size _ 1 1 [((p % 3 : Nat) : Int)] rfl N6.out _ D xs.length d xs rfl (Sl.of_own O6.out) (by simp; omega) (by omega) (by omega) ?_; intro D2 d2 w7 ho7 hg7)
      have HO7 := hide ho7
      have HB7 := hide ((HB1.out.alloc hs1 (.cells #[.int .i64 ((p % 3 : Nat) : Int)] 3)).trans (grown_below N6.out hg7 (by simp; omega)))
      clear ho7 hg7
      go_roundw
      case rel =>
        have hl2 : (((p % 3 : Nat) : Int) :: xs).length = 1 + xs.length := by simp; omega
        refine ⟨k + 1, p / 3, ((p % 3 : Nat) : Int) :: xs, D2, d2, by omega, by omega, ?_, by rw [hl2], by go_num, hide ⟨?_, ?_, ?_⟩, by rw [hl2]; exact HO7.out, HB7.out⟩
        · first | rfl | go_num
        · have := HL.out; simp; omega
        · rw [digs_cons, ← HX.out.2.1, ← HX.out.2.2]
        · rw [HX.out.2.2, Nat.div_div_eq_div_mul, Nat.pow_succ]
      case measure => simp [intOf]; omega
    · obtain rfl : k = m := by omega
      go_wp2_with fail
      go_ret
      exact ⟨xs, D, d, HX.out.2.1, rfl, HO1.out, HB1.out⟩

theorem pow_in (k : Nat) (h : k ≤ 6) : 1 ≤ 3 ^ k ∧ 3 ^ k ≤ 729 := by
  have : k = 0 ∨ k = 1 ∨ k = 2 ∨ k = 3 ∨ k = 4 ∨ k = 5 ∨ k = 6 := by omega
  rcases this with rfl | rfl | rfl | rfl | rfl | rfl | rfl <;> decide

def BPh (xs r : List Int) : Prop := r = bestPh xs

set_option maxHeartbeats 1000000 in
theorem specBestPhases_any (A : Option Addr) (c : Nat) (xs : List Int) (w : World) (h : Sl w w.heap.size 1 A xs.length (encI xs)) (hm : xs.length ≤ 1048576) :
    Calls Tryd.prog 34 #[.slice A xs.length c] w (MadeInts (BPh xs) w) := by
  cases h1 : tapsB xs
  · have HO := hide (World.ownsRow_lit (base := w.heap.size) (e := 3) (size := 1) w #[] 0 (Nat.le_refl _) (Nat.zero_le _) rfl)
    have HB := hide ((Below.refl w.heap.size w).alloc (Nat.le_refl _) (.cells #[] 3))
    go_enter Tryd.func34, Tryd.ntmps34
    go_wp2_with fail
    refine (specTapsValid_any _ _ _ _ h hm).mono ?_
    rintro e w' ⟨rfl, rfl⟩
    rw [h1]
    go_wp2_with fail
    go_ret
    exact ⟨[], _, _, by unfold BPh bestPh; rw [h1]; rfl, rfl, HO.out, HB.out⟩
  · have hl6 := taps_len h1
    have HV := hide h1
    go_enter Tryd.func34, Tryd.ntmps34
    go_wp2_with fail
    refine (specTapsValid_any _ _ _ _ h hm).mono ?_
    rintro e w' ⟨rfl, rfl⟩
    rw [h1]
    clear h1
    go_wp2_with fail
    go_loop [3, 4] (fun a i => ∃ (k p : Nat), k ≤ xs.length ∧ p ≤ 729 ∧ Hid (p = 3 ^ k) ∧ i = .int .i64 k ∧ a = .int .i64 p) (fun _ i => xs.length - (intOf i).toNat)
    case atStart => exact ⟨0, 1, Nat.zero_le _, by omega, hide rfl, rfl, rfl⟩
    case round =>
      obtain ⟨k, p, hk, hp, HP, rfl, rfl⟩ := hrel
      by_cases hlt : k < xs.length
      · go_wp2_with fail
        go_round
        case rel =>
          have h3 := pow_in (k + 1) (by omega)
          have h4 : 3 ^ (k + 1) = 3 * p := by rw [HP.out, Nat.pow_succ, Nat.mul_comm]
          exact ⟨k + 1, 3 * p, by omega, by omega, hide h4.symm, by go_num, by go_num⟩
        case measure => simp [intOf]; omega
      · obtain rfl : k = xs.length := by omega
        go_wp2_with fail
        refine (l36Of_any 0 xs.length w (by omega) hl6).mono ?_
        rintro e w1 ⟨r, D, d, hr, rfl, ho1, hb1⟩
        have HR := hide hr
        have HO1 := hide ho1
        have HB1 := hide hb1
        clear hr ho1 hb1
        have hp1 : 1 ≤ p := by have := pow_in xs.length hl6; have := HP.out; omega
        go_wp2_with fail
        go_loopw [5, 6] (fun o i wr => ∃ (N : Nat) (r : List Int) (D : Option Addr) (d : Nat), 1 ≤ N ∧ N ≤ p ∧ Hid (r = (bestU xs N).1) ∧ i = .int .i64 N ∧ o = .slice D r.length d ∧ wr.ownsRow w.heap.size 3 1 (.slice D r.length d) r.length (encI r) ∧ Below w.heap.size w wr) (fun _ i _ => p - (intOf i).toNat)
        case atStart =>
          refine ⟨1, r, D, d, Nat.le_refl _, hp1, hide ?_, rfl, rfl, HO1.out, HB1.out⟩
          rw [bestU_yes (xs := xs) (N := 0) (.inl (show (-1 : Int) < 0 by decide))]
          exact HR.out
        case round =>
          obtain ⟨N, r, D, d, hN1, hN, HR, rfl, rfl, ho, hb⟩ := hrel
          have HO := hide ho
          have HB := hide hb
          clear ho hb
          by_cases hlt2 : N < p
          · go_wp2_with fail
            refine (l36Of_any N xs.length wr (by omega) hl6).mono ?_
            rintro e w2 ⟨x, E, f, hx, rfl, ho2, hb2⟩
            have HX := hide hx
            have HO2 := hide (own_mono ho2 HB.out.size)
            have HO3 := hide (HO.out.keepB hb2)
            have HB2 := hide (HB.out.then hb2)
            have hxl : x.length ≤ 1048576 := by rw [hx, digs_len]; exact hm
            have hrl : r.length ≤ 1048576 := by rw [HR.out]; have := bestU_len HV.out N; omega
            have hS := h.to HB2.out
            clear hx ho2 hb2
            obtain ⟨b1, b2⟩ := bestU_ok HV.out N (by omega)
            have HI1 := hide (imbB_in (digs_ok HV.out N))
            have HI2 := hide (imbB_in b1)
            have HB1 := hide b1
            have HBe := hide b2
            clear b1 b2
            go_wp2_with fail
            refine (specImbalance_any _ _ _ _ _ _ _ hS (Sl.of_own HO2.out) hm hxl).mono ?_
            rintro e w' ⟨rfl, rfl⟩
            go_wp2_with fail
            refine (specImbalance_any _ _ _ _ _ _ _ hS (Sl.of_own HO3.out) hm hrl).mono ?_
            rintro e w' ⟨rfl, rfl⟩
            by_cases hc : imbB xs x < imbB xs r
            · have HC := hide (bestU_yes (xs := xs) (N := N) (.inr (by rw [← HX.out, HBe.out, ← HR.out]; exact hc)))
              go_wp2_with fail
              go_roundw
              case rel => exact ⟨N + 1, x, E, f, by omega, by omega, hide (by rw [HC.out]; exact HX.out), by go_num, rfl, HO2.out, HB2.out⟩
              case measure => simp [intOf]; omega
            · have HC := hide (bestU_no (xs := xs) (N := N) (by rw [← HX.out, HBe.out, ← HR.out]; have := HI2.out; rw [← HR.out] at this; omega))
              go_wp2_with fail
              go_roundw
              case rel => exact ⟨N + 1, r, D, d, by omega, by omega, hide (by rw [HC.out]; exact HR.out), by go_num, rfl, HO3.out, HB2.out⟩
              case measure => simp [intOf]; omega
          · obtain rfl : N = p := by omega
            go_wp2_with fail
            go_ret
            exact ⟨r, D, d, by unfold BPh bestPh; rw [if_pos HV.out, HR.out, HP.out], rfl, HO.out, HB.out⟩

end Go.Proofs.YteffcemgmabdnaaDoor
