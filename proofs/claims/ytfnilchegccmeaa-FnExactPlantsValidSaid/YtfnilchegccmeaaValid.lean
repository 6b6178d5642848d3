/-
  Which jobs and which plants are valid: the reference's function and the program's compute the same. (Written by a program of mine, wip/tools/gen3.py.)
-/
import Derived.Test.YtfnilchegccmeaaPairs
namespace Go.Proofs.Ytfnilchegccmeaa
open Go.RowKit
set_option linter.unusedVariables false

/-- At most eight, each as it has to be. -/
def jobB (xs : List (Int × Int)) : Bool := decide (xs.length ≤ 8) && xs.all fun p => inB p.1 1 999 && inB p.2 0 999

theorem specJobsValid_any (A : Option Addr) (c : Nat) (xs : List (Int × Int)) (w : World) (h : Sl w w.heap.size 2 A xs.length (enc2 xs)) (hm : xs.length ≤ 1048576) :
    Calls Try.prog 29 #[.slice A xs.length c] w fun e w' => e = .returned (.bool (jobB xs)) ∧ w = w' := by
  go_enter Try.func29, Try.ntmps29
  go_wp2
  go_loop [3] (fun i => ∃ k : Nat, k ≤ xs.length ∧ i = .int .i64 k ∧ (xs.take k).all (fun p => inB p.1 1 999 && inB p.2 0 999) = true) (fun i => xs.length - (intOf i).toNat)
  case atStart => exact ⟨0, Nat.zero_le _, rfl, by simp⟩
  case round =>
    obtain ⟨k, hk, rfl, hall⟩ := hrel
    have H := Lib.hid hall; clear hall
    by_cases hlt : k < xs.length
    · obtain ⟨b, off, rfl, hb, hc, hd⟩ := h.two k hlt
      cases h1 : inB (at2 xs k).1 1 999 <;> cases h2 : inB (at2 xs k).2 0 999
      case true.true =>
        go_wp2_with ((go_at_call 54; refine (l1In_any _ _ _ _).mono ?_; rintro e w' ⟨rfl, rfl⟩))
        go_round
        case rel => exact ⟨k + 1, by omega, by go_num, all_take _ _ _ hlt H.out (by rw [← at2_eq xs k hlt, h1, h2]; rfl)⟩
        case measure => simp [intOf]; omega
      all_goals
        go_wp2_with ((go_at_call 54; refine (l1In_any _ _ _ _).mono ?_; rintro e w' ⟨rfl, rfl⟩))
        go_ret
        exact ⟨ret_bool (by unfold jobB; rw [all_no _ _ _ hlt (by rw [← at2_eq xs k hlt, h1, h2]; rfl)]; simp), rfl⟩
    · by_cases h6 : xs.length ≤ 8
      all_goals
        go_wp2
        go_ret
        exact ⟨ret_bool (by unfold jobB; rw [all_end _ _ _ (by omega) H.out]; simp [h6]; omega), rfl⟩

theorem implJobsValid_any (A : Option Addr) (c : Nat) (xs : List (Int × Int)) (w : World) (h : Sl w w.heap.size 2 A xs.length (enc2 xs)) (hm : xs.length ≤ 1048576) :
    Calls Try.prog 31 #[.slice A xs.length c] w fun e w' => e = .returned (.bool (jobB xs)) ∧ Below w.heap.size w w' := by
  by_cases h6 : xs.length ≤ 8
  · go_enter Try.func31, Try.ntmps31
    go_wp2
    go_loopw [10] (fun i wr => ∃ k : Nat, k ≤ xs.length ∧ i = .int .i64 k ∧ (xs.take k).all (fun p => inB p.1 1 999 && inB p.2 0 999) = true ∧ Below w.heap.size w wr) (fun i _ => xs.length - (intOf i).toNat)
    case atStart => exact ⟨0, Nat.zero_le _, rfl, by simp, Below.refl _ _⟩
    case round =>
      obtain ⟨k, hk, rfl, hall, hbl⟩ := hrel
      have H := Lib.hid hall; clear hall
      by_cases hlt : k < xs.length
      · obtain ⟨b, off, rfl, hb, hc, hd⟩ := h.two k hlt
        have hc' := (hbl.cell (p := ⟨b, off + k * 2, none⟩) hb).trans hc
        have hd' := (hbl.cell (p := ⟨b, off + k * 2 + 1, none⟩) hb).trans hd
        clear hc hd
        have HB := hide hbl
        clear hbl
        by_cases h1 : 1 ≤ (at2 xs k).1
        · by_cases h2 : (at2 xs k).1 ≤ 999
          · have hi := inB_mk h1 h2
            cases h3 : inB (at2 xs k).2 0 999
            · go_wp2_with ((go_at_call 56; refine (powerValid_any _ _).mono ?_; rintro e w' ⟨rfl, rfl⟩))
              go_ret
              exact ⟨ret_bool (by unfold jobB; rw [all_no _ _ _ hlt (by rw [← at2_eq xs k hlt, hi, h3]; rfl)]; simp), by repeat (first | exact HB.out | (refine Below.alloc ?_ (by have := HB.out.size; simp <;> omega) _))⟩
            · go_wp2_with ((go_at_call 56; refine (powerValid_any _ _).mono ?_; rintro e w' ⟨rfl, rfl⟩))
              go_roundw
              case rel => exact ⟨k + 1, by omega, by go_num, all_take _ _ _ hlt H.out (by rw [← at2_eq xs k hlt, hi, h3]; rfl), by repeat (first | exact HB.out | (refine Below.alloc ?_ (by have := HB.out.size; simp <;> omega) _))⟩
              case measure => simp [intOf]; omega
          · have hi : inB (at2 xs k).1 1 999 = false := inB_no (by omega)
            go_wp2_with fail
            go_ret
            exact ⟨ret_bool (by unfold jobB; rw [all_no _ _ _ hlt (by rw [← at2_eq xs k hlt, hi]; rfl)]; simp), by repeat (first | exact HB.out | (refine Below.alloc ?_ (by have := HB.out.size; simp <;> omega) _))⟩
        · have hi : inB (at2 xs k).1 1 999 = false := inB_no (by omega)
          go_wp2_with fail
          go_ret
          exact ⟨ret_bool (by unfold jobB; rw [all_no _ _ _ hlt (by rw [← at2_eq xs k hlt, hi]; rfl)]; simp), by repeat (first | exact HB.out | (refine Below.alloc ?_ (by have := HB.out.size; simp <;> omega) _))⟩
      · go_wp2
        go_ret
        exact ⟨ret_bool (by unfold jobB; rw [all_end _ _ _ (by omega) H.out]; simp [h6]), hbl⟩
  · go_enter Try.func31, Try.ntmps31
    go_wp2
    go_ret
    exact ⟨ret_bool (by unfold jobB; simp [h6]), Below.refl _ _⟩

theorem fnExactJobsValid_walk (A0 : Option Addr) (c0 : Nat) (x0 : List (Int × Int)) (w : World) (l0 : x0.length ≤ c0) (m0 : c0 ≤ maxLen) (s0 : Sl w w.heap.size 2 A0 x0.length (enc2 x0)) (i0 : ∀ p ∈ x0, I64 p.1 ∧ I64 p.2) :
    Calls Try.prog 8 #[.slice A0 x0.length c0] w fun e w' => e = .returned (.bool true) ∧ Below w.heap.size w w' := by
  unfold maxLen at m0
  by_cases hm : x0.length ≤ 1048576
  · have hsz : szOf x0.length 1048576 = 1048576 - x0.length := by unfold szOf; rw [if_neg (by omega)]
    go_enter Try.func8, Try.ntmps8
    go_wp2_with fail
    refine (szJobS_any _ _ _ _ _ (by omega) (by omega) (by omega)).mono ?_
    rintro e w' ⟨rfl, rfl⟩
    rw [hsz]
    clear hsz
    go_wp2_with fail
    refine (toJobS_any _ _ _ _ s0 hm).mono ?_
    rintro e w1 ⟨D1, d1, rfl, ho1, hb1⟩
    go_wp2_with fail
    refine (specJobsValid_any _ _ _ _ (Sl.of_own ho1) hm).mono ?_
    rintro e w' ⟨rfl, rfl⟩
    go_wp2_with fail
    refine (toJobS_any _ _ _ _ (s0.to hb1) hm).mono ?_
    rintro e w2 ⟨D2, d2, rfl, ho2, hb2⟩
    go_wp2_with fail
    refine (implJobsValid_any _ _ _ _ (Sl.of_own ho2) hm).mono ?_
    rintro e w3 ⟨rfl, hb3⟩
    go_wp2_with fail
    refine (toJobS_any _ _ _ _ (((s0.to hb1).to hb2).to hb3) hm).mono ?_
    rintro e w4 ⟨D4, d4, rfl, ho4, hb4⟩
    go_wp2_with fail
    refine (eqJobS_any _ _ _ _ _ _ _ (((Sl.of_own ho2).to hb3).to hb4) (Sl.of_own ho4) hm).mono ?_
    rintro e w5 ⟨rfl, hb5⟩
    rw [eq2_self]
    go_wp2_with fail
    go_ret
    have z1 := hb1.size
    have z2 := hb2.size
    have z3 := hb3.size
    have z4 := hb4.size
    exact ⟨rfl, (((hb1.trans (hb2.mono (by omega))).trans (hb3.mono (by omega))).trans (hb4.mono (by omega))).trans (hb5.mono (by omega))⟩
  · have hsz : szOf x0.length 1048576 = -1 := by unfold szOf; rw [if_pos (by omega)]
    go_enter Try.func8, Try.ntmps8
    go_wp2_with fail
    refine (szJobS_any _ _ _ _ _ (by omega) (by omega) (by omega)).mono ?_
    rintro e w' ⟨rfl, rfl⟩
    rw [hsz]
    clear hsz
    go_wp2_with fail
    go_ret
    exact ⟨rfl, Below.refl _ _⟩

/-- At most eight, each as it has to be. -/
def plantB (xs : List (Int × Int)) : Bool := decide (xs.length ≤ 8) && xs.all fun p => inB p.1 0 999 && inB p.2 0 999

theorem specPlantsValid_any (A : Option Addr) (c : Nat) (xs : List (Int × Int)) (w : World) (h : Sl w w.heap.size 2 A xs.length (enc2 xs)) (hm : xs.length ≤ 1048576) :
    Calls Try.prog 34 #[.slice A xs.length c] w fun e w' => e = .returned (.bool (plantB xs)) ∧ w = w' := by
  go_enter Try.func34, Try.ntmps34
  go_wp2
  go_loop [3] (fun i => ∃ k : Nat, k ≤ xs.length ∧ i = .int .i64 k ∧ (xs.take k).all (fun p => inB p.1 0 999 && inB p.2 0 999) = true) (fun i => xs.length - (intOf i).toNat)
  case atStart => exact ⟨0, Nat.zero_le _, rfl, by simp⟩
  case round =>
    obtain ⟨k, hk, rfl, hall⟩ := hrel
    have H := Lib.hid hall; clear hall
    by_cases hlt : k < xs.length
    · obtain ⟨b, off, rfl, hb, hc, hd⟩ := h.two k hlt
      cases h1 : inB (at2 xs k).1 0 999 <;> cases h2 : inB (at2 xs k).2 0 999
      case true.true =>
        go_wp2_with ((go_at_call 54; refine (l1In_any _ _ _ _).mono ?_; rintro e w' ⟨rfl, rfl⟩))
        go_round
        case rel => exact ⟨k + 1, by omega, by go_num, all_take _ _ _ hlt H.out (by rw [← at2_eq xs k hlt, h1, h2]; rfl)⟩
        case measure => simp [intOf]; omega
      all_goals
        go_wp2_with ((go_at_call 54; refine (l1In_any _ _ _ _).mono ?_; rintro e w' ⟨rfl, rfl⟩))
        go_ret
        exact ⟨ret_bool (by unfold plantB; rw [all_no _ _ _ hlt (by rw [← at2_eq xs k hlt, h1, h2]; rfl)]; simp), rfl⟩
    · by_cases h6 : xs.length ≤ 8
      all_goals
        go_wp2
        go_ret
        exact ⟨ret_bool (by unfold plantB; rw [all_end _ _ _ (by omega) H.out]; simp [h6]; omega), rfl⟩

theorem implPlantsValid_any (A : Option Addr) (c : Nat) (xs : List (Int × Int)) (w : World) (h : Sl w w.heap.size 2 A xs.length (enc2 xs)) (hm : xs.length ≤ 1048576) :
    Calls Try.prog 36 #[.slice A xs.length c] w fun e w' => e = .returned (.bool (plantB xs)) ∧ Below w.heap.size w w' := by
  by_cases h6 : xs.length ≤ 8
  · go_enter Try.func36, Try.ntmps36
    go_wp2
    go_loopw [10] (fun i wr => ∃ k : Nat, k ≤ xs.length ∧ i = .int .i64 k ∧ (xs.take k).all (fun p => inB p.1 0 999 && inB p.2 0 999) = true ∧ Below w.heap.size w wr) (fun i _ => xs.length - (intOf i).toNat)
    case atStart => exact ⟨0, Nat.zero_le _, rfl, by simp, Below.refl _ _⟩
    case round =>
      obtain ⟨k, hk, rfl, hall, hbl⟩ := hrel
      have H := Lib.hid hall; clear hall
      by_cases hlt : k < xs.length
      · obtain ⟨b, off, rfl, hb, hc, hd⟩ := h.two k hlt
        have hc' := (hbl.cell (p := ⟨b, off + k * 2, none⟩) hb).trans hc
        have hd' := (hbl.cell (p := ⟨b, off + k * 2 + 1, none⟩) hb).trans hd
        clear hc hd
        have HB := hide hbl
        clear hbl
        cases h1 : inB (at2 xs k).1 0 999 <;> cases h2 : inB (at2 xs k).2 0 999
        case true.true =>
          go_wp2_with ((go_at_call 56; refine (powerValid_any _ _).mono ?_; rintro e w' ⟨rfl, rfl⟩))
          go_roundw
          case rel => exact ⟨k + 1, by omega, by go_num, all_take _ _ _ hlt H.out (by rw [← at2_eq xs k hlt, h1, h2]; rfl), by repeat (first | exact HB.out | (refine Below.alloc ?_ (by have := HB.out.size; simp <;> omega) _))⟩
          case measure => simp [intOf]; omega
        all_goals
          go_wp2_with ((go_at_call 56; refine (powerValid_any _ _).mono ?_; rintro e w' ⟨rfl, rfl⟩))
          go_ret
          exact ⟨ret_bool (by unfold plantB; rw [all_no _ _ _ hlt (by rw [← at2_eq xs k hlt, h1, h2]; rfl)]; simp), by repeat (first | exact HB.out | (refine Below.alloc ?_ (by have := HB.out.size; simp <;> omega) _))⟩
      · go_wp2
        go_ret
        exact ⟨ret_bool (by unfold plantB; rw [all_end _ _ _ (by omega) H.out]; simp [h6]), hbl⟩
  · go_enter Try.func36, Try.ntmps36
    go_wp2
    go_ret
    exact ⟨ret_bool (by unfold plantB; simp [h6]), Below.refl _ _⟩

theorem fnExactPlantsValid_walk (A0 : Option Addr) (c0 : Nat) (x0 : List (Int × Int)) (w : World) (l0 : x0.length ≤ c0) (m0 : c0 ≤ maxLen) (s0 : Sl w w.heap.size 2 A0 x0.length (enc2 x0)) (i0 : ∀ p ∈ x0, I64 p.1 ∧ I64 p.2) :
    Calls Try.prog 9 #[.slice A0 x0.length c0] w fun e w' => e = .returned (.bool true) ∧ Below w.heap.size w w' := by
  unfold maxLen at m0
  by_cases hm : x0.length ≤ 1048576
  · have hsz : szOf x0.length 1048576 = 1048576 - x0.length := by unfold szOf; rw [if_neg (by omega)]
    go_enter Try.func9, Try.ntmps9
    go_wp2_with fail
    refine (szPlantS_any _ _ _ _ _ (by omega) (by omega) (by omega)).mono ?_
    rintro e w' ⟨rfl, rfl⟩
    rw [hsz]
    clear hsz
    go_wp2_with fail
    refine (toPlantS_any _ _ _ _ s0 hm).mono ?_
    rintro e w1 ⟨D1, d1, rfl, ho1, hb1⟩
    go_wp2_with fail
    refine (specPlantsValid_any _ _ _ _ (Sl.of_own ho1) hm).mono ?_
    rintro e w' ⟨rfl, rfl⟩
    go_wp2_with fail
    refine (toPlantS_any _ _ _ _ (s0.to hb1) hm).mono ?_
    rintro e w2 ⟨D2, d2, rfl, ho2, hb2⟩
    go_wp2_with fail
    refine (implPlantsValid_any _ _ _ _ (Sl.of_own ho2) hm).mono ?_
    rintro e w3 ⟨rfl, hb3⟩
    go_wp2_with fail
    refine (toPlantS_any _ _ _ _ (((s0.to hb1).to hb2).to hb3) hm).mono ?_
    rintro e w4 ⟨D4, d4, rfl, ho4, hb4⟩
    go_wp2_with fail
    refine (eqPlantS_any _ _ _ _ _ _ _ (((Sl.of_own ho2).to hb3).to hb4) (Sl.of_own ho4) hm).mono ?_
    rintro e w5 ⟨rfl, hb5⟩
    rw [eq2_self]
    go_wp2_with fail
    go_ret
    have z1 := hb1.size
    have z2 := hb2.size
    have z3 := hb3.size
    have z4 := hb4.size
    exact ⟨rfl, (((hb1.trans (hb2.mono (by omega))).trans (hb3.mono (by omega))).trans (hb4.mono (by omega))).trans (hb5.mono (by omega))⟩
  · have hsz : szOf x0.length 1048576 = -1 := by unfold szOf; rw [if_pos (by omega)]
    go_enter Try.func9, Try.ntmps9
    go_wp2_with fail
    refine (szPlantS_any _ _ _ _ _ (by omega) (by omega) (by omega)).mono ?_
    rintro e w' ⟨rfl, rfl⟩
    rw [hsz]
    clear hsz
    go_wp2_with fail
    go_ret
    exact ⟨rfl, Below.refl _ _⟩

end Go.Proofs.Ytfnilchegccmeaa
