/-
  Which jobs and which plants are valid: the reference's function and the program's compute the same. (Written by a program of mine, wip/tools/gen3.py.)
-/
import Derived.Test.YtjecbapmdgnglaaDoorPairs
namespace Go.Proofs.YtjecbapmdgnglaaDoor
open Go.RowKit
set_option linter.unusedVariables false

/-- At most eight, each as it has to be. -/
def jobB (xs : List (Int × Int)) : Bool := decide (xs.length ≤ 8) && xs.all fun p => inB p.1 1 999 && inB p.2 0 999

theorem specJobsValid_any (A : Option Addr) (c : Nat) (xs : List (Int × Int)) (w : World) (h : Sl w w.heap.size 2 A xs.length (enc2 xs)) (hm : xs.length ≤ 1048576) :
    Calls Tryd.prog 53 #[.slice A xs.length c] w fun e w' => e = .returned (.bool (jobB xs)) ∧ w = w' := by
  go_enter Tryd.func53, Tryd.ntmps53
  go_wp2
  go_loop [3] (fun i => ∃ k : Nat, k ≤ xs.length ∧ i = .int .i64 k ∧ (xs.take k).all (fun p => inB p.1 1 999 && inB p.2 0 999) = true) (fun i => xs.length - (intOf i).toNat)
  case atStart => exact ⟨0, Nat.zero_le _, rfl, by simp⟩
  case round =>
    obtain ⟨k, hk, rfl, hall⟩ := hrel
    have H := Lib.hid hall; clear hall
    by_cases hlt : k < xs.length
    · obtain ⟨b, off, rfl, hb, hc, hd⟩ := h.two k hlt
      cases h1 : inB (at2 xs k).1 1 999 <;> cases h2 : inB (at2 xs k).2 0 999
      case true.true =>
        go_wp2_with ((go_at_call 70; refine (l1In_any _ _ _ _).mono ?_; rintro e w' ⟨rfl, rfl⟩))
        go_round
        case rel => exact ⟨k + 1, by omega, by go_num, all_take _ _ _ hlt H.out (by rw [← at2_eq xs k hlt, h1, h2]; rfl)⟩
        case measure => simp [intOf]; omega
      all_goals
        go_wp2_with ((go_at_call 70; refine (l1In_any _ _ _ _).mono ?_; rintro e w' ⟨rfl, rfl⟩))
        go_ret
        exact ⟨ret_bool (by unfold jobB; rw [all_no _ _ _ hlt (by rw [← at2_eq xs k hlt, h1, h2]; rfl)]; simp), rfl⟩
    · by_cases h6 : xs.length ≤ 8
      all_goals
        go_wp2
        go_ret
        exact ⟨ret_bool (by unfold jobB; rw [all_end _ _ _ (by omega) H.out]; simp [h6]; omega), rfl⟩

theorem implJobsValid_any (A : Option Addr) (c : Nat) (xs : List (Int × Int)) (w : World) (h : Sl w w.heap.size 2 A xs.length (enc2 xs)) (hm : xs.length ≤ 1048576) :
    Calls Tryd.prog 60 #[.slice A xs.length c] w fun e w' => e = .returned (.bool (jobB xs)) ∧ Below w.heap.size w w' := by
  by_cases h6 : xs.length ≤ 8
  · go_enter Tryd.func60, Tryd.ntmps60
    go_wp2
    go_loopw [10] (fun i wr => ∃ k : Nat, k ≤ xs.length ∧ i = .int .i64 k ∧ (xs.take k).all (fun p => inB p.1 1 999 && inB p.2 0 999) = true ∧ Below w.heap.size w wr) (fun i _ => xs.length - (intOf i).toNat)
    case atStart => exact ⟨0, Nat.zero_le _, rfl, by simp, Below.refl _ _⟩
    case round =>
      obtain ⟨k, hk, rfl, hall, hbl⟩ := hrel
      have H := Lib.hid hall; clear hall
      by_cases hlt : k < xs.length
      · obtain ⟨b, off, rfl, hb, hc, hd⟩ := h.two k hlt
        have hc' := (hbl.cell (p := ⟨b, off + k * 2, none⟩) hb).trans hc
        have hd' := (hbl.cell (p := ⟨b, off + k * 2 + 1, none⟩) hb).trans hd
        clear hc hd
        have HB := hide hbl
        clear hbl
        by_cases h1 : 1 ≤ (at2 xs k).1
        · by_cases h2 : (at2 xs k).1 ≤ 999
          · have hi := inB_mk h1 h2
            cases h3 : inB (at2 xs k).2 0 999
            · go_wp2_with ((go_at_call 67; refine (powerValid_any _ _).mono ?_; rintro e w' ⟨rfl, rfl⟩))
              go_ret
              exact ⟨ret_bool (by unfold jobB; rw [all_no _ _ _ hlt (by rw [← at2_eq xs k hlt, hi, h3]; rfl)]; simp), by repeat (first | exact HB.out | (refine Below.alloc ?_ (by have := HB.out.size; simp <;> omega) _))⟩
            · go_wp2_with ((go_at_call 67; refine (powerValid_any _ _).mono ?_; rintro e w' ⟨rfl, rfl⟩))
              go_roundw
              case rel => exact ⟨k + 1, by omega, by go_num, all_take _ _ _ hlt H.out (by rw [← at2_eq xs k hlt, hi, h3]; rfl), by repeat (first | exact HB.out | (refine Below.alloc ?_ (by have := HB.out.size; simp <;> omega) _))⟩
              case measure => simp [intOf]; omega
          · have hi : inB (at2 xs k).1 1 999 = false := inB_no (by omega)
            go_wp2_with fail
            go_ret
            exact ⟨ret_bool (by unfold jobB; rw [all_no _ _ _ hlt (by rw [← at2_eq xs k hlt, hi]; rfl)]; simp), by repeat (first | exact HB.out | (refine Below.alloc ?_ (by have := HB.out.size; simp <;> omega) _))⟩
        · have hi : inB (at2 xs k).1 1 999 = false := inB_no (by omega)
          go_wp2_with fail
          go_ret
          exact ⟨ret_bool (by unfold jobB; rw [all_no _ _ _ hlt (by rw [← at2_eq xs k hlt, hi]; rfl)]; simp), by repeat (first | exact HB.out | (refine Below.alloc ?_ (by have := HB.out.size; simp <;> omega) _))⟩
      · go_wp2
        go_ret
        exact ⟨ret_bool (by unfold jobB; rw [all_end _ _ _ (by omega) H.out]; simp [h6]), hbl⟩
  · go_enter Tryd.func60, Tryd.ntmps60
    go_wp2
    go_ret
    exact ⟨ret_bool (by unfold jobB; simp [h6]), Below.refl _ _⟩

/-- At most eight, each as it has to be. -/
def plantB (xs : List (Int × Int)) : Bool := decide (xs.length ≤ 8) && xs.all fun p => inB p.1 0 999 && inB p.2 0 999

theorem specPlantsValid_any (A : Option Addr) (c : Nat) (xs : List (Int × Int)) (w : World) (h : Sl w w.heap.size 2 A xs.length (enc2 xs)) (hm : xs.length ≤ 1048576) :
    Calls Tryd.prog 34 #[.slice A xs.length c] w fun e w' => e = .returned (.bool (plantB xs)) ∧ w = w' := by
  go_enter Tryd.func34, Tryd.ntmps34
  go_wp2
  go_loop [3] (fun i => ∃ k : Nat, k ≤ xs.length ∧ i = .int .i64 k ∧ (xs.take k).all (fun p => inB p.1 0 999 && inB p.2 0 999) = true) (fun i => xs.length - (intOf i).toNat)
  case atStart => exact ⟨0, Nat.zero_le _, rfl, by simp⟩
  case round =>
    obtain ⟨k, hk, rfl, hall⟩ := hrel
    have H := Lib.hid hall; clear hall
    by_cases hlt : k < xs.length
    · obtain ⟨b, off, rfl, hb, hc, hd⟩ := h.two k hlt
      cases h1 : inB (at2 xs k).1 0 999 <;> cases h2 : inB (at2 xs k).2 0 999
      case true.true =>
        go_wp2_with ((go_at_call 70; refine (l1In_any _ _ _ _).mono ?_; rintro e w' ⟨rfl, rfl⟩))
        go_round
        case rel => exact ⟨k + 1, by omega, by go_num, all_take _ _ _ hlt H.out (by rw [← at2_eq xs k hlt, h1, h2]; rfl)⟩
        case measure => simp [intOf]; omega
      all_goals
        go_wp2_with ((go_at_call 70; refine (l1In_any _ _ _ _).mono ?_; rintro e w' ⟨rfl, rfl⟩))
        go_ret
        exact ⟨ret_bool (by unfold plantB; rw [all_no _ _ _ hlt (by rw [← at2_eq xs k hlt, h1, h2]; rfl)]; simp), rfl⟩
    · by_cases h6 : xs.length ≤ 8
      all_goals
        go_wp2
        go_ret
        exact ⟨ret_bool (by unfold plantB; rw [all_end _ _ _ (by omega) H.out]; simp [h6]; omega), rfl⟩

theorem implPlantsValid_any (A : Option Addr) (c : Nat) (xs : List (Int × Int)) (w : World) (h : Sl w w.heap.size 2 A xs.length (enc2 xs)) (hm : xs.length ≤ 1048576) :
    Calls Tryd.prog 43 #[.slice A xs.length c] w fun e w' => e = .returned (.bool (plantB xs)) ∧ Below w.heap.size w w' := by
  by_cases h6 : xs.length ≤ 8
  · go_enter Tryd.func43, Tryd.ntmps43
    go_wp2
    go_loopw [10] (fun i wr => ∃ k : Nat, k ≤ xs.length ∧ i = .int .i64 k ∧ (xs.take k).all (fun p => inB p.1 0 999 && inB p.2 0 999) = true ∧ Below w.heap.size w wr) (fun i _ => xs.length - (intOf i).toNat)
    case atStart => exact ⟨0, Nat.zero_le _, rfl, by simp, Below.refl _ _⟩
    case round =>
      obtain ⟨k, hk, rfl, hall, hbl⟩ := hrel
      have H := Lib.hid hall; clear hall
      by_cases hlt : k < xs.length
      · obtain ⟨b, off, rfl, hb, hc, hd⟩ := h.two k hlt
        have hc' := (hbl.cell (p := ⟨b, off + k * 2, none⟩) hb).trans hc
        have hd' := (hbl.cell (p := ⟨b, off + k * 2 + 1, none⟩) hb).trans hd
        clear hc hd
        have HB := hide hbl
        clear hbl
        cases h1 : inB (at2 xs k).1 0 999 <;> cases h2 : inB (at2 xs k).2 0 999
        case true.true =>
          go_wp2_with ((go_at_call 67; refine (powerValid_any _ _).mono ?_; rintro e w' ⟨rfl, rfl⟩))
          go_roundw
          case rel => exact ⟨k + 1, by omega, by go_num, all_take _ _ _ hlt H.out (by rw [← at2_eq xs k hlt, h1, h2]; rfl), by repeat (first | exact HB.out | (refine Below.alloc ?_ (by have := HB.out.size; simp <;> omega) _))⟩
          case measure => simp [intOf]; omega
        all_goals
          go_wp2_with ((go_at_call 67; refine (powerValid_any _ _).mono ?_; rintro e w' ⟨rfl, rfl⟩))
          go_ret
          exact ⟨ret_bool (by unfold plantB; rw [all_no _ _ _ hlt (by rw [← at2_eq xs k hlt, h1, h2]; rfl)]; simp), by repeat (first | exact HB.out | (refine Below.alloc ?_ (by have := HB.out.size; simp <;> omega) _))⟩
      · go_wp2
        go_ret
        exact ⟨ret_bool (by unfold plantB; rw [all_end _ _ _ (by omega) H.out]; simp [h6]), hbl⟩
  · go_enter Tryd.func43, Tryd.ntmps43
    go_wp2
    go_ret
    exact ⟨ret_bool (by unfold plantB; simp [h6]), Below.refl _ _⟩

end Go.Proofs.YtjecbapmdgnglaaDoor
