/-
  Whether all numbers of a list are 0: what the program's functions and the reference's compute.
-/
import Derived.Test.YtbebhbcjdiahcaaDoorResW
import Derived.Test.YtbebhbcjdiahcaaDoorTreeOf
namespace Go.Proofs.YtbebhbcjdiahcaaDoor
open Go.RowKit
set_option linter.unusedVariables false

theorem allZeroF_any (x : Int) (w : World) : Calls Tryd.prog 66 #[.int .i64 x] w fun e w' => e = .returned (.bool (x != 0)) ∧ w = w' := by
  by_cases h : x = 0
  · subst h
    go_enter Tryd.func66, Tryd.ntmps66
    go_wp2_with fail
    go_ret
    exact ⟨rfl, rfl⟩
  · have hne : (x != 0) = true := by simp [h]
    go_enter Tryd.func66, Tryd.ntmps66
    go_wp2_with fail
    go_ret
    exact ⟨ret_bool (by simp [h]), rfl⟩
/-- The place of the first number that is not 0. -/
def nzF (xs : List Int) (x : Int) : Prop := (x = -1 ∧ ∀ j, j < xs.length → at_ xs j = 0) ∨ ∃ k : Nat, k < xs.length ∧ x = k ∧ ¬ at_ xs k = 0
theorem indexFuncZ_any (A : Option Addr) (c : Nat) (xs : List Int) (w : World) (h : Sl w w.heap.size 1 A xs.length (encI xs)) (hm : xs.length ≤ 1048576) :
    Calls Tryd.prog 80 #[.slice A xs.length c, .func (.func 66) #[] #[]] w fun e w' => ∃ x, nzF xs x ∧ -1 ≤ x ∧ x < 1048577 ∧ e = .returned (.int .i64 x) ∧ w = w' := by
  go_enter Tryd.func80, Tryd.ntmps80
  go_wp2_with fail
  go_loop [8] (fun i => ∃ k : Nat, k ≤ xs.length ∧ i = .int .i64 k ∧ Hid (∀ j, j < k → at_ xs j = 0)) (fun i => xs.length - (intOf i).toNat)
  case atStart => exact ⟨0, Nat.zero_le _, rfl, hide (fun j hj => absurd hj (by omega))⟩
  case round =>
    obtain ⟨k, hk, rfl, H⟩ := hrel
    by_cases hlt : k < xs.length
    · obtain ⟨b, off, rfl, hb, hc⟩ := h.int k hlt
      have i0 : (0 : Int) ≤ k := by omega
      have i1 : (k : Int) < xs.length := by omega
      by_cases he : at_ xs k = 0
      · have he' : (at_ xs k != 0) = false := by simp [he]
        have HE := hide he
        clear he
        go_wp2_with fail
        refine (allZeroF_any _ _).mono ?_
        rintro e w' ⟨rfl, rfl⟩
        rw [he']
        go_wp2_with fail
        go_round
        case rel => exact ⟨k + 1, by omega, by go_num, hide (fun j hj => by
            by_cases hjk : j = k
            · subst hjk; exact HE.out
            · exact H.out j (by omega))⟩
        case measure => simp [intOf]; omega
      · have he' : (at_ xs k != 0) = true := by simp [he]
        have HE := hide he
        clear he
        go_wp2_with fail
        refine (allZeroF_any _ _).mono ?_
        rintro e w' ⟨rfl, rfl⟩
        rw [he']
        go_wp2_with fail
        go_ret
        exact ⟨k, .inr ⟨k, hlt, rfl, HE.out⟩, by omega, by omega, rfl, rfl⟩
    · go_wp2_with fail
      go_ret
      exact ⟨-1, .inl ⟨rfl, fun j hj => H.out j (by omega)⟩, by omega, by omega, rfl, rfl⟩

theorem containsFuncZ_any (A : Option Addr) (c : Nat) (xs : List Int) (w : World) (h : Sl w w.heap.size 1 A xs.length (encI xs)) (hm : xs.length ≤ 1048576) :
    Calls Tryd.prog 65 #[.slice A xs.length c, .func (.func 66) #[] #[]] w fun e w' => e = .returned (.bool (!zeroL xs)) ∧ w = w' := by
  go_enter Tryd.func65, Tryd.ntmps65
  go_wp2_with fail
  refine (indexFuncZ_any _ _ _ _ h hm).mono ?_
  rintro e w' ⟨x, hx, hx1, hx2, rfl, rfl⟩
  have HX := hide hx
  clear hx
  go_wp2_with fail
  go_ret
  refine ⟨ret_bool ?_, rfl⟩
  rcases HX.out with ⟨rfl, h2⟩ | ⟨k, h1, rfl, h2⟩
  · rw [zeroL_yes h2]; rfl
  · rw [zeroL_no k h1 h2]; simp

theorem allZero_any (A : Option Addr) (c : Nat) (xs : List Int) (w : World) (h : Sl w w.heap.size 1 A xs.length (encI xs)) (hm : xs.length ≤ 1048576) :
    Calls Tryd.prog 40 #[.slice A xs.length c] w fun e w' => e = .returned (.bool (zeroL xs)) ∧ w = w' := by
  go_enter Tryd.func40, Tryd.ntmps40
  go_wp2_with fail
  refine (containsFuncZ_any _ _ _ _ h hm).mono ?_
  rintro e w' ⟨rfl, rfl⟩
  go_wp2_with fail
  go_ret
  exact ⟨ret_bool (by simp), rfl⟩

theorem l31None_any (A : Option Addr) (c : Nat) (xs : List Int) (w : World) (h : Sl w w.heap.size 1 A xs.length (encI xs)) (hm : xs.length ≤ 1048576) :
    Calls Tryd.prog 38 #[.slice A xs.length c] w fun e w' => e = .returned (.bool (zeroL xs)) ∧ w = w' := by
  go_enter Tryd.func38, Tryd.ntmps38
  go_wp2_with fail
  go_loop [3] (fun i => ∃ k : Nat, k ≤ xs.length ∧ i = .int .i64 k ∧ Hid (∀ j, j < k → at_ xs j = 0)) (fun i => xs.length - (intOf i).toNat)
  case atStart => exact ⟨0, Nat.zero_le _, rfl, hide (fun j hj => absurd hj (by omega))⟩
  case round =>
    obtain ⟨k, hk, rfl, H⟩ := hrel
    by_cases hlt : k < xs.length
    · obtain ⟨b, off, rfl, hb, hc⟩ := h.int k hlt
      have i0 : (0 : Int) ≤ k := by omega
      have i1 : (k : Int) < xs.length := by omega
      by_cases he : at_ xs k = 0
      · have he' : (at_ xs k != 0) = false := by simp [he]
        have HE := hide he
        clear he
        go_wp2_with fail
        go_round
        case rel => exact ⟨k + 1, by omega, by go_num, hide (fun j hj => by
            by_cases hjk : j = k
            · subst hjk; exact HE.out
            · exact H.out j (by omega))⟩
        case measure => simp [intOf]; omega
      · have he' : (at_ xs k != 0) = true := by simp [he]
        have HE := hide he
        clear he
        go_wp2_with fail
        go_ret
        exact ⟨ret_bool (zeroL_no k hlt HE.out).symm, rfl⟩
    · go_wp2_with fail
      go_ret
      exact ⟨ret_bool (zeroL_yes fun j hj => H.out j (by omega)).symm, rfl⟩

end Go.Proofs.YtbebhbcjdiahcaaDoor
