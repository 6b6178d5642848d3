/-
  Contracts of the small functions of this seat that only compute, and of those that copy and compare lists of numbers.
-/
import Derived.Test.YtbebhbcjdiahcaaDoorRows
import Derived.Test.YtbebhbcjdiahcaaDoorBase
import Derived.WalkSpells
import Derived.WalkLawsBesides
import Derived.Outline
import Derived.Deep.QuietTactic
import Derived.BigQuiet
import Derived.RegionTactic
import Derived.LoopTactic
import Derived.OwnWalk
namespace Go.Proofs.YtbebhbcjdiahcaaDoor
open Go.RowKit

theorem l1In_any (n lo hi : Int) (w : World) :
    Calls Tryd.prog 52 #[.int .i64 n, .int .i64 lo, .int .i64 hi] w fun e w' => e = .returned (.bool (inB n lo hi)) ∧ w = w' := by
  by_cases h1 : lo ≤ n <;> by_cases h2 : n ≤ hi
  all_goals
    go_enter Tryd.func52, Tryd.ntmps52
    go_wp2
    go_ret
    exact ⟨by simp [inB]; omega, rfl⟩

theorem powerValid_any (n : Int) (w : World) :
    Calls Tryd.prog 83 #[.int .i64 n] w fun e w' => e = .returned (.bool (inB n 0 999)) ∧ w = w' := by
  by_cases h1 : 0 ≤ n <;> by_cases h2 : n ≤ 999
  all_goals
    go_enter Tryd.func83, Tryd.ntmps83
    go_wp2
    go_ret
    exact ⟨by simp [inB]; omega, rfl⟩

theorem infoI : (Tryd.prog.info? 3).map (fun i => (i.zero, i.size, i.bytes)) = some (some (.int .i64 0), 1, 8) := by kernel_rfl

theorem own_cell {w : World} {base e size g n cap : Nat} {cs : List Value} (h : w.ownsRow base e size (.slice (some ⟨g, 0, none⟩) n cap) n cs) (j : Nat) (hj : j < n * size) : ∃ u, w.cell? ⟨g, j, none⟩ = some u := by
  rw [h.cellAt j hj]
  exact ⟨_, List.getElem?_eq_getElem (by rw [h.1]; exact hj)⟩

theorem l1Has_any (A : Option Addr) (n c : Nat) (xs : List Int) (x : Int) (w : World) (hn : xs.length = n) (h : Sl w w.heap.size 1 A xs.length (encI xs)) (hm : n ≤ 1048576) :
    Calls Tryd.prog 57 #[.slice A n c, .int .i64 x] w fun e w' => e = .returned (.bool (hasB xs x)) ∧ w = w' := by
  subst hn
  go_enter Tryd.func57, Tryd.ntmps57
  go_wp2
  go_loop [5] (fun i => ∃ k : Nat, k ≤ xs.length ∧ i = .int .i64 k ∧ ∀ j, j < k → at_ xs j ≠ x) (fun i => xs.length - (intOf i).toNat)
  case atStart => exact ⟨0, Nat.zero_le _, rfl, fun j hj => absurd hj (by omega)⟩
  case round =>
    obtain ⟨k, hk, rfl, hall⟩ := hrel
    have H := hide hall
    clear hall
    by_cases hlt : k < xs.length
    · obtain ⟨b, off, rfl, hb, hc⟩ := h.int k hlt
      by_cases he : at_ xs k = x
      · have he' : (at_ xs k == x) = true := by simp [he]
        have HE := hide he
        clear he
        go_wp2
        go_ret
        exact ⟨ret_bool (hasB_yes k hlt HE.out).symm, rfl⟩
      · have he' : (at_ xs k == x) = false := by simp [he]
        have HE := hide he
        clear he
        go_wp2
        go_round
        case rel =>
          refine ⟨k + 1, by omega, by go_num, fun j hj => ?_⟩
          by_cases hjk : j = k
          · subst hjk; exact HE.out
          · exact H.out j (by omega)
        case measure => simp [intOf]; omega
    · go_wp2
      go_ret
      exact ⟨ret_bool (hasB_no fun j hj => H.out j (by omega)).symm, rfl⟩

theorem slicesIndex_any (A : Option Addr) (n c : Nat) (xs : List Int) (x : Int) (w : World) (hn : xs.length = n) (h : Sl w w.heap.size 1 A xs.length (encI xs)) (hm : n ≤ 1048576) :
    Calls Tryd.prog 64 #[.slice A n c, .int .i64 x] w fun e w' => e = .returned (.int .i64 (idxF xs x)) ∧ w = w' := by
  subst hn
  go_enter Tryd.func64, Tryd.ntmps64
  go_wp2
  go_loop [8] (fun i => ∃ k : Nat, k ≤ xs.length ∧ i = .int .i64 k ∧ ∀ j, j < k → at_ xs j ≠ x) (fun i => xs.length - (intOf i).toNat)
  case atStart => exact ⟨0, Nat.zero_le _, rfl, fun j hj => absurd hj (by omega)⟩
  case round =>
    obtain ⟨k, hk, rfl, hall⟩ := hrel
    have H := hide hall
    clear hall
    by_cases hlt : k < xs.length
    · obtain ⟨b, off, rfl, hb, hc⟩ := h.int k hlt
      by_cases he : at_ xs k = x
      · have he' : (x == at_ xs k) = true := by simp [he]
        have he'' : (at_ xs k == x) = true := by simp [he]
        have HE := hide he
        clear he
        go_wp2
        go_ret
        exact ⟨ret_int (idxF_at k hlt HE.out H.out).symm, rfl⟩
      · have he' : (x == at_ xs k) = false := by simp; exact fun h => he h.symm
        have he'' : (at_ xs k == x) = false := by simp [he]
        have HE := hide he
        clear he
        go_wp2
        go_round
        case rel =>
          refine ⟨k + 1, by omega, by go_num, fun j hj => ?_⟩
          by_cases hjk : j = k
          · subst hjk; exact HE.out
          · exact H.out j (by omega)
        case measure => simp [intOf]; omega
    · go_wp2
      go_ret
      exact ⟨ret_int (idxF_none fun j hj => H.out j (by omega)).symm, rfl⟩

theorem slicesContains_any (A : Option Addr) (n c : Nat) (xs : List Int) (x : Int) (w : World) (hn : xs.length = n) (h : Sl w w.heap.size 1 A xs.length (encI xs)) (hm : n ≤ 1048576) :
    Calls Tryd.prog 67 #[.slice A n c, .int .i64 x] w fun e w' => e = .returned (.bool (hasB xs x)) ∧ w = w' := by
  rcases idxF_has xs x with ⟨h1, h2⟩ | ⟨h1, h2⟩
  all_goals
    go_enter Tryd.func67, Tryd.ntmps67
    go_wp2_with ((go_at_call 64; refine (slicesIndex_any _ _ _ _ _ _ hn h hm).mono ?_; rintro e w' ⟨rfl, rfl⟩))
    go_ret
    exact ⟨ret_bool (by rw [h2] <;> first | (apply decide_eq_true; omega) | (apply decide_eq_false; omega)), rfl⟩

end Go.Proofs.YtbebhbcjdiahcaaDoor
