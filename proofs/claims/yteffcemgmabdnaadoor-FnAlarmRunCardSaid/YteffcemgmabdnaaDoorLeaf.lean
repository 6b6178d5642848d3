/-
  Contracts of the small functions of this seat that only compute, and of those that copy and compare lists of numbers.
-/
import Derived.Test.YteffcemgmabdnaaDoorRows
import Derived.Test.YteffcemgmabdnaaDoorBase
import Derived.WalkSpells
import Derived.WalkLawsBesides
import Derived.Outline
import Derived.Deep.QuietTactic
import Derived.BigQuiet
import Derived.RegionTactic
import Derived.LoopTactic
import Derived.OwnWalk
namespace Go.Proofs.YteffcemgmabdnaaDoor
open Go.RowKit

theorem l1In_any (n lo hi : Int) (w : World) :
    Calls Tryd.prog 45 #[.int .i64 n, .int .i64 lo, .int .i64 hi] w fun e w' => e = .returned (.bool (inB n lo hi)) ∧ w = w' := by
  by_cases h1 : lo ≤ n <;> by_cases h2 : n ≤ hi
  all_goals
    go_enter Tryd.func45, Tryd.ntmps45
    go_wp2
    go_ret
    exact ⟨by simp [inB]; omega, rfl⟩

theorem powerValid_any (n : Int) (w : World) :
    Calls Tryd.prog 54 #[.int .i64 n] w fun e w' => e = .returned (.bool (inB n 0 999)) ∧ w = w' := by
  by_cases h1 : 0 ≤ n <;> by_cases h2 : n ≤ 999
  all_goals
    go_enter Tryd.func54, Tryd.ntmps54
    go_wp2
    go_ret
    exact ⟨by simp [inB]; omega, rfl⟩

theorem epochValid_any (n : Int) (w : World) :
    Calls Tryd.prog 50 #[.int .i64 n] w fun e w' => e = .returned (.bool (inB n 0 99)) ∧ w = w' := by
  by_cases h1 : 0 ≤ n <;> by_cases h2 : n ≤ 99
  all_goals
    go_enter Tryd.func50, Tryd.ntmps50
    go_wp2
    go_ret
    exact ⟨by simp [inB]; omega, rfl⟩

theorem bitValid_any (n : Int) (w : World) :
    Calls Tryd.prog 61 #[.int .i64 n] w fun e w' => e = .returned (.bool (inB n 0 1)) ∧ w = w' := by
  by_cases h1 : n = 0
  · subst h1
    go_enter Tryd.func61, Tryd.ntmps61
    go_wp2
    go_ret
    exact ⟨by simp [inB], rfl⟩
  · by_cases h2 : n = 1
    · subst h2
      go_enter Tryd.func61, Tryd.ntmps61
      go_wp2
      go_ret
      exact ⟨by simp [inB], rfl⟩
    · have h3 : (n == 0) = false := by simp [h1]
      have h4 : (n == 1) = false := by simp [h2]
      have H1 := hide h1
      have H2 := hide h2
      clear h1 h2
      go_enter Tryd.func61, Tryd.ntmps61
      go_wp2
      go_ret
      exact ⟨by have := H1.out; have := H2.out; simp [inB]; omega, rfl⟩

theorem infoI : (Tryd.prog.info? 3).map (fun i => (i.zero, i.size, i.bytes)) = some (some (.int .i64 0), 1, 8) := by kernel_rfl

theorem own_cell {w : World} {base e size g n cap : Nat} {cs : List Value} (h : w.ownsRow base e size (.slice (some ⟨g, 0, none⟩) n cap) n cs) (j : Nat) (hj : j < n * size) : ∃ u, w.cell? ⟨g, j, none⟩ = some u := by
  rw [h.cellAt j hj]
  exact ⟨_, List.getElem?_eq_getElem (by rw [h.1]; exact hj)⟩

end Go.Proofs.YteffcemgmabdnaaDoor
