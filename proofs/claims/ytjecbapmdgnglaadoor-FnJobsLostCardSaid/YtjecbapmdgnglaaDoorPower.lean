/-
  Chapter 33, how much power plants give together.
-/
import Derived.Test.YtjecbapmdgnglaaDoorOrder
namespace Go.Proofs.YtjecbapmdgnglaaDoor
open Go.RowKit
set_option linter.unusedVariables false

def powOf (xs : List (Int × Int)) (ord : List Int) : Int := (startB xs ord).getD (-1)
/-- A number that hangs on the order. -/
def PowPost (xs : List (Int × Int)) (w : World) (e : Ending) (w' : World) : Prop := ∃ ord, SoB xs ord ∧ e = .returned (.int .i64 (powOf xs ord)) ∧ Below w.heap.size w w'

theorem outV_cases (o : Option Int) : (∃ p, o = some p ∧ outV o = .tuple #[.int .i64 p, .bool true]) ∨ (o = none ∧ outV o = .tuple #[.int .i64 (-1), .bool false]) := by
  cases o with
  | none => exact .inr ⟨rfl, rfl⟩
  | some p => exact .inl ⟨p, rfl, rfl⟩

theorem specStartPower_any (A : Option Addr) (c : Nat) (xs : List (Int × Int)) (w : World) (h : Sl w w.heap.size 2 A xs.length (enc2 xs)) (hm : xs.length ≤ 1048576) :
    Calls Tryd.prog 42 #[.slice A xs.length c] w (PowPost xs w) := by
  go_enter Tryd.func42, Tryd.ntmps42
  go_wp2_with fail
  refine (specStartOrder_any _ _ _ _ h hm).mono ?_
  rintro e w1 ⟨ord, D, d, hR, rfl, ho, hb1⟩
  obtain ⟨_, _, hv, hc, hc'⟩ := own_slice ho
  cases hv
  have hl := soB_len hR
  go_wp2_with fail
  refine (specStartRun_any _ _ _ _ _ _ _ (h.to hb1) (Sl.of_own ho) hm (by omega) hc hc').mono ?_
  rintro e w2 ⟨rfl, hb2⟩
  have HK := hide (hb1.then hb2)
  clear hb1 hb2 ho
  rcases outV_cases (startB xs ord) with ⟨p, h1, h2⟩ | ⟨h1, h2⟩
  all_goals
    have H1 := hide h1
    rw [h2]
    clear h1 h2
    go_wp2_with fail
    go_ret
    exact ⟨ord, hR, ret_int (by simp [powOf, H1.out]), HK.out⟩

theorem implStartPower_any (A : Option Addr) (c : Nat) (xs : List (Int × Int)) (w : World) (h : Sl w w.heap.size 2 A xs.length (enc2 xs)) (hm : xs.length ≤ 1048576) :
    Calls Tryd.prog 41 #[.slice A xs.length c] w (PowPost xs w) := by
  cases h0 : plantB xs
  · go_enter Tryd.func41, Tryd.ntmps41
    go_wp2_with fail
    refine (implPlantsValid_any _ _ _ _ h hm).mono ?_
    rintro e w1 ⟨rfl, hb1⟩
    rw [h0]
    go_wp2_with fail
    go_ret
    exact ⟨[], ⟨fun hh => by rw [h0] at hh; (cases hh), fun _ => rfl⟩, ret_int (by simp [powOf, startB, h0]), hb1⟩
  · go_enter Tryd.func41, Tryd.ntmps41
    go_wp2_with fail
    refine (implPlantsValid_any _ _ _ _ h hm).mono ?_
    rintro e w0 ⟨rfl, hb0⟩
    rw [h0]
    go_wp2_with fail
    refine (implStartOrder_any _ _ _ _ (h.to hb0) hm).mono ?_
    rintro e w1 ⟨ord, D, d, hR, rfl, ho, hb1⟩
    obtain ⟨_, _, hv, hc, hc'⟩ := own_slice ho
    cases hv
    have hl := soB_len hR
    go_wp2_with fail
    refine (implStartRun_any _ _ _ _ _ _ _ ((h.to hb0).to hb1) (Sl.of_own ho) hm (by omega) hc hc').mono ?_
    rintro e w2 ⟨rfl, hb2⟩
    have HK := hide ((hb0.then hb1).then hb2)
    clear hb0 hb1 hb2 ho
    rcases outV_cases (startB xs ord) with ⟨p, h1, h2⟩ | ⟨h1, h2⟩
    all_goals
      have H1 := hide h1
      rw [h2]
      clear h1 h2
      go_wp2_with fail
      go_ret
      exact ⟨ord, hR, ret_int (by simp [powOf, H1.out]), HK.out⟩

end Go.Proofs.YtjecbapmdgnglaaDoor
