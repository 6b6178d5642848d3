/-
  Chapter 33, how much power plants give together.
-/
import Derived.Test.YtdfjmfonkdkcgaaOrder
namespace Go.Proofs.Ytdfjmfonkdkcgaa
open Go.RowKit
set_option linter.unusedVariables false

def powOf (xs : List (Int × Int)) (ord : List Int) : Int := (startB xs ord).getD (-1)
/-- A number that hangs on the order. -/
def PowPost (xs : List (Int × Int)) (w : World) (e : Ending) (w' : World) : Prop := ∃ ord, SoB xs ord ∧ e = .returned (.int .i64 (powOf xs ord)) ∧ Below w.heap.size w w'

theorem outV_cases (o : Option Int) : (∃ p, o = some p ∧ outV o = .tuple #[.int .i64 p, .bool true]) ∨ (o = none ∧ outV o = .tuple #[.int .i64 (-1), .bool false]) := by
  cases o with
  | none => exact .inr ⟨rfl, rfl⟩
  | some p => exact .inl ⟨p, rfl, rfl⟩

theorem specStartPower_any (A : Option Addr) (c : Nat) (xs : List (Int × Int)) (w : World) (h : Sl w w.heap.size 2 A xs.length (enc2 xs)) (hm : xs.length ≤ 1048576) :
    Calls Try.prog 45 #[.slice A xs.length c] w (PowPost xs w) := by
  go_enter Try.func45, Try.ntmps45
  go_wp2_with fail
  refine (specStartOrder_any _ _ _ _ h hm).mono ?_
  rintro e w1 ⟨ord, D, d, hR, rfl, ho, hb1⟩
  obtain ⟨_, _, hv, hc, hc'⟩ := own_slice ho
  cases hv
  have hl := soB_len hR
  go_wp2_with fail
  refine (specStartRun_any _ _ _ _ _ _ _ (h.to hb1) (Sl.of_own ho) hm (by omega) hc hc').mono ?_
  rintro e w2 ⟨rfl, hb2⟩
  have HK := hide (hb1.then hb2)
  clear hb1 hb2 ho
  rcases outV_cases (startB xs ord) with ⟨p, h1, h2⟩ | ⟨h1, h2⟩
  all_goals
    have H1 := hide h1
    rw [h2]
    clear h1 h2
    go_wp2_with fail
    go_ret
    exact ⟨ord, hR, ret_int (by simp [powOf, H1.out]), HK.out⟩

theorem implStartPower_any (A : Option Addr) (c : Nat) (xs : List (Int × Int)) (w : World) (h : Sl w w.heap.size 2 A xs.length (enc2 xs)) (hm : xs.length ≤ 1048576) :
    Calls Try.prog 46 #[.slice A xs.length c] w (PowPost xs w) := by
  cases h0 : plantB xs
  · go_enter Try.func46, Try.ntmps46
    go_wp2_with fail
    refine (implPlantsValid_any _ _ _ _ h hm).mono ?_
    rintro e w1 ⟨rfl, hb1⟩
    rw [h0]
    go_wp2_with fail
    go_ret
    exact ⟨[], ⟨fun hh => by rw [h0] at hh; (cases hh), fun _ => rfl⟩, ret_int (by simp [powOf, startB, h0]), hb1⟩
  · go_enter Try.func46, Try.ntmps46
    go_wp2_with fail
    refine (implPlantsValid_any _ _ _ _ h hm).mono ?_
    rintro e w0 ⟨rfl, hb0⟩
    rw [h0]
    go_wp2_with fail
    refine (implStartOrder_any _ _ _ _ (h.to hb0) hm).mono ?_
    rintro e w1 ⟨ord, D, d, hR, rfl, ho, hb1⟩
    obtain ⟨_, _, hv, hc, hc'⟩ := own_slice ho
    cases hv
    have hl := soB_len hR
    go_wp2_with fail
    refine (implStartRun_any _ _ _ _ _ _ _ ((h.to hb0).to hb1) (Sl.of_own ho) hm (by omega) hc hc').mono ?_
    rintro e w2 ⟨rfl, hb2⟩
    have HK := hide ((hb0.then hb1).then hb2)
    clear hb0 hb1 hb2 ho
    rcases outV_cases (startB xs ord) with ⟨p, h1, h2⟩ | ⟨h1, h2⟩
    all_goals
      have H1 := hide h1
      rw [h2]
      clear h1 h2
      go_wp2_with fail
      go_ret
      exact ⟨ord, hR, ret_int (by simp [powOf, H1.out]), HK.out⟩

theorem fnExactStartPower_walk (A0 : Option Addr) (c0 : Nat) (x0 : List (Int × Int)) (w : World) (l0 : x0.length ≤ c0) (m0 : c0 ≤ maxLen) (s0 : Sl w w.heap.size 2 A0 x0.length (enc2 x0)) (i0 : ∀ p ∈ x0, I64 p.1 ∧ I64 p.2) :
    Calls Try.prog 10 #[.slice A0 x0.length c0] w fun e w' => e = .returned (.bool true) ∧ Below w.heap.size w w' := by
  unfold maxLen at m0
  by_cases hm : x0.length ≤ 1048576
  · have hsz : szOf x0.length 1048576 = 1048576 - x0.length := by unfold szOf; rw [if_neg (by omega)]
    go_enter Try.func10, Try.ntmps10
    go_wp2_with fail
    refine (szPlantS_any _ _ _ _ _ (by omega) (by omega) (by omega)).mono ?_
    rintro e w' ⟨rfl, rfl⟩
    rw [hsz]
    clear hsz
    go_wp2_with fail
    refine (toPlantS_any _ _ _ _ s0 hm).mono ?_
    rintro e w1 ⟨D1, d1, rfl, ho1, hb1⟩
    go_wp2_with fail
    refine (specStartPower_any _ _ _ _ (Sl.of_own ho1) hm).mono ?_
    rintro e w2 ⟨ord, hR, rfl, hb2⟩
    have K := hb1.then hb2
    clear hb1 hb2 ho1
    go_wp2_with fail
    refine (toPlantS_any _ _ _ _ (s0.to K) hm).mono ?_
    rintro e w3 ⟨D3, d3, rfl, ho3, hb3⟩
    replace K := K.then hb3
    go_wp2_with fail
    refine (implStartPower_any _ _ _ _ (Sl.of_own ho3) hm).mono ?_
    rintro e w4 ⟨ord', hR', rfl, hb4⟩
    obtain rfl := soB_unique hR' hR
    replace K := K.then hb4
    replace ho3 := ho3.keepB hb4
    clear hb3 hb4
    go_wp2_with fail
    refine (toPlantS_any _ _ _ _ (s0.to K) hm).mono ?_
    rintro e w5 ⟨D5, d5, rfl, ho5, hb5⟩
    replace K := K.then hb5
    replace ho3 := ho3.keepB hb5
    clear hb5
    go_wp2_with fail
    refine (eqPlantS_any _ _ _ _ _ _ _ (Sl.of_own ho3) (Sl.of_own ho5) hm).mono ?_
    rintro e w6 ⟨rfl, hb6⟩
    rw [eq2_self]
    replace K := K.then hb6
    go_wp2_with fail
    go_ret
    exact ⟨rfl, K⟩
  · have hsz : szOf x0.length 1048576 = -1 := by unfold szOf; rw [if_pos (by omega)]
    go_enter Try.func10, Try.ntmps10
    go_wp2_with fail
    refine (szPlantS_any _ _ _ _ _ (by omega) (by omega) (by omega)).mono ?_
    rintro e w' ⟨rfl, rfl⟩
    rw [hsz]
    clear hsz
    go_wp2_with fail
    go_ret
    exact ⟨rfl, Below.refl _ _⟩

end Go.Proofs.Ytdfjmfonkdkcgaa
