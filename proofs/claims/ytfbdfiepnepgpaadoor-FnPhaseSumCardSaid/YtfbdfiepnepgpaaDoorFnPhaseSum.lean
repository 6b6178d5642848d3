/-
  The law FnPhaseSum over drawn loads and phases: the walk.
-/
import Derived.Test.YtfbdfiepnepgpaaDoorPhases
import Derived.Test.YtfbdfiepnepgpaaDoorPhDraw
import Derived.Test.YtfbdfiepnepgpaaDoorFnTaps
namespace Go.Proofs.YtfbdfiepnepgpaaDoor
open Go.RowKit
set_option linter.unusedVariables false

/-- Two drawn lists and a number, in memory of the call's own. -/
def Got2I (w : World) (e : Ending) (w' : World) : Prop :=
  ∃ (xs ys : List Int) (D : Option Addr) (d : Nat) (E : Option Addr) (f : Nat), xs.length ≤ 7 ∧ ys.length ≤ 8 ∧ (∀ n ∈ xs, -1 ≤ n ∧ n ≤ 1000) ∧ (∀ n ∈ ys, -1 ≤ n ∧ n ≤ 3) ∧ e = .returned (.tuple #[.slice D xs.length d, .slice E ys.length f]) ∧
    w'.ownsRow w.heap.size 3 1 (.slice D xs.length d) xs.length (encI xs) ∧ w'.ownsRow w.heap.size 3 1 (.slice E ys.length f) ys.length (encI ys) ∧ Below w.heap.size w w'
def Got3I (w : World) (e : Ending) (w' : World) : Prop :=
  ∃ (xs ys : List Int) (D : Option Addr) (d : Nat) (E : Option Addr) (f : Nat) (z : Int), xs.length ≤ 7 ∧ ys.length ≤ 8 ∧ (∀ n ∈ xs, -1 ≤ n ∧ n ≤ 1000) ∧ (∀ n ∈ ys, -1 ≤ n ∧ n ≤ 3) ∧ (-1 ≤ z ∧ z ≤ 9) ∧ e = .returned (.tuple #[.slice D xs.length d, .slice E ys.length f, .int .i64 z]) ∧
    w'.ownsRow w.heap.size 3 1 (.slice D xs.length d) xs.length (encI xs) ∧ w'.ownsRow w.heap.size 3 1 (.slice E ys.length f) ys.length (encI ys) ∧ Below w.heap.size w w'

theorem DrawPhaseSum_any (A : Option Addr) (c : Nat) (xs : List Int) (w : World) (h : Sl w w.heap.size 1 A xs.length (encU xs)) (hc : xs.length ≤ c) (hm : c ≤ maxLen) (hx : ∀ n ∈ xs, 0 ≤ n ∧ n ≤ 255) :
    Calls Tryd.prog 37 #[.slice A xs.length c] w (Got3I w) := by
  go_enter Tryd.func37, Tryd.ntmps37
  go_wp2_with fail
  refine (l20Open_any _ _ _ _ h hc hm hx).mono ?_
  rintro e w0 ⟨rfl, hr, hb⟩
  have hr0 : RdU w.heap.size w0 w.heap.size 0 := ⟨0, Nat.le_refl _, hr⟩
  have K := hide hb
  have hs := hb.size
  have hlt := hr0.lt
  clear hr hb hx
  go_wp2_with fail
  refine (l20Phases_any _ _ _ _ _ hr0 (by omega) (by omega) (by omega)).mono ?_
  rintro e w1 ⟨xs1, ys, D, d, E, f, h1, h2, h3, h4, rfl, h5, h6, h7, h8⟩
  have K1 := hide (K.out.trans (below_of_grown h8 (Nat.le_refl _) hlt))
  have H3 := hide h3
  have H4 := hide h4
  have H5 := hide (own_mono h5 hs)
  have H6 := hide (own_mono h6 hs)
  have O5 := hide h5
  have O6 := hide h6
  clear h3 h4 h5 h6 h8 hr0
  go_wp2_with fail
  refine (pick_u _ _ _ 3 _ h7 (by omega)).mono ?_
  rintro e w2 ⟨v, u1, u2, _, rfl, k2, o2⟩
  have u3 := u2 (by omega)
  have K2 := hide (K1.out.trans (o2.below (Nat.le_refl _)))
  have P5 := hide (o2.own O5.out hlt)
  have P6 := hide (o2.own O6.out hlt)
  clear u2 o2 h7
  go_wp2_with fail
  refine (pick_u _ _ _ 12 _ k2 (by omega)).mono ?_
  rintro e w3 ⟨v', y1, y2, _, rfl, k3, o3⟩
  have y3 := y2 (by omega)
  have K3 := hide (K2.out.trans (o3.below (Nat.le_refl _)))
  have Q5 := hide (own_mono (o3.own P5.out hlt) hs)
  have Q6 := hide (own_mono (o3.own P6.out hlt) hs)
  clear y2 o3 k2 k3
  go_wp2_with fail
  refine bodyPost_ret (v := .tuple #[.slice D xs1.length d, .slice E ys.length f, .int .i64 (v + v' / 11 * 3)]) (by simp [results, Tryd.results37, go_sem]) rfl ?_
  exact ⟨xs1, ys, D, d, E, f, _, h1, h2, H3.out, H4.out, by omega, rfl, Q5.out, Q6.out, K3.out⟩

/-- The sum of the first k numbers. -/
def sumI (xs : List Int) : Nat → Int
  | 0 => 0
  | k + 1 => sumI xs k + at_ xs k
theorem sumI_in {xs : List Int} (h : ∀ n ∈ xs, -1 ≤ n ∧ n ≤ 1000) (k : Nat) (hk : k ≤ xs.length) : -1 * (k : Int) ≤ sumI xs k ∧ sumI xs k ≤ 1000 * k := by
  induction k with
  | zero => simp [sumI]
  | succ k ih =>
    have := ih (by omega)
    have := h _ (mem_at k (by omega))
    unfold sumI
    omega
theorem sumOf_any (A : Option Addr) (c : Nat) (xs : List Int) (w : World) (h : Sl w w.heap.size 1 A xs.length (encI xs)) (hm : xs.length ≤ 1048576) (hx : ∀ n ∈ xs, -1 ≤ n ∧ n ≤ 1000) :
    Calls Tryd.prog 40 #[.slice A xs.length c] w fun e w' => e = .returned (.int .i64 (sumI xs xs.length)) ∧ w = w' := by
  have HX := hide hx
  clear hx
  go_enter Tryd.func40, Tryd.ntmps40
  go_wp2
  go_loop [3, 4] (fun t i => ∃ k : Nat, k ≤ xs.length ∧ i = .int .i64 k ∧ t = .int .i64 (sumI xs k)) (fun _ i => xs.length - (intOf i).toNat)
  case atStart => exact ⟨0, Nat.zero_le _, rfl, rfl⟩
  case round =>
    obtain ⟨k, hk, rfl, rfl⟩ := hrel
    obtain ⟨g1, g2⟩ := sumI_in HX.out k hk
    by_cases hlt : k < xs.length
    · obtain ⟨b, off, rfl, hbb, hc⟩ := h.int k hlt
      obtain ⟨g3, g4⟩ := HX.out _ (mem_at k hlt)
      go_wp2
      go_round
      case rel => exact ⟨k + 1, by omega, by go_num, rfl⟩
      case measure => simp [intOf]; omega
    · obtain rfl : k = xs.length := by omega
      go_wp2
      go_ret
      exact ⟨rfl, rfl⟩

theorem three_sums {xs ys : List Int} (h : phOk xs ys = true) : phSum xs ys 0 xs.length + phSum xs ys 1 xs.length + phSum xs ys 2 xs.length = sumI xs xs.length := by
  simp only [phOk, Bool.and_eq_true, decide_eq_true_eq, List.all_eq_true] at h
  obtain ⟨⟨_, h2⟩, h3⟩ := h
  have : ∀ k, k ≤ xs.length → phSum xs ys 0 k + phSum xs ys 1 k + phSum xs ys 2 k = sumI xs k := by
    intro k
    induction k with
    | zero => intro; rfl
    | succ k ih =>
      intro hk
      have := ih (by omega)
      have := inB_true (h3 _ (mem_at k (by omega)))
      unfold phSum sumI
      rcases (by omega : at_ ys k = 0 ∨ at_ ys k = 1 ∨ at_ ys k = 2) with e | e | e
      all_goals
        rw [e]
        simp
        omega
  exact this _ (Nat.le_refl _)
theorem ps_cases (xs ys : List Int) (ph : Int) : phaseSumB xs ys ph = -1 ∨ (phOk xs ys = true ∧ 0 ≤ phaseSumB xs ys ph ∧ phaseSumB xs ys ph ≤ 5994) := by
  unfold phaseSumB
  cases h : phOk xs ys
  · left; simp
  · cases h2 : inB ph 0 2
    · left; simp
    · right
      have := phSum_le h ph
      simp
      omega
theorem ps_yes {xs ys : List Int} (h : phOk xs ys = true) (ph : Int) (h0 : 0 ≤ ph) (h2 : ph ≤ 2) : phaseSumB xs ys ph = phSum xs ys ph xs.length := by
  unfold phaseSumB
  rw [h, inB_mk h0 h2]
  rfl

set_option maxHeartbeats 400000 in
theorem fnPhaseSum_walk (A0 : Option Addr) (c0 : Nat) (x0 : List Int) (w : World) (l0 : x0.length ≤ c0) (m0 : c0 ≤ maxLen) (s0 : Sl w w.heap.size 1 A0 x0.length (encU x0)) (i0 : ∀ n ∈ x0, 0 ≤ n ∧ n ≤ 255) :
    Calls Tryd.prog 10 #[.slice A0 x0.length c0] w fun e w' => e = .returned (.bool true) ∧ Below w.heap.size w w' := by
  have hm2 := m0
  unfold maxLen at m0
  by_cases hm : x0.length ≤ 1048576
  · have HC := hide (DrawPhaseSum_any A0 c0 x0 w s0 l0 hm2 i0)
    clear i0 s0
    go_enter Tryd.func10, Tryd.ntmps10
    go_wp2_with fail
    refine HC.out.mono ?_
    rintro e w1 ⟨xs, ys, D, d, E, f, z, hl, hl2, hxr, hyr, hz, rfl, hox, hoy, hb1⟩
    have K := hide hb1
    have HXR := hide hxr
    have HX := hide hox
    have HY := hide hoy
    have hs := hb1.size
    clear hb1 HC hxr hyr hox hoy
    go_wp2_with fail
    refine (implPhaseSum_any _ _ _ _ _ _ _ _ (Sl.of_own HX.out) (Sl.of_own HY.out) (by omega) (by omega)).mono ?_
    rintro e w2 ⟨rfl, hb2⟩
    have X2 := hide (HX.out.keepB hb2)
    have Y2 := hide (HY.out.keepB hb2)
    have K2 := hide (K.out.trans (hb2.mono hs))
    have hs2 := K2.out.size
    clear hb2
    go_wp2_with fail
    refine (specPhaseSum_any _ _ _ _ _ _ _ _ (Sl.of_own X2.out) (Sl.of_own Y2.out) (by omega) (by omega)).mono ?_
    rintro e w' ⟨rfl, rfl⟩
    have HT := hide (ps_cases xs ys z)
    rcases HT.out with hv | ⟨hv, h0, h1⟩
    · rw [hv]
      clear hv HT
      go_wp2_with fail
      refine (alive_any _).mono ?_
      rintro e w4 ⟨rfl, hb4⟩
      have K4 := hide (K2.out.then hb4)
      clear hb4
      go_wp2_with fail
      go_ret
      exact ⟨rfl, K4.out⟩
    · have HV := hide hv
      obtain ⟨p1, p2⟩ := phSum_le hv 0
      obtain ⟨q1, q2⟩ := phSum_le hv 1
      obtain ⟨r1, r2⟩ := phSum_le hv 2
      clear hv HT
      generalize phaseSumB xs ys z = x at *
      go_wp2_with fail
      refine (implPhaseSum_any _ _ _ _ _ _ _ _ (Sl.of_own X2.out) (Sl.of_own Y2.out) (by omega) (by omega)).mono ?_
      rintro e w3 ⟨rfl, hb3⟩
      rw [ps_yes HV.out 0 (by omega) (by omega)]
      have X3 := hide (X2.out.keepB hb3)
      have Y3 := hide (Y2.out.keepB hb3)
      have K3 := hide (K2.out.then hb3)
      clear hb3
      go_wp2_with fail
      refine (implPhaseSum_any _ _ _ _ _ _ _ _ (Sl.of_own X3.out) (Sl.of_own Y3.out) (by omega) (by omega)).mono ?_
      rintro e w4 ⟨rfl, hb4⟩
      rw [ps_yes HV.out 1 (by omega) (by omega)]
      have X4 := hide (X3.out.keepB hb4)
      have Y4 := hide (Y3.out.keepB hb4)
      have K4 := hide (K3.out.then hb4)
      clear hb4
      go_wp2_with fail
      refine (implPhaseSum_any _ _ _ _ _ _ _ _ (Sl.of_own X4.out) (Sl.of_own Y4.out) (by omega) (by omega)).mono ?_
      rintro e w5 ⟨rfl, hb5⟩
      rw [ps_yes HV.out 2 (by omega) (by omega)]
      have X5 := hide (X4.out.keepB hb5)
      have Y5 := hide (Y4.out.keepB hb5)
      have K5 := hide (K4.out.then hb5)
      clear hb5
      go_wp2_with fail
      refine (sumOf_any _ _ _ _ (Sl.of_own X5.out) (by omega) HXR.out).mono ?_
      rintro e w' ⟨rfl, rfl⟩
      go_wp2_with fail
      go_ret
      exact ⟨ret_bool (by simpa using three_sums HV.out), K5.out⟩
  · go_enter Tryd.func10, Tryd.ntmps10
    go_wp2_with fail
    go_ret
    exact ⟨rfl, Below.refl _ _⟩

end Go.Proofs.YtfbdfiepnepgpaaDoor
