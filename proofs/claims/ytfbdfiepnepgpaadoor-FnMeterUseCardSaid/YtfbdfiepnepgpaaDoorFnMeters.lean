/-
  The laws FnMeterAdd and FnMeterUse over drawn readings: the walks.
-/
import Derived.Test.YtfbdfiepnepgpaaDoorMeters
import Derived.Test.YtfbdfiepnepgpaaDoorDraw
import Derived.Test.YtfbdfiepnepgpaaDoorNet
namespace Go.Proofs.YtfbdfiepnepgpaaDoor
open Go.RowKit
set_option linter.unusedVariables false

/-- Two small numbers. -/
def TwoSmall (w : World) (e : Ending) (w' : World) : Prop := ∃ a b : Int, (-10 ≤ a ∧ a ≤ 20000) ∧ (-10 ≤ b ∧ b ≤ 20000) ∧ e = .returned (.tuple #[.int .i64 a, .int .i64 b]) ∧ Below w.heap.size w w'

theorem DrawMeterAdd_any (A : Option Addr) (c : Nat) (xs : List Int) (w : World) (h : Sl w w.heap.size 1 A xs.length (encU xs)) (hc : xs.length ≤ c) (hm : c ≤ maxLen) (hx : ∀ n ∈ xs, 0 ≤ n ∧ n ≤ 255) :
    Calls Tryd.prog 15 #[.slice A xs.length c] w (TwoSmall w) := by
  go_enter Tryd.func15, Tryd.ntmps15
  go_wp2_with fail
  refine (l20Open_any _ _ _ _ h hc hm hx).mono ?_
  rintro e w0 ⟨rfl, hr, hb⟩
  have hr0 : RdU w.heap.size w0 w.heap.size 0 := ⟨0, Nat.le_refl _, hr⟩
  have K := hide hb
  clear hr hb hx
  go_wp2_with fail
  refine (pick_u _ _ _ _ _ hr0 (by omega)).mono ?_
  rintro e w1 ⟨v1, p1, q1, _, rfl, hr1, ho1⟩
  have k1 := q1 (by omega)
  have K1 := hide (K.out.trans (ho1.below (Nat.le_refl _)))
  clear q1 ho1 K hr0
  go_wp2_with fail
  refine (pick_u _ _ _ _ _ hr1 (by omega)).mono ?_
  rintro e w2 ⟨v2, p2, q2, _, rfl, hr2, ho2⟩
  have k2 := q2 (by omega)
  have K2 := hide (K1.out.trans (ho2.below (Nat.le_refl _)))
  clear q2 ho2 K1 hr1
  go_wp2_with fail
  refine (pick_u _ _ _ _ _ hr2 (by omega)).mono ?_
  rintro e w3 ⟨v3, p3, q3, _, rfl, hr3, ho3⟩
  have k3 := q3 (by omega)
  have K3 := hide (K2.out.trans (ho3.below (Nat.le_refl _)))
  clear q3 ho3 K2 hr2
  go_wp2_with fail
  refine (pick_u _ _ _ _ _ hr3 (by omega)).mono ?_
  rintro e w4 ⟨v4, p4, q4, _, rfl, hr4, ho4⟩
  have k4 := q4 (by omega)
  have K4 := hide (K3.out.trans (ho4.below (Nat.le_refl _)))
  clear q4 ho4 K3 hr3
  go_wp2_with fail
  go_ret2
  exact ⟨_, _, by omega, by omega, rfl, K4.out⟩

theorem DrawMeterUse_any (A : Option Addr) (c : Nat) (xs : List Int) (w : World) (h : Sl w w.heap.size 1 A xs.length (encU xs)) (hc : xs.length ≤ c) (hm : c ≤ maxLen) (hx : ∀ n ∈ xs, 0 ≤ n ∧ n ≤ 255) :
    Calls Tryd.prog 20 #[.slice A xs.length c] w (TwoSmall w) := by
  go_enter Tryd.func20, Tryd.ntmps20
  go_wp2_with fail
  refine (l20Open_any _ _ _ _ h hc hm hx).mono ?_
  rintro e w0 ⟨rfl, hr, hb⟩
  have hr0 : RdU w.heap.size w0 w.heap.size 0 := ⟨0, Nat.le_refl _, hr⟩
  have K := hide hb
  clear hr hb hx
  go_wp2_with fail
  refine (pick_u _ _ _ _ _ hr0 (by omega)).mono ?_
  rintro e w1 ⟨v1, p1, q1, _, rfl, hr1, ho1⟩
  have k1 := q1 (by omega)
  have K1 := hide (K.out.trans (ho1.below (Nat.le_refl _)))
  clear q1 ho1 K hr0
  go_wp2_with fail
  refine (pick_u _ _ _ _ _ hr1 (by omega)).mono ?_
  rintro e w2 ⟨v2, p2, q2, _, rfl, hr2, ho2⟩
  have k2 := q2 (by omega)
  have K2 := hide (K1.out.trans (ho2.below (Nat.le_refl _)))
  clear q2 ho2 K1 hr1
  go_wp2_with fail
  refine (pick_u _ _ _ _ _ hr2 (by omega)).mono ?_
  rintro e w3 ⟨v3, p3, q3, _, rfl, hr3, ho3⟩
  have k3 := q3 (by omega)
  have K3 := hide (K2.out.trans (ho3.below (Nat.le_refl _)))
  clear q3 ho3 K2 hr2
  go_wp2_with fail
  refine (pick_u _ _ _ _ _ hr3 (by omega)).mono ?_
  rintro e w4 ⟨v4, p4, q4, _, rfl, hr4, ho4⟩
  have k4 := q4 (by omega)
  have K4 := hide (K3.out.trans (ho4.below (Nat.le_refl _)))
  clear q4 ho4 K3 hr3
  go_wp2_with fail
  go_ret2
  exact ⟨_, _, by omega, by omega, rfl, K4.out⟩

theorem mAdd_cases (a b : Int) : (mAdd a b = -1 ∧ (inB a 0 9999 && inB b 0 9999) = false) ∨ ((0 ≤ a ∧ a ≤ 9999) ∧ (0 ≤ b ∧ b ≤ 9999) ∧ mAdd a b = (a + b) % 10000) := by
  cases h1 : inB a 0 9999 && inB b 0 9999
  · exact .inl ⟨by simp [mAdd, h1], rfl⟩
  · have h2 : inB a 0 9999 = true ∧ inB b 0 9999 = true := by simpa using h1
    exact .inr ⟨inB_true h2.1, inB_true h2.2, by simp [mAdd, h1]⟩
theorem mUse_of (a b : Int) (ha : 0 ≤ a ∧ a ≤ 9999) (hb : 0 ≤ b ∧ b ≤ 9999) : mUse a b = (b - a + 10000) % 10000 := by
  simp [mUse, inB_mk ha.1 ha.2, inB_mk hb.1 hb.2]
theorem mAdd_of (a b : Int) (ha : 0 ≤ a ∧ a ≤ 9999) (hb : 0 ≤ b ∧ b ≤ 9999) : mAdd a b = (a + b) % 10000 := by
  simp [mAdd, inB_mk ha.1 ha.2, inB_mk hb.1 hb.2]

theorem fnMeterAdd_walk (A0 : Option Addr) (c0 : Nat) (x0 : List Int) (w : World) (l0 : x0.length ≤ c0) (m0 : c0 ≤ maxLen) (s0 : Sl w w.heap.size 1 A0 x0.length (encU x0)) (i0 : ∀ n ∈ x0, 0 ≤ n ∧ n ≤ 255) :
    Calls Tryd.prog 3 #[.slice A0 x0.length c0] w fun e w' => e = .returned (.bool true) ∧ Below w.heap.size w w' := by
  have hm2 := m0
  unfold maxLen at m0
  by_cases hm : x0.length ≤ 1048576
  · have HC := hide (DrawMeterAdd_any A0 c0 x0 w s0 l0 hm2 i0)
    clear i0 s0
    go_enter Tryd.func3, Tryd.ntmps3
    go_wp2_with fail
    refine HC.out.mono ?_
    rintro e w1 ⟨a, b, ha, hb, rfl, hb1⟩
    have K := hide hb1
    clear hb1 HC
    rcases mAdd_cases a b with ⟨h1, h2⟩ | ⟨h1, h2, h3⟩
    · have H1 := hide h1
      clear h1 h2
      go_wp2_with fail
      refine (implMeterAdd_any _ _ _).mono ?_
      rintro e w' ⟨rfl, rfl⟩
      rw [H1.out]
      go_wp2_with fail
      refine (specMeterAdd_any _ _ _).mono ?_
      rintro e w' ⟨rfl, rfl⟩
      rw [H1.out]
      go_wp2_with fail
      refine (alive_any _).mono ?_
      rintro e w2 ⟨rfl, hb2⟩
      have K2 := hide (K.out.then hb2)
      clear hb2
      go_wp2_with fail
      go_ret
      exact ⟨rfl, K2.out⟩
    · have E1 := hide (show mUse a ((a + b) % 10000) = b by rw [mUse_of a _ h1 (by omega)]; omega)
      have E2 := hide (show mAdd b a = (a + b) % 10000 by rw [mAdd_of b a h2 h1]; omega)
      have H3 := hide h3
      have u1 : 0 ≤ (a + b) % 10000 := by omega
      have u2 : (a + b) % 10000 < 10000 := by omega
      clear h3
      generalize (a + b) % 10000 = s at *
      go_wp2_with fail
      refine (implMeterAdd_any _ _ _).mono ?_
      rintro e w' ⟨rfl, rfl⟩
      rw [H3.out]
      go_wp2_with fail
      refine (specMeterAdd_any _ _ _).mono ?_
      rintro e w' ⟨rfl, rfl⟩
      rw [H3.out]
      go_wp2_with fail
      refine (implMeterUse_any _ _ _).mono ?_
      rintro e w' ⟨rfl, rfl⟩
      rw [E1.out]
      go_wp2_with fail
      refine (implMeterAdd_any _ _ _).mono ?_
      rintro e w' ⟨rfl, rfl⟩
      rw [E2.out]
      go_wp2_with fail
      go_ret
      exact ⟨rfl, K.out⟩
  · go_enter Tryd.func3, Tryd.ntmps3
    go_wp2_with fail
    go_ret
    exact ⟨rfl, Below.refl _ _⟩

theorem mUse_cases (a b : Int) : (mUse a b = -1) ∨ ((0 ≤ a ∧ a ≤ 9999) ∧ (0 ≤ b ∧ b ≤ 9999) ∧ mUse a b = (b - a + 10000) % 10000) := by
  cases h1 : inB a 0 9999 && inB b 0 9999
  · exact .inl (by simp [mUse, h1])
  · have h2 : inB a 0 9999 = true ∧ inB b 0 9999 = true := by simpa using h1
    exact .inr ⟨inB_true h2.1, inB_true h2.2, by simp [mUse, h1]⟩

theorem fnMeterUse_walk (A0 : Option Addr) (c0 : Nat) (x0 : List Int) (w : World) (l0 : x0.length ≤ c0) (m0 : c0 ≤ maxLen) (s0 : Sl w w.heap.size 1 A0 x0.length (encU x0)) (i0 : ∀ n ∈ x0, 0 ≤ n ∧ n ≤ 255) :
    Calls Tryd.prog 4 #[.slice A0 x0.length c0] w fun e w' => e = .returned (.bool true) ∧ Below w.heap.size w w' := by
  have hm2 := m0
  unfold maxLen at m0
  by_cases hm : x0.length ≤ 1048576
  · have HC := hide (DrawMeterUse_any A0 c0 x0 w s0 l0 hm2 i0)
    clear i0 s0
    go_enter Tryd.func4, Tryd.ntmps4
    go_wp2_with fail
    refine HC.out.mono ?_
    rintro e w1 ⟨a, b, ha, hb, rfl, hb1⟩
    have K := hide hb1
    clear hb1 HC
    rcases mUse_cases a b with h1 | ⟨h1, h2, h3⟩
    · have H1 := hide h1
      clear h1
      go_wp2_with fail
      refine (implMeterUse_any _ _ _).mono ?_
      rintro e w' ⟨rfl, rfl⟩
      rw [H1.out]
      go_wp2_with fail
      refine (specMeterUse_any _ _ _).mono ?_
      rintro e w' ⟨rfl, rfl⟩
      rw [H1.out]
      go_wp2_with fail
      refine (alive_any _).mono ?_
      rintro e w2 ⟨rfl, hb2⟩
      have K2 := hide (K.out.then hb2)
      clear hb2
      go_wp2_with fail
      go_ret
      exact ⟨rfl, K2.out⟩
    · have E1 := hide (show mAdd a ((b - a + 10000) % 10000) = b by rw [mAdd_of a _ h1 (by omega)]; omega)
      have E2 := hide (show mUse b a = (a - b + 10000) % 10000 from mUse_of b a h2 h1)
      have H3 := hide h3
      have hs : (b - a + 10000) % 10000 + (a - b + 10000) % 10000 = 10000 ∨ ((b - a + 10000) % 10000 + (a - b + 10000) % 10000 = 0 ∧ a = b) := by omega
      have u1 : 0 ≤ (b - a + 10000) % 10000 := by omega
      have u2 : (b - a + 10000) % 10000 < 10000 := by omega
      have u3 : 0 ≤ (a - b + 10000) % 10000 := by omega
      have u4 : (a - b + 10000) % 10000 < 10000 := by omega
      clear h3
      generalize (b - a + 10000) % 10000 = s at *
      generalize (a - b + 10000) % 10000 = t at *
      rcases hs with hs | ⟨hs, rfl⟩
      · have b1 : (s + t == 10000) = true := by simp [hs]
        clear hs
        go_wp2_with fail
        refine (implMeterUse_any _ _ _).mono ?_
        rintro e w' ⟨rfl, rfl⟩
        rw [H3.out]
        go_wp2_with fail
        refine (specMeterUse_any _ _ _).mono ?_
        rintro e w' ⟨rfl, rfl⟩
        rw [H3.out]
        go_wp2_with fail
        refine (implMeterUse_any _ _ _).mono ?_
        rintro e w' ⟨rfl, rfl⟩
        rw [E2.out]
        go_wp2_with fail
        refine (implMeterAdd_any _ _ _).mono ?_
        rintro e w' ⟨rfl, rfl⟩
        rw [E1.out]
        go_wp2_with fail
        go_ret
        exact ⟨rfl, K.out⟩
      · have b1 : (s + t == 10000) = false := by simp [hs]
        have b2 : (s + t == 0) = true := by simp [hs]
        clear hs
        go_wp2_with fail
        refine (implMeterUse_any _ _ _).mono ?_
        rintro e w' ⟨rfl, rfl⟩
        rw [H3.out]
        go_wp2_with fail
        refine (specMeterUse_any _ _ _).mono ?_
        rintro e w' ⟨rfl, rfl⟩
        rw [H3.out]
        go_wp2_with fail
        refine (implMeterUse_any _ _ _).mono ?_
        rintro e w' ⟨rfl, rfl⟩
        rw [E2.out]
        go_wp2_with fail
        refine (implMeterAdd_any _ _ _).mono ?_
        rintro e w' ⟨rfl, rfl⟩
        rw [E1.out]
        go_wp2_with fail
        go_ret
        exact ⟨rfl, K.out⟩
  · go_enter Tryd.func4, Tryd.ntmps4
    go_wp2_with fail
    go_ret
    exact ⟨rfl, Below.refl _ _⟩

end Go.Proofs.YtfbdfiepnepgpaaDoor
