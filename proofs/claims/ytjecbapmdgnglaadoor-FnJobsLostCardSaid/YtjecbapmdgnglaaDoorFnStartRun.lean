/-
  The law FnStartRun over drawn plants and an order: the walk.
-/
import Derived.Test.YtjecbapmdgnglaaDoorFnStarts
import Derived.Test.YtjecbapmdgnglaaDoorBandDraw
namespace Go.Proofs.YtjecbapmdgnglaaDoor
open Go.RowKit
set_option linter.unusedVariables false

/-- A drawn list of pairs and one of numbers, in memory of the call's own. -/
def Got2L (t : TypeId) (w : World) (e : Ending) (w' : World) : Prop :=
  ∃ (xs : List (Int × Int)) (ys : List Int) (D : Option Addr) (d : Nat) (E : Option Addr) (f : Nat), xs.length ≤ 9 ∧ ys.length ≤ 11 ∧ e = .returned (.tuple #[.slice D xs.length d, .slice E ys.length f]) ∧
    w'.ownsRow w.heap.size t 2 (.slice D xs.length d) xs.length (enc2 xs) ∧ w'.ownsRow w.heap.size 3 1 (.slice E ys.length f) ys.length (encI ys) ∧ Below w.heap.size w w'

set_option maxHeartbeats 1000000 in
theorem DrawStartRun_any (A : Option Addr) (c : Nat) (xs : List Int) (w : World) (h : Sl w w.heap.size 1 A xs.length (encU xs)) (hc : xs.length ≤ c) (hm : c ≤ maxLen) (hx : ∀ n ∈ xs, 0 ≤ n ∧ n ≤ 255) :
    Calls Tryd.prog 37 #[.slice A xs.length c] w (Got2L 46 w) := by
  go_enter Tryd.func37, Tryd.ntmps37
  go_wp2_with fail
  refine (l20Open_any _ _ _ _ h hc hm hx).mono ?_
  rintro e w0 ⟨rfl, hr, hb⟩
  have hr0 : RdU w.heap.size w0 w.heap.size 0 := ⟨0, Nat.le_refl _, hr⟩
  have K := hide hb
  have hs := hb.size
  have hlt := hr0.lt
  clear hr hb hx h hc hm
  go_wp2_with fail
  refine (l20Plants_any _ _ _ _ _ hr0 (by omega) (by omega)).mono ?_
  rintro e w1 ⟨xs1, D, d, h1, h2, rfl, h3, h4, h5⟩
  generalize xs1 = xs at *
  have K1 := hide (K.out.trans (below_of_grown h5 (Nat.le_refl _) hlt))
  have H2 := hide h2
  have HX1 := hide h3
  have R1 := hide h4
  have hg1 := h4.lt
  clear h2 h3 h4 h5 hr0
  have HY1 := hide (World.ownsRow_lit (base := w1.heap.size) (e := 3) (size := 1) w1 #[] 0 (Nat.le_refl _) (Nat.zero_le _) rfl)
  have X1 := hide (HX1.out.alloc (.cells #[] 3))
  have R1a := hide (R1.out.grown (World.grownBy_alloc w1 (.cells #[] 3) none) (fun k hk => by cases hk))
  have K1a := hide (K1.out.alloc K1.out.size (.cells #[] 3))
  go_wp2_with fail
  refine (pick_u _ _ _ 12 _ R1a.out (by omega)).mono ?_
  rintro e w2 ⟨v, v1, v2, _, rfl, k2, o2⟩
  have v3 := v2 (by omega)
  obtain ⟨m0, rfl⟩ := Int.eq_ofNat_of_zero_le v1
  have R2 := hide k2
  have K2 := hide (K1a.out.trans (o2.below (Nat.le_refl _)))
  have X2 := hide (o2.own X1.out hlt)
  have Y2 := hide (o2.own HY1.out hg1)
  have hs2 : w1.heap.size ≤ w2.heap.size := by have := o2.2; simp at this; omega
  clear v2 o2 k2
  go_wp2_with fail
  go_loopw [6, 7, 8] (fun v q i wr => ∃ (ys : List Int) (E : Option Addr) (f m : Nat) (p : Int), v = .slice E ys.length f ∧ q = .int .i64 p ∧ i = .int .i64 m ∧ ys.length + m ≤ 11 ∧ -1 * (ys.length : Int) ≤ p ∧ p ≤ 1000 * ys.length ∧ Hid (wr.ownsRow w0.heap.size 46 2 (.slice D xs.length d) xs.length (enc2 xs)) ∧ Hid (wr.ownsRow w1.heap.size 3 1 (.slice E ys.length f) ys.length (encI ys)) ∧ Hid (RdU w.heap.size wr w.heap.size (300 - 2 * m)) ∧ Hid (Below w.heap.size w wr) ∧ w1.heap.size ≤ wr.heap.size) (fun _ _ i _ => (intOf i).toNat)
  case atStart => exact ⟨[], _, _, m0, 0, rfl, rfl, rfl, by simp; omega, by simp, by simp, X2, Y2, hide (R2.out.more (by omega)), K2, hs2⟩
  case round =>
    obtain ⟨ys, E, f, m, p, rfl, rfl, rfl, hl, p1, p2, X3, Y3, R3, K3, hs3⟩ := hrel
    by_cases hm0 : 0 < m
    · by_cases hx0 : 0 < xs.length
      · go_wp2_with fail
        refine (pick_u _ _ _ _ _ R3.out (by omega)).mono ?_
        rintro e w3 ⟨v, v1, v2, _, rfl, k3, o3⟩
        have v3 := v2 (by omega)
        obtain ⟨j, rfl⟩ := Int.eq_ofNat_of_zero_le v1
        have hj : j < xs.length := by omega
        have R4 := hide k3
        have K4 := hide (K3.out.trans (o3.below (Nat.le_refl _)))
        have X4 := hide (o3.own X3.out hlt)
        have Y4 := hide (o3.own Y3.out hg1)
        have hs4 : w1.heap.size ≤ w3.heap.size := by have := o3.2; omega
        obtain ⟨r1, r2⟩ := range_at H2.out j hj
        clear v2 o3 k3
        cases hh : hasB ys j
        · by_cases hn : (at2 xs j).1 ≤ p
          · have HH := hide hh
            clear hh
            go_wp2_with fail
            refine (l1Has_any _ _ _ _ _ _ rfl (Sl.of_own Y4.out) (by omega)).mono ?_
            rintro e w' ⟨rfl, rfl⟩
            rw [HH.out]
            obtain ⟨b, off, rfl, hbb, hc, hd⟩ := (Sl.of_own X4.out).two j hj
            go_wp2_with (at_builtin; refine app_int_w w3 rfl (.tmp 47) (.tmp 49) rfl w1.heap.size E ys.length f ys j rfl Y4.out w3.heap.size rfl rfl hs4 (by omega) ?_; intro E2 f2 w5 ho5 hg5; have X5 := hide (X4.out.kept hg5 (own_ne HX1.out Y4.out (Nat.le_refl _))); have HO5 := hide ho5; have R5 := hide (R4.out.grown hg5 (fun k hk => by have := own_big Y4.out k hk; omega)); have K5 := hide (K4.out.trans ((grown_below Y4.out hg5 hs4).mono (by omega))); have hs5 : w1.heap.size ≤ w5.heap.size := Nat.le_trans hs4 hg5.size; obtain ⟨b', off', hA', hbb', hc', hd'⟩ := (Sl.of_own X5.out).two j hj; simp only [Option.some.injEq, Addr.mk.injEq] at hA'; obtain ⟨rfl, rfl, _⟩ := hA'; clear ho5 hg5)
            go_roundw
            case rel => exact ⟨ys ++ [(j : Int)], E2, f2, m - 1, p + (at2 xs j).2, by simp, rfl, by go_num, by simp; omega, by simp; omega, by simp; omega, X5, by simpa using HO5, hide (R5.out.more (by omega)), K5, hs5⟩
            case measure => simp [intOf]; omega
          · skip
            have HH := hide hh
            clear hh
            go_wp2_with fail
            refine (l1Has_any _ _ _ _ _ _ rfl (Sl.of_own Y4.out) (by omega)).mono ?_
            rintro e w' ⟨rfl, rfl⟩
            rw [HH.out]
            obtain ⟨b, off, rfl, hbb, hc, hd⟩ := (Sl.of_own X4.out).two j hj
            go_wp2_with fail
            clear hc hd
            refine (odd_u _ _ _ 20 _ R4.out (by omega) (by omega)).mono ?_
            rintro e w4 ⟨bb, rfl, k4, o4⟩
            have R6 := hide k4
            have K6 := hide (K4.out.trans (o4.below (Nat.le_refl _)))
            have X6 := hide (o4.own X4.out hlt)
            have Y6 := hide (o4.own Y4.out hg1)
            have hs6 : w1.heap.size ≤ w4.heap.size := by have := o4.2; omega
            clear k4 o4
            cases bb
            · go_wp2_with fail
              go_roundw
              case rel => exact ⟨ys, E, f, m - 1, p, rfl, rfl, by go_num, by omega, by omega, by omega, X6, Y6, hide (R6.out.more (by omega)), K6, hs6⟩
              case measure => simp [intOf]; omega
            · obtain ⟨b', off', hA', hbb', hc', hd'⟩ := (Sl.of_own X6.out).two j hj
              simp only [Option.some.injEq, Addr.mk.injEq] at hA'
              obtain ⟨rfl, rfl, _⟩ := hA'
              go_wp2_with (at_builtin; refine app_int_w w4 rfl (.tmp 47) (.tmp 49) rfl w1.heap.size E ys.length f ys j rfl Y6.out w4.heap.size rfl rfl hs6 (by omega) ?_; intro E2 f2 w5 ho5 hg5; have X5 := hide (X6.out.kept hg5 (own_ne HX1.out Y6.out (Nat.le_refl _))); have HO5 := hide ho5; have R5 := hide (R6.out.grown hg5 (fun k hk => by have := own_big Y6.out k hk; omega)); have K5 := hide (K6.out.trans ((grown_below Y6.out hg5 hs6).mono (by omega))); have hs5 : w1.heap.size ≤ w5.heap.size := Nat.le_trans hs6 hg5.size; obtain ⟨b'', off'', hA'', hbb'', hc'', hd''⟩ := (Sl.of_own X5.out).two j hj; simp only [Option.some.injEq, Addr.mk.injEq] at hA''; obtain ⟨rfl, rfl, _⟩ := hA''; clear ho5 hg5)
              go_roundw
              case rel => exact ⟨ys ++ [(j : Int)], E2, f2, m - 1, p + (at2 xs j).2, by simp, rfl, by go_num, by simp; omega, by simp; omega, by simp; omega, X5, by simpa using HO5, hide (R5.out.more (by omega)), K5, hs5⟩
              case measure => simp [intOf]; omega
        · skip
          have HH := hide hh
          clear hh
          go_wp2_with fail
          refine (l1Has_any _ _ _ _ _ _ rfl (Sl.of_own Y4.out) (by omega)).mono ?_
          rintro e w' ⟨rfl, rfl⟩
          rw [HH.out]
          obtain ⟨b, off, rfl, hbb, hc, hd⟩ := (Sl.of_own X4.out).two j hj
          go_wp2_with fail
          clear hc hd
          refine (odd_u _ _ _ 20 _ R4.out (by omega) (by omega)).mono ?_
          rintro e w4 ⟨bb, rfl, k4, o4⟩
          have R6 := hide k4
          have K6 := hide (K4.out.trans (o4.below (Nat.le_refl _)))
          have X6 := hide (o4.own X4.out hlt)
          have Y6 := hide (o4.own Y4.out hg1)
          have hs6 : w1.heap.size ≤ w4.heap.size := by have := o4.2; omega
          clear k4 o4
          cases bb
          · go_wp2_with fail
            go_roundw
            case rel => exact ⟨ys, E, f, m - 1, p, rfl, rfl, by go_num, by omega, by omega, by omega, X6, Y6, hide (R6.out.more (by omega)), K6, hs6⟩
            case measure => simp [intOf]; omega
          · obtain ⟨b', off', hA', hbb', hc', hd'⟩ := (Sl.of_own X6.out).two j hj
            simp only [Option.some.injEq, Addr.mk.injEq] at hA'
            obtain ⟨rfl, rfl, _⟩ := hA'
            go_wp2_with (at_builtin; refine app_int_w w4 rfl (.tmp 47) (.tmp 49) rfl w1.heap.size E ys.length f ys j rfl Y6.out w4.heap.size rfl rfl hs6 (by omega) ?_; intro E2 f2 w5 ho5 hg5; have X5 := hide (X6.out.kept hg5 (own_ne HX1.out Y6.out (Nat.le_refl _))); have HO5 := hide ho5; have R5 := hide (R6.out.grown hg5 (fun k hk => by have := own_big Y6.out k hk; omega)); have K5 := hide (K6.out.trans ((grown_below Y6.out hg5 hs6).mono (by omega))); have hs5 : w1.heap.size ≤ w5.heap.size := Nat.le_trans hs6 hg5.size; obtain ⟨b'', off'', hA'', hbb'', hc'', hd''⟩ := (Sl.of_own X5.out).two j hj; simp only [Option.some.injEq, Addr.mk.injEq] at hA''; obtain ⟨rfl, rfl, _⟩ := hA''; clear ho5 hg5)
            go_roundw
            case rel => exact ⟨ys ++ [(j : Int)], E2, f2, m - 1, p + (at2 xs j).2, by simp, rfl, by go_num, by simp; omega, by simp; omega, by simp; omega, X5, by simpa using HO5, hide (R5.out.more (by omega)), K5, hs5⟩
            case measure => simp [intOf]; omega
      · go_wp2_with fail
        refine bodyPost_ret (v := .tuple #[.slice D xs.length d, .slice E ys.length f]) (by simp [results, Tryd.results37, go_sem]) rfl ?_
        exact ⟨xs, ys, D, d, E, f, h1, by omega, rfl, own_mono X3.out hs, own_mono Y3.out (by have := K1.out.size; omega), K3.out⟩
    · go_wp2_with fail
      refine bodyPost_ret (v := .tuple #[.slice D xs.length d, .slice E ys.length f]) (by simp [results, Tryd.results37, go_sem]) rfl ?_
      exact ⟨xs, ys, D, d, E, f, h1, by omega, rfl, own_mono X3.out hs, own_mono Y3.out (by have := K1.out.size; omega), K3.out⟩

theorem fnStartRun_walk (A0 : Option Addr) (c0 : Nat) (x0 : List Int) (w : World) (l0 : x0.length ≤ c0) (m0 : c0 ≤ maxLen) (s0 : Sl w w.heap.size 1 A0 x0.length (encU x0)) (i0 : ∀ n ∈ x0, 0 ≤ n ∧ n ≤ 255) :
    Calls Tryd.prog 8 #[.slice A0 x0.length c0] w fun e w' => e = .returned (.bool true) ∧ Below w.heap.size w w' := by
  have hm2 := m0
  unfold maxLen at m0
  by_cases hm : x0.length ≤ 1048576
  · have HC := hide (DrawStartRun_any A0 c0 x0 w s0 l0 hm2 i0)
    clear i0 s0
    go_enter Tryd.func8, Tryd.ntmps8
    go_wp2_with fail
    refine HC.out.mono ?_
    rintro e w1 ⟨xs, ys, D, d, E, f, hl, hl2, rfl, hox, hoy, hb1⟩
    have K := hide hb1
    have HX := hide hox
    have HY := hide hoy
    obtain ⟨_, _, hv4, hc4, hc4'⟩ := own_slice hoy
    cases hv4
    have hc5 := hc4'
    unfold maxLen at hc4'
    clear hb1 HC hox hoy
    go_wp2_with fail
    refine (implStartRun_any _ _ _ _ _ _ _ (Sl.of_own HX.out) (Sl.of_own HY.out) (by omega) (by omega) hc4 hc5).mono ?_
    rintro e w2 ⟨rfl, hb2⟩
    have X2 := hide (HX.out.keepB hb2)
    have Y2 := hide (HY.out.keepB hb2)
    have K2 := hide (K.out.then hb2)
    clear hb2
    rcases outV_cases (startB xs ys) with ⟨x, q1, q2⟩ | ⟨q1, q2⟩
    · have Q1 := hide q1
      have Q2 := hide q2
      rw [q2]
      clear q1 q2
      go_wp2_with fail
      refine (specStartRun_any _ _ _ _ _ _ _ (Sl.of_own X2.out) (Sl.of_own Y2.out) (by omega) (by omega) hc4 hc5).mono ?_
      rintro e w3 ⟨rfl, hb3⟩
      rw [Q2.out]
      have X3 := hide (X2.out.keepB hb3)
      have Y3 := hide (Y2.out.keepB hb3)
      have K3 := hide (K2.out.then hb3)
      clear hb3
      have hv := (startB_run Q1.out).1
      go_wp2_with fail
      refine (implStartOrder_any _ _ _ _ (Sl.of_own X3.out) (by omega)).mono ?_
      rintro e w4 ⟨ord, G, g, hso, rfl, hoo, hb4⟩
      have X4 := hide (X3.out.keepB hb4)
      have Y4 := hide (Y3.out.keepB hb4)
      have O4 := hide hoo
      have K4 := hide (K3.out.then hb4)
      have hl8 := soB_len hso
      have HW := hide (withinB_yes (xs := ys) (ys := ord) fun j hj => by
        have := start_within Q1.out (hso.1 hv) _ (mem_at j hj)
        simpa [hasB] using this)
      clear hb4 hoo hso hv
      go_wp2_with fail
      refine (within_any _ _ _ _ _ _ _ (Sl.of_own Y4.out) (Sl.of_own O4.out) (by omega) (by omega)).mono ?_
      rintro e w' ⟨rfl, rfl⟩
      rw [HW.out]
      by_cases hy0 : ys.length = 0
      · obtain rfl := List.eq_nil_of_length_eq_zero hy0
        have hx0 : x = 0 := by
          have := (startB_run Q1.out).2
          simp [runF] at this
          exact this.symm
        subst hx0
        clear hy0
        go_wp2_with fail
        go_ret
        exact ⟨rfl, K4.out⟩
      · obtain ⟨n, hn⟩ : ∃ n, n + 1 = ys.length := ⟨ys.length - 1, by omega⟩
        obtain ⟨-, -, hf3⟩ := runF_facts ys.length (Nat.le_refl _) x (startB_run Q1.out).2
        rw [List.take_length] at hf3
        obtain ⟨m, hm⟩ := Int.eq_ofNat_of_zero_le (hf3 _ (mem_at n (by omega))).1
        obtain ⟨e1, e2, e3⟩ := start_last Q1.out n m hn hm
        have E1 := hide e1
        have HMM := hide hm
        have HT := hide ((Sl.of_own Y4.out).take n (by omega))
        have HKL := hide (show (ys.take n).length = n by simp; omega)
        have i0 : (0 : Int) ≤ n := by omega
        have i1 : (n : Int) ≤ f := by omega
        have hln : (ys.length : Int) - 1 = n := by omega
        obtain ⟨y1, y2⟩ := (plant_at (startB_run Q1.out).1 m e2).2
        clear e1 hm hf3
        go_wp2_with fail
        have HCS := implStartRun_any _ E d f xs (ys.take n) w4 (Sl.of_own X4.out) HT.out (by omega) (by rw [HKL.out]; omega) (by rw [HKL.out]; omega) hc5
        rw [HKL.out] at HCS
        refine HCS.mono ?_
        clear HCS
        rintro e w6 ⟨rfl, hb6⟩
        rw [E1.out, show outV (some (x - (at2 xs m).2)) = .tuple #[.int .i64 (x - (at2 xs m).2), .bool true] from rfl]
        have X6 := hide (X4.out.keepB hb6)
        have Y6 := hide (Y4.out.keepB hb6)
        have K6 := hide (K4.out.then hb6)
        clear hb6
        obtain ⟨b, off, rfl, hbb, hc, hd⟩ := (Sl.of_own X6.out).two m e2
        obtain ⟨b2, off2, rfl, hbb2, hc2⟩ := (Sl.of_own Y6.out).int n (by omega)
        rw [HMM.out] at hc2
        have i2 : n < ys.length := by omega
        go_wp2_with fail
        go_ret
        exact ⟨ret_bool (by simp), K6.out⟩
    · have Q2 := hide q2
      rw [q2]
      clear q1 q2
      go_wp2_with fail
      refine (specStartRun_any _ _ _ _ _ _ _ (Sl.of_own X2.out) (Sl.of_own Y2.out) (by omega) (by omega) hc4 hc5).mono ?_
      rintro e w3 ⟨rfl, hb3⟩
      rw [Q2.out]
      have K3 := hide (K2.out.then hb3)
      clear hb3
      go_wp2_with fail
      refine (alive_any _).mono ?_
      rintro e w5 ⟨rfl, hb5⟩
      have K5 := hide (K3.out.then hb5)
      clear hb5
      go_wp2_with fail
      go_ret
      exact ⟨rfl, K5.out⟩
  · go_enter Tryd.func8, Tryd.ntmps8
    go_wp2_with fail
    go_ret
    exact ⟨rfl, Below.refl _ _⟩

end Go.Proofs.YtjecbapmdgnglaaDoor
