/-
  The law FnJobsLost over drawn jobs and an order: the walk.
-/
import Derived.Test.YtjecbapmdgnglaaDoorFnJobs
import Derived.Test.YtjecbapmdgnglaaDoorFnStartRun
import Derived.Test.YtjecbapmdgnglaaDoorPhDraw
import Derived.Deep.RegionHeld3
import Derived.IntWalk
import Derived.Outline
namespace Go.Proofs.YtjecbapmdgnglaaDoor
open Go.RowKit
set_option linter.unusedVariables false

/-- The first k elements of a row of the call's own. -/
theorem own_take {w : World} {base e n c : Nat} {A : Option Addr} {xs : List Int} (h : w.ownsRow base e 1 (.slice A n c) n (encI xs)) (k : Nat) (hk : k ≤ n) : w.ownsRow base e 1 (.slice A k c) k (encI (xs.take k)) := by
  have hl : xs.length = n := by have := h.1; rw [encI_len] at this; omega
  obtain ⟨h1, h2⟩ := h
  refine ⟨by rw [encI_len]; simp; omega, ?_⟩
  rcases h2 with ⟨h2, h3⟩ | ⟨g, cap, cur, hv, hg, hh, r1, r2, r3⟩
  · left
    injection h2 with e1 e2 e3
    subst e1 e2 e3
    obtain rfl : k = 0 := by omega
    exact ⟨rfl, by simp⟩
  · right
    injection hv with e1 e2 e3
    subst e1 e3
    refine ⟨g, _, cur, rfl, hg, hh, by omega, r2, r3.1, ?_⟩
    have := congrArg (List.take k) r3.2
    rw [List.take_take] at this
    rw [show encI (xs.take k) = (encI xs).take k by simp [encI, List.map_take], ← this]
    congr 1
    omega
theorem two_new (wz : World) (s : Nat) (t : TypeId) (a b c d : Value) (h : wz.heap.size = s) : ((wz.alloc (.cells #[a, b] t)).alloc (.cells #[c, d] t)).cell? ⟨s, 0, none⟩ = some a ∧ ((wz.alloc (.cells #[a, b] t)).alloc (.cells #[c, d] t)).cell? ⟨s, 1, none⟩ = some b ∧
    ((wz.alloc (.cells #[a, b] t)).alloc (.cells #[c, d] t)).cell? ⟨s + 1, 0, none⟩ = some c ∧ ((wz.alloc (.cells #[a, b] t)).alloc (.cells #[c, d] t)).cell? ⟨s + 1, 1, none⟩ = some d := by
  subst h
  have h1 := (Blk.new wz t #[a, b]).alloc (.cells #[c, d] t)
  have h2 := Blk.new (wz.alloc (.cells #[a, b] t)) t #[c, d]
  rw [show (wz.alloc (.cells #[a, b] t)).heap.size = wz.heap.size + 1 by simp] at h2
  exact ⟨h1.two.1, h1.two.2, h2.two.1, h2.two.2⟩
theorem Sl.int_at {w : World} {B b off : Nat} {xs : List Int} (h : Sl w B 1 (some ⟨b, off, none⟩) xs.length (encI xs)) (k : Nat) (hk : k < xs.length) : w.cell? ⟨b, off + k, none⟩ = some (.int .i64 (at_ xs k)) := by
  obtain ⟨b', off', hA, _, hc⟩ := h.int k hk
  simp only [Option.some.injEq, Addr.mk.injEq] at hA
  obtain ⟨rfl, rfl, _⟩ := hA
  exact hc
theorem Sl.two_at {w : World} {B b off : Nat} {xs : List (Int × Int)} (h : Sl w B 2 (some ⟨b, off, none⟩) xs.length (enc2 xs)) (k : Nat) (hk : k < xs.length) : w.cell? ⟨b, off + k * 2, none⟩ = some (.int .i64 (at2 xs k).1) ∧ w.cell? ⟨b, off + k * 2 + 1, none⟩ = some (.int .i64 (at2 xs k).2) := by
  obtain ⟨b', off', hA, _, hc⟩ := h.two k hk
  simp only [Option.some.injEq, Addr.mk.injEq] at hA
  obtain ⟨rfl, rfl, _⟩ := hA
  exact hc

set_option maxHeartbeats 1000000 in
theorem DrawJobsLost_any (A : Option Addr) (c : Nat) (xs : List Int) (w : World) (h : Sl w w.heap.size 1 A xs.length (encU xs)) (hc : xs.length ≤ c) (hm : c ≤ maxLen) (hx : ∀ n ∈ xs, 0 ≤ n ∧ n ≤ 255) :
    Calls Tryd.prog 55 #[.slice A xs.length c] w (Got2L 62 w) := by
  go_enter Tryd.func55, Tryd.ntmps55
  go_wp2_with fail
  refine (l20Open_any _ _ _ _ h hc hm hx).mono ?_
  rintro e w0 ⟨rfl, hr, hb⟩
  have hr0 : RdU w.heap.size w0 w.heap.size 0 := ⟨0, Nat.le_refl _, hr⟩
  have K := hide hb
  have hs := hb.size
  have hlt := hr0.lt
  clear hr hb hx h hc hm
  go_wp2_with fail
  refine (l20Jobs_any _ _ _ _ _ hr0 (by omega) (by omega)).mono ?_
  rintro e w1 ⟨xs1, D, d, h1, h2, rfl, h3, h4, h5⟩
  generalize xs1 = xs at *
  have K1 := hide (K.out.trans (below_of_grown h5 (Nat.le_refl _) hlt))
  have HX1 := hide h3
  have R1 := hide h4
  have hg1 := h4.lt
  have hsw := K1.out.size
  clear h2 h3 h4 h5 hr0
  have HY1 := hide (World.ownsRow_lit (base := w1.heap.size) (e := 3) (size := 1) w1 #[] 0 (Nat.le_refl _) (Nat.zero_le _) rfl)
  have X1 := hide (HX1.out.alloc (.cells #[] 3))
  have R1a := hide (R1.out.grown (World.grownBy_alloc w1 (.cells #[] 3) none) (fun k hk => by cases hk))
  have K1a := hide (K1.out.alloc K1.out.size (.cells #[] 3))
  go_wp2_with fail
  go_loopw [6, 7] (fun v i wr => ∃ (k : Nat) (ys : List Int) (g f : Nat), k ≤ xs.length ∧ ys.length = k ∧ v = .slice (some ⟨g, 0, none⟩) k f ∧ i = .int .i64 k ∧ Hid (wr.ownsRow w0.heap.size 62 2 (.slice D xs.length d) xs.length (enc2 xs)) ∧ Hid (wr.ownsRow w1.heap.size 3 1 (.slice (some ⟨g, 0, none⟩) k f) k (encI ys)) ∧ Hid (RdU w.heap.size wr w.heap.size (300 + k)) ∧ Hid (Below w.heap.size w wr) ∧ w1.heap.size ≤ wr.heap.size) (fun _ i _ => xs.length - (intOf i).toNat)
  case atStart => exact ⟨0, [], _, _, Nat.zero_le _, rfl, rfl, rfl, X1, HY1, hide (R1a.out.more (by omega)), K1a, by simp⟩
  case round =>
    obtain ⟨k, ys, g, f, hk, hyl, rfl, rfl, X3, Y3, R3, K3, hs3⟩ := hrel
    have hcap := own_cap Y3.out
    obtain ⟨_, _, hv4, hc4, hc4'⟩ := own_slice Y3.out
    cases hv4
    unfold maxLen at hc4'
    have hyl1 : ys.length ≤ k := by omega
    have hyl2 : k ≤ ys.length := by omega
    have HYL := hide hyl
    clear hyl
    by_cases hlt2 : k < xs.length
    · go_wp2_with fail
      refine (pick_u _ _ _ _ _ R3.out (by omega)).mono ?_
      rintro e w3 ⟨v, v1, v2, _, rfl, k3, o3⟩
      have v3 := v2 (by omega)
      obtain ⟨a, rfl⟩ := Int.eq_ofNat_of_zero_le v1
      have R4 := hide k3
      have K4 := hide (K3.out.trans (o3.below (Nat.le_refl _)))
      have X4 := hide (o3.own X3.out hlt)
      have Y4 := hide (o3.own Y3.out hg1)
      have hs4 : w1.heap.size ≤ w3.heap.size := by have := o3.2; omega
      clear v2 o3 k3
      have B1 := hide (World.ownsRow_lit (base := w3.heap.size) (e := 3) (size := 1) w3 #[] 0 (Nat.le_refl _) (Nat.zero_le _) rfl)
      have HT3 := hide (own_take Y4.out a (by omega))
      by_cases hfa : f = a
      · obtain rfl : k = a := by omega
        obtain rfl : k = f := by omega
        clear hfa
        have B2 := hide (show Sl (w3.alloc (.cells #[] 3)) w3.heap.size 1 (some ⟨g, 0, none⟩) 0 (encI []) from ⟨by simp [encI], fun hn => absurd hn (by simp)⟩)
        have q0 : (0 : Int) ≤ k := by omega
        have q1 : (k : Int) ≤ k := by omega
        have q2 : k ≤ ys.length := by omega
        go_wp2_with (at_builtin; first | (refine app_ints _ rfl (.tmp 25) (.tmp 28) rfl w3.heap.size _ 0 0 [] rfl B1.out _ _ 0 _ [] rfl B2.out (by simp) (by omega) (by omega) ?_; intro D5 d5 w5 ho5 hg5; rw [Nat.zero_add] at ho5 ⊢; have Z5 := hide ho5; have X5 := hide ((X4.out.alloc (.cells #[] 3)).kept hg5 (own_ne X4.out B1.out (Nat.le_refl _))); have Y5 := hide ((Y4.out.alloc (.cells #[] 3)).kept hg5 (own_ne Y4.out B1.out (Nat.le_refl _))); have R5 := hide ((R4.out.grown (World.grownBy_alloc w3 (.cells #[] 3) none) (fun k hk => by cases hk)).grown hg5 (fun k hk => by have := own_big B1.out k hk; omega)); have K5 := hide (K4.out.trans ((((Below.refl w3.heap.size w3).alloc (Nat.le_refl _) (.cells #[] 3)).trans (grown_below B1.out hg5 (by simp))).mono (by omega))); have hs5 : w1.heap.size ≤ w5.heap.size := Nat.le_trans hs4 (Nat.le_trans (by simp) hg5.size); have HT2 := hide (own_take Y5.out k (by omega)); clear ho5 hg5) | (refine app_int_w w5 rfl (.tmp 32) (.tmp 34) rfl w1.heap.size (some ⟨g, 0, none⟩) k k (ys.take k) k rfl HT2.out w5.heap.size rfl rfl hs5 (by omega) ?_; intro D6 d6 w6 ho6 hg6; have O6 := hide ho6; have X6 := hide (X5.out.kept hg6 (own_ne HX1.out HT2.out (Nat.le_refl _))); have R6 := hide (R5.out.grown hg6 (fun k hk => by have := own_big HT2.out k hk; omega)); have K6 := hide (K5.out.trans ((grown_below HT2.out hg6 hs5).mono hsw)); have hs6 : w1.heap.size ≤ w6.heap.size := Nat.le_trans hs5 hg6.size; have Z6 := hide (Z5.out.kept hg6 (own_ne' HT3.out Z5.out (Nat.le_refl _))); clear ho6 hg6) | (refine app_ints w6 rfl (.tmp 35) (.tmp 36) rfl w1.heap.size D6 (k + 1) d6 (ys.take k ++ [(k : Int)]) rfl O6.out _ _ 0 _ ([] ++ []) rfl (Sl.of_own Z6.out) hs6 (by omega) (by omega) ?_; intro D7 d7 w7 ho7 hg7; have O7 := hide ho7; have X7 := hide (X6.out.kept hg7 (own_ne HX1.out O6.out (Nat.le_refl _))); have R7 := hide (R6.out.grown hg7 (fun k hk => by have := own_big O6.out k hk; omega)); have K7 := hide (K6.out.trans ((grown_below O6.out hg7 hs6).mono hsw)); have hs7 : w1.heap.size ≤ w7.heap.size := Nat.le_trans hs6 hg7.size; clear ho7 hg7))
        obtain ⟨g2, cap2, hvv, _, _⟩ := O7.out.form (by omega)
        cases hvv
        go_roundw
        case rel => exact ⟨k + 1, ys.take k ++ [(k : Int)] ++ ([] ++ []), g2, d7, by omega, by simp; omega, by rw [show k + 1 + 0 = k + 1 by omega], by go_num, X7, hide (by have := O7.out; rwa [show k + 1 + 0 = k + 1 by omega] at this), hide (R7.out.more (by omega)), K7, hs7⟩
        case measure => simp [intOf]; omega
      · have hf0 : a < f := by omega
        have hfn : ¬ a = f := by omega
        have hfn2 : ¬ f = a := by omega
        have B2 := hide (show Sl (w3.alloc (.cells #[] 3)) (w3.alloc (.cells #[] 3)).heap.size 1 (some ⟨g, a, none⟩) (k - a) (encI (ys.drop a)) by
          have hy := Sl.of_own (Y4.out.alloc (.cells #[] 3))
          rw [← HYL.out] at hy
          have := hy.dropI a (by omega)
          rw [List.length_drop, HYL.out, Nat.zero_add] at this
          exact this)
        have q0 : (0 : Int) ≤ a := by omega
        have q1 : (a : Int) ≤ f := by omega
        have q2 : a ≤ ys.length := by omega
        go_wp2_with (at_builtin; first | (refine app_ints _ rfl (.tmp 25) (.tmp 28) rfl w3.heap.size _ 0 0 [] rfl B1.out _ _ (k - a) _ (ys.drop a) rfl B2.out (by simp) (by omega) (by omega) ?_; intro D5 d5 w5 ho5 hg5; rw [Nat.zero_add] at ho5 ⊢; have Z5 := hide ho5; have X5 := hide ((X4.out.alloc (.cells #[] 3)).kept hg5 (own_ne X4.out B1.out (Nat.le_refl _))); have Y5 := hide ((Y4.out.alloc (.cells #[] 3)).kept hg5 (own_ne Y4.out B1.out (Nat.le_refl _))); have R5 := hide ((R4.out.grown (World.grownBy_alloc w3 (.cells #[] 3) none) (fun k hk => by cases hk)).grown hg5 (fun k hk => by have := own_big B1.out k hk; omega)); have K5 := hide (K4.out.trans ((((Below.refl w3.heap.size w3).alloc (Nat.le_refl _) (.cells #[] 3)).trans (grown_below B1.out hg5 (by simp))).mono (by omega))); have hs5 : w1.heap.size ≤ w5.heap.size := Nat.le_trans hs4 (Nat.le_trans (by simp) hg5.size); have HT2 := hide (own_take Y5.out a (by omega)); clear ho5 hg5) | (refine app_int_w w5 rfl (.tmp 32) (.tmp 34) rfl w1.heap.size (some ⟨g, 0, none⟩) a f (ys.take a) k rfl HT2.out w5.heap.size rfl rfl hs5 (by omega) ?_; intro D6 d6 w6 ho6 hg6; have O6 := hide ho6; have X6 := hide (X5.out.kept hg6 (own_ne HX1.out HT2.out (Nat.le_refl _))); have R6 := hide (R5.out.grown hg6 (fun k hk => by have := own_big HT2.out k hk; omega)); have K6 := hide (K5.out.trans ((grown_below HT2.out hg6 hs5).mono hsw)); have hs6 : w1.heap.size ≤ w6.heap.size := Nat.le_trans hs5 hg6.size; have Z6 := hide (Z5.out.kept hg6 (own_ne' HT3.out Z5.out (Nat.le_refl _))); clear ho6 hg6) | (refine app_ints w6 rfl (.tmp 35) (.tmp 36) rfl w1.heap.size D6 (a + 1) d6 (ys.take a ++ [(k : Int)]) rfl O6.out _ _ (k - a) _ ([] ++ (ys.drop a)) rfl (Sl.of_own Z6.out) hs6 (by omega) (by omega) ?_; intro D7 d7 w7 ho7 hg7; have O7 := hide ho7; have X7 := hide (X6.out.kept hg7 (own_ne HX1.out O6.out (Nat.le_refl _))); have R7 := hide (R6.out.grown hg7 (fun k hk => by have := own_big O6.out k hk; omega)); have K7 := hide (K6.out.trans ((grown_below O6.out hg7 hs6).mono hsw)); have hs7 : w1.heap.size ≤ w7.heap.size := Nat.le_trans hs6 hg7.size; clear ho7 hg7))
        obtain ⟨g2, cap2, hvv, _, _⟩ := O7.out.form (by omega)
        cases hvv
        go_roundw
        case rel => exact ⟨k + 1, ys.take a ++ [(k : Int)] ++ ([] ++ (ys.drop a)), g2, d7, by omega, by simp; omega, by rw [show a + 1 + (k - a) = k + 1 by omega], by go_num, X7, hide (by have := O7.out; rwa [show a + 1 + (k - a) = k + 1 by omega] at this), hide (R7.out.more (by omega)), K7, hs7⟩
        case measure => simp [intOf]; omega
    · obtain rfl : k = xs.length := by omega
      go_wp2_with fail
      refine (odd_u _ _ _ 9 _ R3.out (by omega) (by omega)).mono ?_
      rintro e w4 ⟨bb, rfl, k4, o4⟩
      have R4 := hide k4
      have K4 := hide (K3.out.trans (o4.below (Nat.le_refl _)))
      have X4 := hide (o4.own X3.out hlt)
      have Y4 := hide (o4.own Y3.out hg1)
      have hs4 : w1.heap.size ≤ w4.heap.size := by have := o4.2; omega
      clear k4 o4
      cases bb
      · go_wp2_with fail
        refine bodyPost_ret (v := .tuple #[.slice D xs.length d, .slice (some ⟨g, 0, none⟩) xs.length f]) (by simp [results, Tryd.results55, go_sem]) rfl ?_
        exact ⟨xs, ys, D, d, some ⟨g, 0, none⟩, f, h1, by omega, by rw [HYL.out], own_mono X4.out hs, by rw [HYL.out]; exact own_mono Y4.out hsw, K4.out⟩
      · go_wp2_with fail
        refine (pick_u _ _ _ 3 _ R4.out (by omega)).mono ?_
        rintro e w5 ⟨v, v1, v2, _, rfl, k5, o5⟩
        have K5 := hide (K4.out.trans (o5.below (Nat.le_refl _)))
        have X5 := hide (o5.own X4.out hlt)
        have Y5 := hide (o5.own Y4.out hg1)
        have hs5 : w1.heap.size ≤ w5.heap.size := by have := o5.2; omega
        clear v2 o5 k5
        go_wp2_with (at_builtin; refine app_int_w w5 rfl (.tmp 41) (.tmp 44) rfl w1.heap.size (some ⟨g, 0, none⟩) xs.length f ys v rfl Y5.out w5.heap.size rfl rfl hs5 (by omega) ?_; intro D6 d6 w6 ho6 hg6; have O6 := hide ho6; have X6 := hide (X5.out.kept hg6 (own_ne HX1.out Y5.out (Nat.le_refl _))); have K6 := hide (K5.out.trans ((grown_below Y5.out hg6 hs5).mono hsw)); clear ho6 hg6)
        refine bodyPost_ret (v := .tuple #[.slice D xs.length d, .slice D6 (xs.length + 1) d6]) (by simp [results, Tryd.results55, go_sem]) rfl ?_
        exact ⟨xs, ys ++ [v], D, d, D6, d6, h1, by simp; omega, by simp [HYL.out], own_mono X6.out hs, by simpa [HYL.out] using own_mono O6.out hsw, K6.out⟩

set_option maxHeartbeats 1000000 in
theorem fnJobsLost_walk (A0 : Option Addr) (c0 : Nat) (x0 : List Int) (w : World) (l0 : x0.length ≤ c0) (m0 : c0 ≤ maxLen) (s0 : Sl w w.heap.size 1 A0 x0.length (encU x0)) (i0 : ∀ n ∈ x0, 0 ≤ n ∧ n ≤ 255) :
    Calls Tryd.prog 13 #[.slice A0 x0.length c0] w fun e w' => e = .returned (.bool true) ∧ Below w.heap.size w w' := by
  have hm2 := m0
  unfold maxLen at m0
  by_cases hm : x0.length ≤ 1048576
  · have HC := hide (DrawJobsLost_any A0 c0 x0 w s0 l0 hm2 i0)
    clear i0 s0
    go_enter Tryd.func13, Tryd.ntmps13
    go_wp2_with fail
    refine HC.out.mono ?_
    rintro e w1 ⟨xs, ord, D, d, E, f, hl, hl2, rfl, hox, hoy, hb1⟩
    have K := hide hb1
    have HX := hide hox
    have HY := hide hoy
    obtain ⟨_, _, hv4, hc4, hc4'⟩ := own_slice hoy
    cases hv4
    clear hb1 HC hox hoy
    go_wp2_with fail
    refine (implJobsLost_any _ _ _ _ _ _ _ (Sl.of_own HX.out) (Sl.of_own HY.out) (by omega) (by omega) hc4 hc4').mono ?_
    rintro e w2 ⟨rfl, hb2⟩
    have X2 := hide (HX.out.keepB hb2)
    have Y2 := hide (HY.out.keepB hb2)
    have K2 := hide (K.out.then hb2)
    clear hb2
    go_wp2_with fail
    refine (specJobsLost_any _ _ _ _ _ _ _ (Sl.of_own X2.out) (Sl.of_own Y2.out) (by omega) (by omega) hc4 hc4').mono ?_
    rintro e w3 ⟨rfl, hb3⟩
    have X3 := hide (X2.out.keepB hb3)
    have Y3 := hide (Y2.out.keepB hb3)
    have K3 := hide (K2.out.then hb3)
    clear hb3
    have HT := hide (lostB_or xs ord)
    rcases HT.out with hv | hv
    · rw [hv]
      clear hv HT
      go_wp2_with fail
      refine (alive_any _).mono ?_
      rintro e w4 ⟨rfl, hb4⟩
      have K4 := hide (K3.out.then hb4)
      clear hb4
      go_wp2_with fail
      go_ret
      exact ⟨rfl, K4.out⟩
    · have HV := hide hv
      obtain ⟨x1, x2⟩ := lostB_in hv
      obtain ⟨jv, hp⟩ := lostOk_perm hv
      have HP := hide hp
      have HJ := hide jv
      have HLS := hide (best_least jv hp)
      have HEX := hide (fun j m n => lost_exch (xs := xs) (ord := ord) hv j m n)
      have h8 := job_len jv
      have hle1 : ord.length ≤ xs.length := by rw [hp.1]; exact Nat.le_refl _
      clear hv HT hp jv
      generalize lostB xs ord = x at *
      go_wp2_with fail
      go_loopw [6] (fun i wr => ∃ k : Nat, 1 ≤ k ∧ (k ≤ ord.length ∨ k = 1) ∧ i = .int .i64 k ∧ Hid (wr.ownsRow w.heap.size 62 2 (.slice D xs.length d) xs.length (enc2 xs)) ∧ Hid (wr.ownsRow w.heap.size 3 1 (.slice E ord.length f) ord.length (encI ord)) ∧ Hid (Below w.heap.size w wr)) (fun i _ => ord.length - (intOf i).toNat)
      case atStart => exact ⟨1, by omega, .inr rfl, rfl, X3, Y3, K3⟩
      case round =>
        obtain ⟨k, hk1, hk, rfl, X5, Y5, K5⟩ := hrel
        have hs5 := K5.out.size
        by_cases hlt : k < ord.length
        · obtain ⟨j, rfl⟩ : ∃ j, k = j + 1 := ⟨k - 1, by omega⟩
          have H1 := HP.out.2.2 _ (mem_at j (by omega))
          have H2 := HP.out.2.2 _ (mem_at (j + 1) hlt)
          obtain ⟨m, hm⟩ := Int.eq_ofNat_of_zero_le H1.1
          obtain ⟨n, hn⟩ := Int.eq_ofNat_of_zero_le H2.1
          have hmx : m < xs.length := by omega
          have hnx : n < xs.length := by omega
          have HM := hide hm
          have HN := hide hn
          clear hm hn H1 H2
          obtain ⟨u1, u2⟩ := job_at HJ.out m hmx
          obtain ⟨u3, u4⟩ := job_at HJ.out n hnx
          have v1 := mul_in (show 0 ≤ (at2 xs m).1 ∧ (at2 xs m).1 ≤ 999 by omega) u4 (by omega)
          have v2 := mul_in (show 0 ≤ (at2 xs n).1 ∧ (at2 xs n).1 ≤ 999 by omega) u2 (by omega)
          have EX := HEX.out j m n hlt HM.out HN.out
          have EX1 := hide EX.1
          have EX2 := hide EX.2
          clear EX
          have B1 := hide (World.ownsRow_lit (base := wr.heap.size) (e := 3) (size := 1) wr #[] 0 (Nat.le_refl _) (Nat.zero_le _) rfl)
          have B2 := hide (Sl.of_own (Y5.out.alloc (.cells #[] 3)))
          go_wp2_with (at_builtin; refine app_ints _ rfl (.tmp 40) (.tmp 41) rfl wr.heap.size _ 0 0 [] rfl B1.out _ _ ord.length _ ord rfl B2.out (by simp) (by omega) (by omega) ?_; intro D2 d2 w5 ho5 hg5; rw [Nat.zero_add] at ho5 ⊢; obtain ⟨g2, cap2, hvv, hgg, _⟩ := ho5.form (by omega); cases hvv; rw [List.nil_append] at ho5; have X6 := hide ((X5.out.alloc (.cells #[] 3)).kept hg5 (own_ne X5.out B1.out (Nat.le_refl _))); have Y6 := hide ((Y5.out.alloc (.cells #[] 3)).kept hg5 (own_ne Y5.out B1.out (Nat.le_refl _))); have K6 := hide (K5.out.trans ((((Below.refl wr.heap.size wr).alloc (Nat.le_refl _) (.cells #[] 3)).trans (grown_below B1.out hg5 (by simp))).mono (by omega))); have O6 := hide ho5; clear ho5 hg5; obtain ⟨b2, off2, rfl, hbb2, hc2⟩ := (Sl.of_own Y6.out).int j (by omega); obtain ⟨b2', off2', hA', hbb2', hc2'⟩ := (Sl.of_own Y6.out).int (j + 1) (by omega); simp only [Option.some.injEq, Addr.mk.injEq] at hA'; obtain ⟨rfl, rfl, _⟩ := hA'; rw [HM.out] at hc2; rw [HN.out] at hc2'; have hf0 := O6.out.frozenAt j; obtain ⟨z0, hz0⟩ := own_cell O6.out j (by omega); have T1 := O6.out.stored j (.int .i64 (n : Int)); have hf1 := T1.1.frozenAt (j + 1); obtain ⟨z1, hz1⟩ := own_cell T1.1 (j + 1) (by omega); have T2 := T1.1.stored (j + 1) (.int .i64 (m : Int)); have Y7 := Y6.out.kept T1.2 (own_ne Y5.out O6.out (Nat.le_refl _)); have X7 := X6.out.kept T1.2 (own_ne X5.out O6.out (Nat.le_refl _)); have Y8 := Y7.kept T2.2 (own_ne Y5.out O6.out (Nat.le_refl _)); have X8 := X7.kept T2.2 (own_ne X5.out O6.out (Nat.le_refl _)); have hc3 := (Sl.of_own Y7).int_at j (by omega); rw [HM.out] at hc3; have hc4 := (Sl.of_own Y8).int_at j (by omega); rw [HM.out] at hc4; have hc5 := (Sl.of_own Y8).int_at (j + 1) (by omega); rw [HN.out] at hc5; obtain ⟨b, off, rfl, hbb, hc, hd⟩ := (Sl.of_own X6.out).two m hmx; have hc6 := (Sl.of_own X8).two_at m hmx; have hc7 := (Sl.of_own X8).two_at n hnx; obtain ⟨hc6, hd6⟩ := hc6; obtain ⟨hc7, hd7⟩ := hc7; clear hc hd; have HT1 := hide T1; have HT2 := hide T2; have HX8 := hide X8; have HY8 := hide Y8; clear T1 T2 X7 Y7 X8 Y8)
          have HLE := hide (show (exch ord j).length = ord.length by simp [exch])
          have HEN := hide (show ((encI ord).set j (.int .i64 (n : Int))).set (j + 1) (.int .i64 (m : Int)) = encI (exch ord j) by unfold exch; rw [HM.out, HN.out, encI_set, encI_set])
          have TX := hide (Sl.of_own ((HX8.out.alloc (.cells #[.int .i64 (at2 xs m).1, .int .i64 (at2 xs m).2] 62)).alloc (.cells #[.int .i64 (at2 xs n).1, .int .i64 (at2 xs n).2] 62)))
          have TY := hide (Sl.of_own ((HT2.out.1.alloc (.cells #[.int .i64 (at2 xs m).1, .int .i64 (at2 xs m).2] 62)).alloc (.cells #[.int .i64 (at2 xs n).1, .int .i64 (at2 xs n).2] 62)))
          rw [HEN.out] at TY
          have HCJ : Hid (∀ W : World, Sl W W.heap.size 2 (some ⟨b, off, none⟩) xs.length (enc2 xs) → Sl W W.heap.size 1 (some ⟨g2, 0, none⟩) ord.length (encI (exch ord j)) → Calls Tryd.prog 54 #[.slice (some ⟨b, off, none⟩) xs.length d, .slice (some ⟨g2, 0, none⟩) ord.length d2] W fun e w' => e = .returned (.int .i64 (x + (at2 xs n).1 * (at2 xs m).2 - (at2 xs m).1 * (at2 xs n).2)) ∧ Below W.heap.size W w') := fun W h g => by
            obtain ⟨_, _, hv9, hc9, hc9'⟩ := own_slice O6.out
            cases hv9
            have := implJobsLost_any (some ⟨b, off, none⟩) (some ⟨g2, 0, none⟩) d d2 xs (exch ord j) W h (by rw [HLE.out]; exact g) (by omega) (by rw [HLE.out]; omega) (by rw [HLE.out]; exact hc9) hc9'
            rw [HLE.out, EX1.out] at this
            exact this
          clear hc2 hc2' hc3 hc4 hc5 hc6 hc7 hd6 hd7 hf0 hf1 hz0 hz1
          obtain ⟨f1, f2, f3, f4⟩ := two_new ((w5.setCell ⟨g2, j, none⟩ (.int .i64 (n : Int))).setCell ⟨g2, j + 1, none⟩ (.int .i64 (m : Int))) w5.heap.size 62 (.int .i64 (at2 xs m).1) (.int .i64 (at2 xs m).2) (.int .i64 (at2 xs n).1) (.int .i64 (at2 xs n).2) (by simp)
          go_region_held3 (fun w' => w'.cell? ⟨w5.heap.size, 0, none⟩ = some (.int .i64 (at2 xs m).1) ∧ w'.cell? ⟨w5.heap.size, 1, none⟩ = some (.int .i64 (at2 xs m).2) ∧ w'.cell? ⟨w5.heap.size + 1, 0, none⟩ = some (.int .i64 (at2 xs n).1) ∧ w'.cell? ⟨w5.heap.size + 1, 1, none⟩ = some (.int .i64 (at2 xs n).2))
            (first | go_keep | (refine ⟨cellk hb9 ?_, cellk hb9 ?_, cellk hb9 ?_, cellk hb9 ?_⟩ <;> go_keep))
            (first | (go_at_call 54; refine (HCJ.out _ ?_ ?_).mono ?_; exact TX.out; exact TY.out; rintro e w9 ⟨rfl, hb9⟩))
          clear f1 f2 f3 f4
          have e1 : IntKind.i64.wrap (IntKind.i64.wrap (x + IntKind.i64.wrap ((at2 xs n).1 * (at2 xs m).2)) - IntKind.i64.wrap ((at2 xs m).1 * (at2 xs n).2)) = x + (at2 xs n).1 * (at2 xs m).2 - (at2 xs m).1 * (at2 xs n).2 := by
            rw [IntWalk.i64_in ((at2 xs n).1 * (at2 xs m).2) (by omega), IntWalk.i64_in ((at2 xs m).1 * (at2 xs n).2) (by omega), IntWalk.i64_in (x + (at2 xs n).1 * (at2 xs m).2) (by omega), IntWalk.i64_in _ (by omega)]
          rw [e1]
          clear e1
          have KW := hide (((((K6.out.trans ((grown_below O6.out HT1.out.2 (by have := (O6.out.lt g2 rfl).2; have := (O6.out.lt g2 rfl).1; omega)).mono hs5)).trans ((grown_below HT1.out.1 HT2.out.2 (by have := (O6.out.lt g2 rfl).2; have := (O6.out.lt g2 rfl).1; simp; omega)).mono hs5)).alloc (by have := K6.out.size; simp; omega) (.cells #[.int .i64 (at2 xs m).1, .int .i64 (at2 xs m).2] 62)).alloc (by have := K6.out.size; simp; omega) (.cells #[.int .i64 (at2 xs n).1, .int .i64 (at2 xs n).2] 62)).drew)
          have K9 := hide (KW.out.trans (hb9.mono KW.out.size))
          have X9 := hide ((((HX8.out.alloc (.cells #[.int .i64 (at2 xs m).1, .int .i64 (at2 xs m).2] 62)).alloc (.cells #[.int .i64 (at2 xs n).1, .int .i64 (at2 xs n).2] 62)).drew).keepB hb9)
          have Y9 := hide ((((HY8.out.alloc (.cells #[.int .i64 (at2 xs m).1, .int .i64 (at2 xs m).2] 62)).alloc (.cells #[.int .i64 (at2 xs n).1, .int .i64 (at2 xs n).2] 62)).drew).keepB hb9)
          clear hb9 KW
          go_wp2_with fail
          go_roundw
          case rel => exact ⟨j + 2, by omega, .inl (by omega), by go_num, X9, Y9, K9⟩
          case measure => simp [intOf]; omega
        · go_wp2_with fail
          refine (implLeastLost_any _ _ _ _ (Sl.of_own X5.out) (by omega)).mono ?_
          rintro e w6 ⟨rfl, hb6⟩
          obtain ⟨q1, q2⟩ := HLS.out
          have K6 := hide (K5.out.then hb6)
          clear hb6
          generalize leastB xs = y at *
          go_wp2_with fail
          go_ret
          exact ⟨rfl, K6.out⟩
  · go_enter Tryd.func13, Tryd.ntmps13
    go_wp2_with fail
    go_ret
    exact ⟨rfl, Below.refl _ _⟩

end Go.Proofs.YtjecbapmdgnglaaDoor
