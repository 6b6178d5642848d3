/-
  The law FnBestPhases over drawn loads: the walk.
-/
import Derived.Test.YteffcemgmabdnaaDoorFnImbalance
import Derived.Test.YteffcemgmabdnaaDoorHelp
namespace Go.Proofs.YteffcemgmabdnaaDoor
open Go.RowKit
set_option linter.unusedVariables false

theorem phOk_set {xs ys : List Int} (h : phOk xs ys = true) (k : Nat) (ph : Int) (h0 : 0 ≤ ph ∧ ph ≤ 2) : phOk xs (ys.set k ph) = true := by
  simp only [phOk, Bool.and_eq_true, decide_eq_true_eq, List.all_eq_true] at h ⊢
  refine ⟨⟨h.1.1, by rw [List.length_set]; exact h.1.2⟩, fun x hx => ?_⟩
  rcases List.mem_or_eq_of_mem_set hx with hx | rfl
  · exact h.2 x hx
  · exact inB_mk h0.1 h0.2

set_option maxRecDepth 8000 in
set_option maxHeartbeats 1000000 in
theorem fnBestPhases_walk (A0 : Option Addr) (c0 : Nat) (x0 : List Int) (w : World) (l0 : x0.length ≤ c0) (m0 : c0 ≤ maxLen) (s0 : Sl w w.heap.size 1 A0 x0.length (encU x0)) (i0 : ∀ n ∈ x0, 0 ≤ n ∧ n ≤ 255) :
    Calls Tryd.prog 8 #[.slice A0 x0.length c0] w fun e w' => e = .returned (.bool true) ∧ Below w.heap.size w w' := by
  have hm2 := m0
  unfold maxLen at m0
  by_cases hm : x0.length ≤ 1048576
  · have HC := hide (DrawBestPhases_any A0 c0 x0 w s0 l0 hm2 i0)
    clear i0 s0
    go_enter Tryd.func8, Tryd.ntmps8
    go_wp2_with fail
    refine HC.out.mono ?_
    rintro e w1 ⟨xs, D, d, hl, hxr, rfl, hox, hb1⟩
    have K := hide hb1
    have HX := hide hox
    have hs := hb1.size
    clear hb1 HC hxr hox
    go_wp2_with fail
    refine (implBestPhases_any _ _ _ _ (Sl.of_own HX.out) (by omega)).mono ?_
    rintro e w2 ⟨r, E, f, hR, rfl, hor, hb2⟩
    obtain rfl : r = bestPh xs := hR
    have X2 := hide (HX.out.keepB hb2)
    have K2 := hide (K.out.then hb2)
    have R2 := hide hor
    clear hb2 hor
    go_wp2_with fail
    refine (specBestPhases_any _ _ _ _ (Sl.of_own X2.out) (by omega)).mono ?_
    rintro e w3 ⟨r, E2, f2, hR, rfl, hor, hb3⟩
    obtain rfl : r = bestPh xs := hR
    have X3 := hide (X2.out.keepB hb3)
    have R3 := hide (R2.out.keepB hb3)
    have K3 := hide (K2.out.then hb3)
    have S3 := hide hor
    have hbl : (bestPh xs).length ≤ 8 := BPh_len rfl
    clear hb3 hor
    go_wp2_with fail
    refine (sameInts_any _ _ _ _ _ _ _ (Sl.of_own R3.out) (Sl.of_own S3.out) (by omega)).mono ?_
    rintro e w4 ⟨rfl, hb4⟩
    rw [eqI_self]
    have X4 := hide (X3.out.keepB hb4)
    have R4 := hide (R3.out.keepB hb4)
    have K4 := hide (K3.out.then hb4)
    clear hb4 S3
    go_wp2_with fail
    refine (specTapsValid_any _ _ _ _ (Sl.of_own X4.out) (by omega)).mono ?_
    rintro e w5 ⟨rfl, rfl⟩
    cases hv : tapsB xs
    · have hb0 : bestPh xs = [] := by simp [bestPh, hv]
      have HB0 := hide hb0
      have hz : (((bestPh xs).length : Int) == 0) = true := by simp [hb0]
      clear hb0 hv
      go_wp2_with fail
      refine (alive_any _).mono ?_
      rintro e w6 ⟨rfl, hb6⟩
      have K6 := hide (K4.out.then hb6)
      clear hb6
      go_wp2_with fail
      go_ret
      exact ⟨rfl, K6.out⟩
    · have HV := hide hv
      have HL := hide (bestPh_len hv)
      have HPO := hide (bestPh_ok hv)
      clear hv
      go_wp2_with fail
      refine (implImbalance_any _ _ _ _ _ _ _ (Sl.of_own X4.out) (Sl.of_own R4.out) (by omega) (by omega)).mono ?_
      rintro e w6 ⟨rfl, hb6⟩
      have X6 := hide (X4.out.keepB hb6)
      have R6 := hide (R4.out.keepB hb6)
      have K6 := hide (K4.out.then hb6)
      have hs6 := K6.out.size
      clear hb6
      go_wp2_with fail
      go_loopw [6, 7] (fun q i wr => ∃ k : Nat, k ≤ xs.length ∧ i = .int .i64 k ∧ q = .int .i64 (mostF xs k) ∧ Hid (Below w6.heap.size w6 wr)) (fun _ i _ => xs.length - (intOf i).toNat)
      case atStart => exact ⟨0, Nat.zero_le _, rfl, rfl, hide (Below.refl _ _)⟩
      case round =>
        obtain ⟨k, hk, rfl, rfl, HB⟩ := hrel
        by_cases hlt : k < xs.length
        · obtain ⟨gx, cx, hvx, hgx, hgx2⟩ := X6.out.form (by omega)
          cases hvx
          have hc := X6.out.cellAt k (by omega)
          rw [encI_at xs k hlt] at hc
          have hc2 := cellk HB.out hc
          have k0 : (0 : Int) ≤ k := by omega
          have k1 : (k : Int) < xs.length := by omega
          clear hc
          obtain ⟨wo, hwo⟩ : ∃ wo : World, wo = wr := ⟨_, rfl⟩
          have HWO := hide hwo
          rw [← hwo] at HB
          clear hwo
          by_cases hmx : mostF xs k < at_ xs k
          · have HMX := hide (show mostF xs (k + 1) = at_ xs k by show max (mostF xs k) (at_ xs k) = _; omega)
            go_wp2_with fail
            go_loopw [8, 9] (fun q _ wr => ∃ ph : Nat, ph ≤ 3 ∧ q = .int .i64 ph ∧ Hid (Below wo.heap.size wo wr)) (fun q _ _ => 3 - (intOf q).toNat)
            case atStart => exact ⟨0, by omega, rfl, by rw [HWO.out]; exact hide (Below.refl _ _)⟩
            case round =>
              obtain ⟨ph, hph, rfl, HB2⟩ := hrel
              have HB3 := hide (HB.out.trans (HB2.out.mono HB.out.size))
              have hsz := HB3.out.size
              by_cases hlp : ph < 3
              · have O0 := hide (World.ownsRow_lit (base := wr.heap.size) (e := 3) (size := 1) wr #[] 0 (Nat.le_refl _) (Nat.zero_le _) rfl)
                have ba := (Below.refl _ wr).alloc (Nat.le_refl _) (.cells #[] 3)
                have R7 := hide ((R6.out.keepB HB3.out).keepB ba)
                have BA := hide ba
                have SR := hide (Sl.of_own R7.out)
                clear ba
                go_wp2_with (at_builtin; refine app_ints _ rfl (.tmp 50) (.tmp 51) rfl wr.heap.size _ 0 0 [] rfl O0.out _ E (bestPh xs).length f (bestPh xs) rfl SR.out (by simp) (by omega) (by omega) ?_; intro D2 d2 w7 ho7 hg7; rw [Nat.zero_add] at ho7 ⊢; have HO7 : Hid (w7.ownsRow wr.heap.size 3 1 (.slice D2 (bestPh xs).length d2) (bestPh xs).length (encI (bestPh xs))) := ho7; have HB7 := hide (BA.out.trans (grown_below O0.out hg7 (by simp))); clear ho7 hg7; obtain ⟨gy, cy, hvy, hgy, hgy2⟩ := HO7.out.form (by rw [HL.out]; omega); cases hvy; have z1 := HO7.out.frozenAt k; obtain ⟨u1, hu1⟩ := own_cell HO7.out k (by rw [HL.out]; omega); have k2 : (k : Int) < (bestPh xs).length := by rw [HL.out]; omega)
                have K8 := hide (HB7.out.setCell (p := ⟨gy, k, none⟩) hgy (.int .i64 ph))
                have O8 : Hid ((w7.setCell ⟨gy, k, none⟩ (.int .i64 ph)).ownsRow wr.heap.size 3 1 (.slice (some ⟨gy, 0, none⟩) ((bestPh xs).set k ph).length d2) ((bestPh xs).set k ph).length (encI ((bestPh xs).set k ph))) := by
                  have := (HO7.out.stored k (.int .i64 ph)).1
                  rw [encI_set] at this
                  rw [List.length_set]
                  exact this
                have X8 := hide ((X6.out.keepB HB3.out).keepB K8.out)
                have hge : imbB xs (bestPh xs) ≤ imbB xs ((bestPh xs).set k ph) := bestPh_least (phOk_set HPO.out k ph (by omega))
                have hgd : decide (imbB xs ((bestPh xs).set k ph) < imbB xs (bestPh xs)) = false := by simp; omega
                have HI := implImbalance_any _ _ d d2 _ _ _ (Sl.of_own X8.out) (Sl.of_own O8.out) (by omega) (by simp; omega)
                rw [List.length_set] at HI
                refine HI.mono ?_
                rintro e w9 ⟨rfl, hb9⟩
                have K9 := hide (HB2.out.trans ((K8.out.then hb9).mono HB2.out.size))
                clear hb9
                go_wp2_with fail
                go_roundw
                case rel => exact ⟨ph + 1, by omega, by go_num, K9⟩
                case measure => simp [intOf]; omega
              · go_wp2_with fail
                go_roundw
                case rel => exact ⟨k + 1, by omega, by go_num, vint HMX.out.symm, HB3⟩
                case measure => simp [intOf]; omega
          · have HMX := hide (show mostF xs (k + 1) = mostF xs k by show max (mostF xs k) (at_ xs k) = _; omega)
            go_wp2_with fail
            go_loopw [8, 9] (fun q _ wr => ∃ ph : Nat, ph ≤ 3 ∧ q = .int .i64 ph ∧ Hid (Below wo.heap.size wo wr)) (fun q _ _ => 3 - (intOf q).toNat)
            case atStart => exact ⟨0, by omega, rfl, by rw [HWO.out]; exact hide (Below.refl _ _)⟩
            case round =>
              obtain ⟨ph, hph, rfl, HB2⟩ := hrel
              have HB3 := hide (HB.out.trans (HB2.out.mono HB.out.size))
              have hsz := HB3.out.size
              by_cases hlp : ph < 3
              · have O0 := hide (World.ownsRow_lit (base := wr.heap.size) (e := 3) (size := 1) wr #[] 0 (Nat.le_refl _) (Nat.zero_le _) rfl)
                have ba := (Below.refl _ wr).alloc (Nat.le_refl _) (.cells #[] 3)
                have R7 := hide ((R6.out.keepB HB3.out).keepB ba)
                have BA := hide ba
                have SR := hide (Sl.of_own R7.out)
                clear ba
                go_wp2_with (at_builtin; refine app_ints _ rfl (.tmp 50) (.tmp 51) rfl wr.heap.size _ 0 0 [] rfl O0.out _ E (bestPh xs).length f (bestPh xs) rfl SR.out (by simp) (by omega) (by omega) ?_; intro D2 d2 w7 ho7 hg7; rw [Nat.zero_add] at ho7 ⊢; have HO7 : Hid (w7.ownsRow wr.heap.size 3 1 (.slice D2 (bestPh xs).length d2) (bestPh xs).length (encI (bestPh xs))) := ho7; have HB7 := hide (BA.out.trans (grown_below O0.out hg7 (by simp))); clear ho7 hg7; obtain ⟨gy, cy, hvy, hgy, hgy2⟩ := HO7.out.form (by rw [HL.out]; omega); cases hvy; have z1 := HO7.out.frozenAt k; obtain ⟨u1, hu1⟩ := own_cell HO7.out k (by rw [HL.out]; omega); have k2 : (k : Int) < (bestPh xs).length := by rw [HL.out]; omega)
                have K8 := hide (HB7.out.setCell (p := ⟨gy, k, none⟩) hgy (.int .i64 ph))
                have O8 : Hid ((w7.setCell ⟨gy, k, none⟩ (.int .i64 ph)).ownsRow wr.heap.size 3 1 (.slice (some ⟨gy, 0, none⟩) ((bestPh xs).set k ph).length d2) ((bestPh xs).set k ph).length (encI ((bestPh xs).set k ph))) := by
                  have := (HO7.out.stored k (.int .i64 ph)).1
                  rw [encI_set] at this
                  rw [List.length_set]
                  exact this
                have X8 := hide ((X6.out.keepB HB3.out).keepB K8.out)
                have hge : imbB xs (bestPh xs) ≤ imbB xs ((bestPh xs).set k ph) := bestPh_least (phOk_set HPO.out k ph (by omega))
                have hgd : decide (imbB xs ((bestPh xs).set k ph) < imbB xs (bestPh xs)) = false := by simp; omega
                have HI := implImbalance_any _ _ d d2 _ _ _ (Sl.of_own X8.out) (Sl.of_own O8.out) (by omega) (by simp; omega)
                rw [List.length_set] at HI
                refine HI.mono ?_
                rintro e w9 ⟨rfl, hb9⟩
                have K9 := hide (HB2.out.trans ((K8.out.then hb9).mono HB2.out.size))
                clear hb9
                go_wp2_with fail
                go_roundw
                case rel => exact ⟨ph + 1, by omega, by go_num, K9⟩
                case measure => simp [intOf]; omega
              · go_wp2_with fail
                go_roundw
                case rel => exact ⟨k + 1, by omega, by go_num, vint HMX.out.symm, HB3⟩
                case measure => simp [intOf]; omega
        · obtain rfl : k = xs.length := by omega
          have K7 := hide (K6.out.then HB.out)
          have hb1 : imbB xs (bestPh xs) ≤ mostF xs xs.length := bestPh_most HV.out
          have hb0 : 0 ≤ imbB xs (bestPh xs) := (imbB_in HPO.out).1
          have hll : (((bestPh xs).length : Int) == xs.length) = true := by rw [HL.out]; simp
          go_wp2_with fail
          go_ret
          exact ⟨ret_bool (by simp), K7.out⟩
  · go_enter Tryd.func8, Tryd.ntmps8
    go_wp2_with fail
    go_ret
    exact ⟨rfl, Below.refl _ _⟩

end Go.Proofs.YteffcemgmabdnaaDoor
