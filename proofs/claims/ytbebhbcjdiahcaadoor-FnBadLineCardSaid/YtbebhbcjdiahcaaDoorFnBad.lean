/-
  The walk of the law FnBadLine.
-/
import Derived.Test.YtbebhbcjdiahcaaDoorReadD
import Derived.Test.YtbebhbcjdiahcaaDoorLawFl
import Derived.Test.YtbebhbcjdiahcaaDoorResX
namespace Go.Proofs.YtbebhbcjdiahcaaDoor
open Go.RowKit
set_option linter.unusedVariables false

theorem BadR.bad {b : Int} {ls : List (Int × Int × Int)} {on : List Bool} {bs : List (Int × Int)} {rs : List Int} {x : Int} (h : radB b ls on bs = false) (hb : BadR b ls on bs rs x) : x = -1 := by
  rcases hb with ⟨_, h1⟩ | ⟨h1, _⟩
  · exact h1
  · rw [okB_rad h] at h1; cases h1

set_option maxRecDepth 8000 in
set_option maxHeartbeats 8000000 in
theorem fnBadLine_walk (A0 : Option Addr) (c0 : Nat) (x0 : List Int) (w : World) (l0 : x0.length ≤ c0) (m0 : c0 ≤ maxLen) (s0 : Sl w w.heap.size 1 A0 x0.length (encU x0)) (i0 : ∀ n ∈ x0, 0 ≤ n ∧ n ≤ 255) :
    Calls Tryd.prog 4 #[.slice A0 x0.length c0] w fun e w' => e = .returned (.bool true) ∧ Below w.heap.size w w' := by
  have hm2 := m0
  unfold maxLen at m0
  by_cases hm : x0.length ≤ 1048576
  · have HC := hide (DrawBadLine_any A0 c0 x0 w s0 l0 hm2 i0)
    clear i0 s0
    go_enter Tryd.func4, Tryd.ntmps4
    go_wp2_with fail
    refine HC.out.mono ?_
    rintro en w1 ⟨b, xs, D, d, os, E, e, bu, V, f, p, rs, O, o, lx, lo, lb, lr, rfl, o1, o2, b1, o3, hb1⟩
    have HK := hide hb1
    have H := hide (Sl.of_own o1)
    have G := Sl.of_own o2
    have S := hide b1.sl
    have R := hide (Sl.of_own o3)
    obtain ⟨n, hon⟩ : ∃ n, os.length = n := ⟨_, rfl⟩
    rw [hon] at G lo ⊢
    have GG := hide G
    have HON := hide hon
    have K0 := hide ((Below.refl _ w1).alloc (Nat.le_refl _) (.cells #[.int .i64 b, .slice D xs.length d] 25))
    have X0 := hide (Blk.new w1 25 #[.int .i64 b, .slice D xs.length d])
    clear o1 o2 b1 o3 hb1 G hon HC
    go_wp2_with fail
    refine (implBadLine_any b D E V O d e f n o xs os bu rs _ (H.out.to K0.out) (GG.out.to K0.out) HON.out (S.out.to K0.out) (R.out.to K0.out) (by omega) (by omega) (by omega)).mono ?_
    rintro en w2 ⟨x, hl, rfl, hb2⟩
    have K2 := hide (K0.out.then hb2)
    have X2 := hide (X0.out.to hb2)
    have HL := hide hl
    obtain ⟨g0, g1⟩ := X2.out.two
    clear hl hb2 K0 X0
    go_wp2_with fail
    refine (specBadLine_any b D E V O d e f n o xs os bu rs w2 (H.out.to K2.out) (GG.out.to K2.out) HON.out (S.out.to K2.out) (R.out.to K2.out) (by omega) (by omega) (by omega)).mono ?_
    rintro en w4 ⟨x', hl', rfl, hb3⟩
    obtain rfl := hl'.unique HL.out
    have K4 := hide (K2.out.then hb3)
    have X4 := hide (X2.out.to hb3)
    have hxx : (x' != x') = false := by simp
    clear hl' hb3 K2 X2 g0 g1
    obtain ⟨g0, g1⟩ := X4.out.two
    go_wp2_with fail
    refine (radial_any b D E V d e f n xs os bu w4 (H.out.to K4.out) (GG.out.to K4.out) HON.out (S.out.to K4.out) (by omega) (by omega)).mono ?_
    rintro en w5 ⟨rfl, hb5⟩
    have K5 := hide (K4.out.then hb5)
    have X5 := hide (X4.out.to hb5)
    clear hb5 K4 X4 g0 g1
    cases hr : radB b xs os bu
    · obtain rfl := HL.out.bad hr
      clear hr
      go_wp2_with fail
      refine (alive_any _).mono ?_
      rintro en w6 ⟨rfl, hb6⟩
      have K6 := hide (K5.out.then hb6)
      clear hb6
      go_wp2_with fail
      go_ret
      exact ⟨rfl, HK.out.then K6.out⟩
    · obtain ⟨hf, hcy, hon1⟩ := (radB_iff _ _ _ _).1 hr
      obtain ⟨hv, hnl, hbl, hok⟩ := fedB_true hf
      rw [HON.out] at hnl
      subst hnl
      obtain ⟨nb, rfl⟩ : ∃ nb : Nat, b = nb := ⟨bu.length, hbl.symm⟩
      obtain ⟨⟨n1, n2⟩, n3⟩ := net_len hv
      have hbn1 : bu.length ≤ nb := by omega
      have hbn2 : nb ≤ bu.length := by omega
      have HRAD := hide hr
      have HCY := hide hcy
      have HONE := hide hon1
      obtain ⟨g0, g1⟩ := X5.out.two
      clear hr hf hcy hon1 hv hbl hok HL
      go_wp2_with fail
      refine (lawFlows_any nb D E V d e f xs os bu w5 (H.out.to K5.out) (GG.out.to K5.out) HON.out (S.out.to K5.out) HRAD.out).mono ?_
      rintro en w6 ⟨gl, M, mc, ⟨ps, hp, hfg⟩, rfl, ho6, hb6⟩
      have K6 := hide (K5.out.then hb6)
      have X6 := hide (X5.out.to hb6)
      have S6 := hide (Sl.of_own ho6)
      have HP := hide hp
      have HFG := hide hfg
      have hgl := hfg.len
      have hg1 : gl.length ≤ xs.length := by omega
      have hg2 : xs.length ≤ gl.length := by omega
      clear ho6 hb6 hp hfg g0 g1 hgl K5 X5
      obtain ⟨g0, g1⟩ := X6.out.two
      go_wp2_with fail
      go_loopw [9] (fun x wr => ∃ k : Nat, k ≤ nb ∧ x = .int .i64 k ∧ Hid (Below w1.heap.size w1 wr) ∧ Hid (Blk wr w1.heap.size 25 #[.int .i64 nb, .slice D xs.length d]) ∧ Hid (Sl wr wr.heap.size 1 M gl.length (encI gl))) (fun x _ => nb - (intOf x).toNat)
      case atStart => exact ⟨0, Nat.zero_le _, rfl, K6, X6, S6⟩
      case round =>
        clear K6 X6 S6 g0 g1
        obtain ⟨k, hk, rfl, KR, XR, SR⟩ := hrel
        obtain ⟨g0, g1⟩ := XR.out.two
        by_cases hlt : k < nb
        · go_wp2_with fail
          refine (parentLine_any nb k D E V d e f xs os bu wr (H.out.to KR.out) (GG.out.to KR.out) HON.out (S.out.to KR.out) HRAD.out hlt).mono ?_
          rintro en' wa ⟨qs, hq, rfl, hba⟩
          have KA := hide (KR.out.then hba)
          have hwa := KA.out.size
          have XA := hide (XR.out.to hba)
          have hxa := XA.out.lt
          have SA := hide (SR.out.to hba)
          have HQ := hide hq.1
          have HFQ := hide (HFG.out.same HP.out hq.1 HCY.out HONE.out)
          have hkb : k < bu.length := by omega
          clear hq hba KR XR SR g0 g1
          by_cases hneg : at_ qs k < 0
          · have hge : decide (0 ≤ at_ qs k) = false := by simp; omega
            go_wp2_with fail
            go_roundw
            case rel => exact ⟨k + 1, by omega, by go_num, KA, XA, SA⟩
            case measure => simp [intOf]; omega
          · obtain ⟨v, hv⟩ := Int.eq_ofNat_of_zero_le (show 0 ≤ at_ qs k by omega)
            obtain ⟨hv1, _, _⟩ := HQ.out.inc hkb (show 0 ≤ at_ qs k by omega)
            rw [hv, Int.toNat_natCast] at hv1
            obtain ⟨r1, r2⟩ := HFQ.out.rng v hv1
            have hge : decide (0 ≤ (v : Int)) = true := by simp
            have HV := hide hv
            have v0 : (0 : Int) ≤ v := by omega
            have v1 : (v : Int) < gl.length := by omega
            have hvg : v < gl.length := by omega
            have N6 := hide (World.ownsRow_lit (base := wa.heap.size) (e := 3) (size := 1) wa #[] 0 (Nat.le_refl _) (Nat.zero_le _) rfl)
            have W6 := hide ((Below.refl wa.heap.size wa).alloc (Nat.le_refl _) (.cells #[] 3))
            have S6 := hide (SA.out.below W6.out)
            rw [hv]
            clear hneg hv
            go_wp2_with (at_builtin; refine app_ints _ rfl (.tmp 67) (.tmp 68) rfl wa.heap.size _ 0 0 [] rfl N6.out _ M gl.length mc gl rfl S6.out (by simp) (by omega) (by omega) ?_; intro D2 d2 w7 ho7 hg7; have W7 := hide (W6.out.trans (grown_below N6.out hg7 (by simp))); have O7 := hide (show w7.ownsRow wa.heap.size 3 1 (.slice D2 gl.length d2) gl.length (encI gl) by simpa using ho7); clear ho7 hg7 N6 W6 S6; obtain ⟨q, cq, hD2, _, _⟩ := O7.out.form (by omega); cases hD2; have x1 := O7.out.cellAt v (by omega); rw [encI_at gl v (by omega)] at x1; have x2 := O7.out.frozenAt v; have O8 := hide ((O7.out.stored v (.int .i64 (at_ gl v + 3))).1); rw [← encI_setU] at O8; have W8 := hide (W7.out.setCell (p := ⟨q, v, none⟩) (by have := (O7.out.lt _ rfl).1; exact this) (.int .i64 (at_ gl v + 3))); have X8 := hide (XA.out.to W8.out); obtain ⟨g0, g1⟩ := X8.out.two)
            have KB := hide (KA.out.then W8.out)
            have SB := hide (SA.out.to W8.out)
            have hX := implBadLine_any nb D E V (some ⟨q, 0, none⟩) d e f xs.length d2 xs os bu (gl.set v (at_ gl v + 3)) _ (H.out.to KB.out) (GG.out.to KB.out) HON.out (S.out.to KB.out) (by rw [List.length_set]; exact Sl.of_own O8.out) (by omega) (by omega) (by rw [List.length_set]; omega)
            rw [List.length_set] at hX
            clear x1 x2 O7 W7
            refine hX.mono ?_
            clear hX
            rintro en' w9 ⟨y9, hy9, rfl, hb9⟩
            obtain rfl := BadR.found (rs := gl) HFQ.out HRAD.out HQ.out hkb HV.out (by omega) (by omega) (by omega) hy9
            have hvv : ((v : Int) != (v : Int)) = false := by simp
            have KC := hide (KB.out.then hb9)
            have XC := hide (X8.out.to hb9)
            have WC := hide (W8.out.trans (hb9.mono W8.out.size))
            have OC := hide (O8.out.keepB hb9)
            clear hy9 hb9 O8 W8 X8 g0 g1 KB SB KA XA
            obtain ⟨g0, g1⟩ := XC.out.two
            have y1 := OC.out.cellAt v (by omega)
            rw [encI_at _ v (by rw [List.length_set]; omega)] at y1
            have y2 := OC.out.frozenAt v
            obtain ⟨bM, oM, hM, hbM, hcM⟩ := SA.out.int v (by omega)
            subst hM
            have m1 := (WC.out.cell (p := ⟨bM, oM + v, none⟩) hbM).trans hcM
            have O10 := hide ((OC.out.stored v (.int .i64 0)).1)
            rw [← encI_setU, List.set_set] at O10
            have hq9 : wa.heap.size ≤ q ∧ q < w9.heap.size := OC.out.lt _ rfl
            have hqM : bM ≠ q := by omega
            have W10 := hide (WC.out.setCell (p := ⟨q, v, none⟩) hq9.1 (.int .i64 0))
            have hz10 : wa.heap.size ≤ (w9.setCell ⟨q, v, none⟩ (.int .i64 0)).heap.size := W10.out.size
            have K10 := hide (KC.out.setCell (p := ⟨q, v, none⟩) (by show w1.heap.size ≤ q; omega) (.int .i64 0))
            have X10 := hide (XC.out.far (p := ⟨q, v, none⟩) (by simp; omega) (.int .i64 0))
            have SM := hide ((SA.out.below W10.out).more hz10)
            by_cases hpos : 0 < at_ gl v
            · have hgd : decide (0 < at_ gl v) = true := by simp [hpos]
              have hX := implBadLine_any nb D E V (some ⟨q, 0, none⟩) d e f xs.length d2 xs os bu (gl.set v 0) _ (H.out.to K10.out) (GG.out.to K10.out) HON.out (S.out.to K10.out) (by rw [List.length_set]; exact Sl.of_own O10.out) (by omega) (by omega) (by rw [List.length_set]; omega)
              rw [List.length_set] at hX
              obtain ⟨u0, u1⟩ := X10.out.two
              clear XC KC WC OC SA
              go_wp2_with fail
              refine hX.mono ?_
              clear hX
              rintro en' w11 ⟨z9, hz9, rfl, hb11⟩
              obtain rfl := BadR.found (rs := gl) HFQ.out HRAD.out HQ.out hkb HV.out (by omega) (by omega) (by omega) hz9
              have K11 := hide (K10.out.then hb11)
              have X11 := hide (X10.out.to hb11)
              have S11 := hide (SM.out.to hb11)
              clear hz9 hb11 u0 u1 X10 K10 W10 SM O10 y1 y2 m1 g0 g1
              go_wp2_with fail
              go_roundw
              case rel => exact ⟨k + 1, by omega, by go_num, K11, X11, S11⟩
              case measure => simp [intOf]; omega
            · have hgd : decide (0 < at_ gl v) = false := by simp; omega
              clear XC KC WC OC SA
              go_wp2_with fail
              go_roundw
              case rel => exact ⟨k + 1, by omega, by go_num, K10, X10, SM⟩
              case measure => simp [intOf]; omega
        · obtain rfl : k = nb := by omega
          go_wp2_with fail
          refine (implBadLine_any k D E V M d e f xs.length mc xs os bu gl wr (H.out.to KR.out) (GG.out.to KR.out) HON.out (S.out.to KR.out) SR.out (by omega) (by omega) (by omega)).mono ?_
          rintro en' wz ⟨y, hy, rfl, hbz⟩
          obtain rfl := BadR.none_ HFG.out HRAD.out HP.out hy
          have KZ := hide (KR.out.then hbz)
          clear hy hbz
          go_wp2_with fail
          go_ret
          exact ⟨rfl, HK.out.then KZ.out⟩
  · go_enter Tryd.func4, Tryd.ntmps4
    go_wp2_with fail
    go_ret
    exact ⟨rfl, Below.refl _ _⟩

end Go.Proofs.YtbebhbcjdiahcaaDoor
