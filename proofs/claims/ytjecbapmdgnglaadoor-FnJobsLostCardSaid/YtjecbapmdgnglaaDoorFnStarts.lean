/-
  The laws FnStartOrder and FnStartPower over drawn plants: the walks.
-/
import Derived.Test.YtjecbapmdgnglaaDoorStartLaw
import Derived.Test.YtjecbapmdgnglaaDoorHelp
import Derived.Test.YtjecbapmdgnglaaDoorFnPairs
namespace Go.Proofs.YtjecbapmdgnglaaDoor
open Go.RowKit
set_option linter.unusedVariables false

theorem DrawStartOrder_any (A : Option Addr) (c : Nat) (xs : List Int) (w : World) (h : Sl w w.heap.size 1 A xs.length (encU xs)) (hc : xs.length ≤ c) (hm : c ≤ maxLen) (hx : ∀ n ∈ xs, 0 ≤ n ∧ n ≤ 255) :
    Calls Tryd.prog 31 #[.slice A xs.length c] w (Got2 46 9 w) := by
  go_enter Tryd.func31, Tryd.ntmps31
  go_wp2_with fail
  refine (l20Open_any _ _ _ _ h hc hm hx).mono ?_
  rintro e w0 ⟨rfl, hr, hb⟩
  have hr0 : RdU w.heap.size w0 w.heap.size 0 := ⟨0, Nat.le_refl _, hr⟩
  have K := hide hb
  have hs := hb.size
  clear hr hb hx
  go_wp2_with fail
  refine (l20Plants_any _ _ _ _ _ hr0 (by omega) (by omega)).mono ?_
  rintro e w1 ⟨ys, D, d, h1, h2, rfl, h3, h4, h5⟩
  have K1 := hide (K.out.trans (below_of_grown h5 (Nat.le_refl _) hr0.lt))
  have H2 := hide h2
  have H3 := hide (own_mono h3 hs)
  clear h2 h3 h4 h5 hr0
  go_wp2_with fail
  go_ret
  exact ⟨ys, D, d, h1, H2.out, rfl, H3.out, K1.out⟩

theorem DrawStartPower_any (A : Option Addr) (c : Nat) (xs : List Int) (w : World) (h : Sl w w.heap.size 1 A xs.length (encU xs)) (hc : xs.length ≤ c) (hm : c ≤ maxLen) (hx : ∀ n ∈ xs, 0 ≤ n ∧ n ≤ 255) :
    Calls Tryd.prog 40 #[.slice A xs.length c] w (Got2 46 9 w) := by
  go_enter Tryd.func40, Tryd.ntmps40
  go_wp2_with fail
  refine (l20Open_any _ _ _ _ h hc hm hx).mono ?_
  rintro e w0 ⟨rfl, hr, hb⟩
  have hr0 : RdU w.heap.size w0 w.heap.size 0 := ⟨0, Nat.le_refl _, hr⟩
  have K := hide hb
  have hs := hb.size
  clear hr hb hx
  go_wp2_with fail
  refine (l20Plants_any _ _ _ _ _ hr0 (by omega) (by omega)).mono ?_
  rintro e w1 ⟨ys, D, d, h1, h2, rfl, h3, h4, h5⟩
  have K1 := hide (K.out.trans (below_of_grown h5 (Nat.le_refl _) hr0.lt))
  have H2 := hide h2
  have H3 := hide (own_mono h3 hs)
  clear h2 h3 h4 h5 hr0
  go_wp2_with fail
  go_ret
  exact ⟨ys, D, d, h1, H2.out, rfl, H3.out, K1.out⟩

theorem DrawBestJobs_any (A : Option Addr) (c : Nat) (xs : List Int) (w : World) (h : Sl w w.heap.size 1 A xs.length (encU xs)) (hc : xs.length ≤ c) (hm : c ≤ maxLen) (hx : ∀ n ∈ xs, 0 ≤ n ∧ n ≤ 255) :
    Calls Tryd.prog 50 #[.slice A xs.length c] w (Got2 62 9 w) := by
  go_enter Tryd.func50, Tryd.ntmps50
  go_wp2_with fail
  refine (l20Open_any _ _ _ _ h hc hm hx).mono ?_
  rintro e w0 ⟨rfl, hr, hb⟩
  have hr0 : RdU w.heap.size w0 w.heap.size 0 := ⟨0, Nat.le_refl _, hr⟩
  have K := hide hb
  have hs := hb.size
  clear hr hb hx
  go_wp2_with fail
  refine (l20Jobs_any _ _ _ _ _ hr0 (by omega) (by omega)).mono ?_
  rintro e w1 ⟨ys, D, d, h1, h2, rfl, h3, h4, h5⟩
  have K1 := hide (K.out.trans (below_of_grown h5 (Nat.le_refl _) hr0.lt))
  have H2 := hide h2
  have H3 := hide (own_mono h3 hs)
  clear h2 h3 h4 h5 hr0
  go_wp2_with fail
  go_ret
  exact ⟨ys, D, d, h1, H2.out, rfl, H3.out, K1.out⟩

theorem DrawLeastLost_any (A : Option Addr) (c : Nat) (xs : List Int) (w : World) (h : Sl w w.heap.size 1 A xs.length (encU xs)) (hc : xs.length ≤ c) (hm : c ≤ maxLen) (hx : ∀ n ∈ xs, 0 ≤ n ∧ n ≤ 255) :
    Calls Tryd.prog 58 #[.slice A xs.length c] w (Got2 62 9 w) := by
  go_enter Tryd.func58, Tryd.ntmps58
  go_wp2_with fail
  refine (l20Open_any _ _ _ _ h hc hm hx).mono ?_
  rintro e w0 ⟨rfl, hr, hb⟩
  have hr0 : RdU w.heap.size w0 w.heap.size 0 := ⟨0, Nat.le_refl _, hr⟩
  have K := hide hb
  have hs := hb.size
  clear hr hb hx
  go_wp2_with fail
  refine (l20Jobs_any _ _ _ _ _ hr0 (by omega) (by omega)).mono ?_
  rintro e w1 ⟨ys, D, d, h1, h2, rfl, h3, h4, h5⟩
  have K1 := hide (K.out.trans (below_of_grown h5 (Nat.le_refl _) hr0.lt))
  have H2 := hide h2
  have H3 := hide (own_mono h3 hs)
  clear h2 h3 h4 h5 hr0
  go_wp2_with fail
  go_ret
  exact ⟨ys, D, d, h1, H2.out, rfl, H3.out, K1.out⟩

theorem eqI_eq {xs ys : List Int} (h : xs = ys) : eqI xs ys = true := by subst h; exact eqI_self _

theorem fnStartOrder_walk (A0 : Option Addr) (c0 : Nat) (x0 : List Int) (w : World) (l0 : x0.length ≤ c0) (m0 : c0 ≤ maxLen) (s0 : Sl w w.heap.size 1 A0 x0.length (encU x0)) (i0 : ∀ n ∈ x0, 0 ≤ n ∧ n ≤ 255) :
    Calls Tryd.prog 7 #[.slice A0 x0.length c0] w fun e w' => e = .returned (.bool true) ∧ Below w.heap.size w w' := by
  have hm2 := m0
  unfold maxLen at m0
  by_cases hm : x0.length ≤ 1048576
  · have HC := hide (DrawStartOrder_any A0 c0 x0 w s0 l0 hm2 i0)
    clear i0 s0
    go_enter Tryd.func7, Tryd.ntmps7
    go_wp2_with fail
    refine HC.out.mono ?_
    rintro e w1 ⟨xs, D, d, hl, hr, rfl, hox, hb1⟩
    have K := hide hb1
    have HX := hide hox
    clear hb1 HC hr hox
    go_wp2_with fail
    refine (implStartOrder_any _ _ _ _ (Sl.of_own HX.out) (by omega)).mono ?_
    rintro e w2 ⟨ord, E, f, hso, rfl, hoo, hb2⟩
    have X2 := hide (HX.out.keepB hb2)
    have O2 := hide (own_mono hoo K.out.size)
    have K2 := hide (K.out.then hb2)
    have S1 := hide hso
    have hl8 := soB_len hso
    clear hb2 hoo hso
    go_wp2_with fail
    refine (specStartOrder_any _ _ _ _ (Sl.of_own X2.out) (by omega)).mono ?_
    rintro e w3 ⟨ord2, E2, f2, hso2, rfl, hoo2, hb3⟩
    have X3 := hide (X2.out.keepB hb3)
    have O3 := hide (O2.out.keepB hb3)
    have P3 := hide hoo2
    have K3 := hide (K2.out.then hb3)
    have HE := hide (eqI_eq (soB_unique S1.out hso2))
    clear hb3 hoo2 hso2
    go_wp2_with fail
    refine (sameInts_any _ _ _ _ _ _ _ (Sl.of_own O3.out) (Sl.of_own P3.out) (by omega)).mono ?_
    rintro e w4 ⟨rfl, hb4⟩
    rw [HE.out]
    have X4 := hide (X3.out.keepB hb4)
    have O4 := hide (O3.out.keepB hb4)
    have K4 := hide (K3.out.then hb4)
    clear hb4
    go_wp2_with fail
    refine (specPlantsValid_any _ _ _ _ (Sl.of_own X4.out) (by omega)).mono ?_
    rintro e w' ⟨rfl, rfl⟩
    cases hv : plantB xs
    · obtain rfl := S1.out.2 hv
      clear hv
      go_wp2_with fail
      refine (alive_any _).mono ?_
      rintro e w5 ⟨rfl, hb5⟩
      have K5 := hide (K4.out.then hb5)
      clear hb5
      go_wp2_with fail
      go_ret
      exact ⟨rfl, K5.out⟩
    · obtain ⟨p, hp, hp2, _, _, hmax⟩ := so_end hv (S1.out.1 hv)
      have HP := hide hp
      have HM := hide hmax
      obtain ⟨_, _, hv4, hc4, hc4'⟩ := own_slice O4.out
      cases hv4
      have HV := hide hv
      clear hv hp hmax
      go_wp2_with fail
      refine (implStartRun_any _ _ _ _ _ _ _ (Sl.of_own X4.out) (Sl.of_own O4.out) (by omega) (by omega) hc4 hc4').mono ?_
      rintro e w5 ⟨rfl, hb5⟩
      rw [HP.out, show outV (some p) = .tuple #[.int .i64 p, .bool true] from rfl]
      have X5 := hide (X4.out.keepB hb5)
      have O5 := hide (O4.out.keepB hb5)
      have K5 := hide (K4.out.then hb5)
      clear hb5
      go_wp2_with fail
      go_loop [7] (fun i => ∃ k : Nat, k ≤ xs.length ∧ i = .int .i64 k) (fun i => xs.length - (intOf i).toNat)
      case atStart => exact ⟨0, Nat.zero_le _, rfl⟩
      case round =>
        obtain ⟨k, hk, rfl⟩ := hrel
        by_cases hlt : k < xs.length
        · obtain ⟨b, off, rfl, hbb, hc, hd⟩ := (Sl.of_own X5.out).two k hlt
          have hmk := HM.out k hlt
          cases hh : hasB ord k
          · have hneed : p < (at2 xs k).1 := by
              rcases hmk with g | g
              · simp [hasB] at hh; exact absurd g hh
              · exact g
            have HH := hide hh
            clear hh hmk
            go_wp2_with fail
            refine (hasInt_any _ _ _ _ _ _ rfl (Sl.of_own O5.out) (by omega)).mono ?_
            rintro e w' ⟨rfl, rfl⟩
            rw [HH.out]
            go_wp2_with fail
            go_round
            case rel => exact ⟨k + 1, by omega, by go_num⟩
            case measure => simp [intOf]; omega
          · have HH := hide hh
            clear hh hmk
            go_wp2_with fail
            refine (hasInt_any _ _ _ _ _ _ rfl (Sl.of_own O5.out) (by omega)).mono ?_
            rintro e w' ⟨rfl, rfl⟩
            rw [HH.out]
            go_wp2_with fail
            go_round
            case rel => exact ⟨k + 1, by omega, by go_num⟩
            case measure => simp [intOf]; omega
        · go_wp2_with fail
          go_ret
          exact ⟨rfl, K5.out⟩
  · go_enter Tryd.func7, Tryd.ntmps7
    go_wp2_with fail
    go_ret
    exact ⟨rfl, Below.refl _ _⟩

theorem powOf_some {xs : List (Int × Int)} {ord : List Int} {p : Int} (h : startB xs ord = some p) : powOf xs ord = p := by simp [powOf, h]
theorem powOf_no {xs : List (Int × Int)} {ord : List Int} (h : plantB xs = false) : powOf xs ord = -1 := by simp [powOf, startB, h]

theorem fnStartPower_walk (A0 : Option Addr) (c0 : Nat) (x0 : List Int) (w : World) (l0 : x0.length ≤ c0) (m0 : c0 ≤ maxLen) (s0 : Sl w w.heap.size 1 A0 x0.length (encU x0)) (i0 : ∀ n ∈ x0, 0 ≤ n ∧ n ≤ 255) :
    Calls Tryd.prog 9 #[.slice A0 x0.length c0] w fun e w' => e = .returned (.bool true) ∧ Below w.heap.size w w' := by
  have hm2 := m0
  unfold maxLen at m0
  by_cases hm : x0.length ≤ 1048576
  · have HC := hide (DrawStartPower_any A0 c0 x0 w s0 l0 hm2 i0)
    clear i0 s0
    go_enter Tryd.func9, Tryd.ntmps9
    go_wp2_with fail
    refine HC.out.mono ?_
    rintro e w1 ⟨xs, D, d, hl, hr, rfl, hox, hb1⟩
    have K := hide hb1
    have HX := hide hox
    clear hb1 HC hr hox
    go_wp2_with fail
    refine (implStartPower_any _ _ _ _ (Sl.of_own HX.out) (by omega)).mono ?_
    rintro e w2 ⟨ord, hso, rfl, hb2⟩
    have X2 := hide (HX.out.keepB hb2)
    have K2 := hide (K.out.then hb2)
    have S1 := hide hso
    clear hb2 hso
    go_wp2_with fail
    refine (specStartPower_any _ _ _ _ (Sl.of_own X2.out) (by omega)).mono ?_
    rintro e w3 ⟨ord2, hso2, rfl, hb3⟩
    obtain rfl := soB_unique S1.out hso2
    have X3 := hide (X2.out.keepB hb3)
    have K3 := hide (K2.out.then hb3)
    clear hb3 hso2
    cases hv : plantB xs
    · have HV := hide hv
      rw [powOf_no hv]
      clear hv
      go_wp2_with fail
      refine (implPlantsValid_any _ _ _ _ (Sl.of_own X3.out) (by omega)).mono ?_
      rintro e w4 ⟨rfl, hb4⟩
      rw [HV.out]
      have K4 := hide (K3.out.then hb4)
      clear hb4
      go_wp2_with fail
      refine (alive_any _).mono ?_
      rintro e w5 ⟨rfl, hb5⟩
      have K5 := hide (K4.out.then hb5)
      clear hb5
      go_wp2_with fail
      go_ret
      exact ⟨rfl, K5.out⟩
    · obtain ⟨p, hp, hp2, _⟩ := so_end hv (S1.out.1 hv)
      have HP := hide hp
      have HV := hide hv
      rw [powOf_some hp]
      clear hv hp
      go_wp2_with fail
      refine (implStartOrder_any _ _ _ _ (Sl.of_own X3.out) (by omega)).mono ?_
      rintro e w4 ⟨ord2, E, f, hso2, rfl, hoo, hb4⟩
      obtain rfl := soB_unique S1.out hso2
      have X4 := hide (X3.out.keepB hb4)
      have O4 := hide (own_mono hoo K3.out.size)
      have K4 := hide (K3.out.then hb4)
      have hl8 := soB_len hso2
      obtain ⟨_, _, hv4, hc4, hc4'⟩ := own_slice hoo
      cases hv4
      have hc5 := hc4'
      unfold maxLen at hc4'
      clear hb4 hoo hso2
      go_wp2_with fail
      go_loopw [6] (fun i wr => ∃ k : Nat, k ≤ ord.length + 1 ∧ i = .int .i64 k ∧ Hid (wr.ownsRow w.heap.size 46 2 (.slice D xs.length d) xs.length (enc2 xs)) ∧ Hid (wr.ownsRow w.heap.size 3 1 (.slice E ord.length f) ord.length (encI ord)) ∧ Hid (Below w.heap.size w wr)) (fun i _ => ord.length + 1 - (intOf i).toNat)
      case atStart => exact ⟨0, Nat.zero_le _, rfl, X4, O4, K4⟩
      case round =>
        obtain ⟨k, hk, rfl, X5, O5, K5⟩ := hrel
        by_cases hlt : k ≤ ord.length
        · obtain ⟨y, hy, y1, y2⟩ := start_take HP.out k hlt
          have HY := hide hy
          have HT := hide ((Sl.of_own O5.out).take k hlt)
          have HKL := hide (show (ord.take k).length = k by simp; omega)
          have i0 : (0 : Int) ≤ k := by omega
          have i1 : (k : Int) ≤ f := by omega
          clear hy
          go_wp2_with fail
          have HCS := implStartRun_any _ E d f xs (ord.take k) wr (Sl.of_own X5.out) HT.out (by omega) (by rw [HKL.out]; omega) (by rw [HKL.out]; omega) hc5
          rw [HKL.out] at HCS
          refine HCS.mono ?_
          clear HCS
          rintro e w6 ⟨rfl, hb6⟩
          rw [HY.out, show outV (some y) = .tuple #[.int .i64 y, .bool true] from rfl]
          have X6 := hide (X5.out.keepB hb6)
          have O6 := hide (O5.out.keepB hb6)
          have K6 := hide (K5.out.then hb6)
          clear hb6
          go_wp2_with fail
          go_roundw
          case rel => exact ⟨k + 1, by omega, by go_num, X6, O6, K6⟩
          case measure => simp [intOf]; omega
        · obtain rfl : k = ord.length + 1 := by omega
          by_cases h8 : xs.length = 8
          · have hb8 : ((xs.length : Int) == 8) = true := by simp [h8]
            have H8 := hide h8
            clear h8
            go_wp2_with fail
            go_ret
            exact ⟨rfl, K5.out⟩
          · have hb8 : ((xs.length : Int) == 8) = false := by simp; omega
            have H8 := hide h8
            clear h8
            have A1 := hide (World.ownsRow_lit (base := wr.heap.size) (e := 46) (size := 2) wr #[] 0 (Nat.le_refl _) (Nat.zero_le _) rfl)
            have A2 := hide (Sl.of_own (X5.out.alloc (.cells #[] 46)))
            go_wp2_with (at_builtin; first | (refine app_twos 38 46 Tryd.underlying38 infoPlant _ rfl (.tmp 59) (.tmp 60) rfl wr.heap.size _ 0 0 [] rfl A1.out _ _ xs.length _ xs rfl A2.out (by simp) (by omega) (by omega) ?_; intro D2 d2 w6 ho6 hg6; rw [Nat.zero_add] at ho6 ⊢; have O6 := hide ho6; have G6 := hide hg6; have hs6 : wr.heap.size ≤ w6.heap.size := Nat.le_trans (by simp) hg6.size; clear ho6 hg6) | (refine app_two 38 46 Tryd.underlying38 infoPlant w6 rfl (.tmp 61) (.tmp 63) rfl wr.heap.size D2 xs.length d2 ([] ++ xs) (3, 9) rfl O6.out w6.heap.size rfl rfl hs6 (by omega) ?_; intro D3 d3 w7 ho7 hg7; have O7 := hide ho7; have G7 := hide hg7; clear ho7 hg7))
            have KB := hide (K5.out.then (((Below.refl wr.heap.size wr).alloc (Nat.le_refl _) (.cells #[] 46)).trans ((grown_below A1.out G6.out (by simp)).trans (grown_below O6.out G7.out hs6))))
            have S7 := Sl.of_own O7.out
            rw [show xs.length + 1 = (xs ++ [((3 : Int), (9 : Int))]).length by simp] at S7 ⊢
            refine (implStartPower_any _ _ _ _ S7 (by simp; omega)).mono ?_
            rintro e w8 ⟨ord3, hso3, rfl, hb8⟩
            obtain ⟨q1, q2⟩ := pow_more HV.out H8.out (by omega) (by omega) S1.out hso3
            rw [powOf_some HP.out] at q1
            have K8 := hide (KB.out.then hb8)
            clear hb8 hso3 S7
            generalize powOf (xs ++ [(3, 9)]) ord3 = y at *
            go_wp2_with fail
            go_ret
            exact ⟨rfl, K8.out⟩
  · go_enter Tryd.func9, Tryd.ntmps9
    go_wp2_with fail
    go_ret
    exact ⟨rfl, Below.refl _ _⟩

end Go.Proofs.YtjecbapmdgnglaaDoor
