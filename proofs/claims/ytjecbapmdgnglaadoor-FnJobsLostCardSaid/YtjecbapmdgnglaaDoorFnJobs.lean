/-
  The laws FnBestJobs and FnLeastLost over drawn jobs: the walks.
-/
import Derived.Test.YtjecbapmdgnglaaDoorJobLaw
import Derived.Test.YtjecbapmdgnglaaDoorFnStarts
namespace Go.Proofs.YtjecbapmdgnglaaDoor
open Go.RowKit
set_option linter.unusedVariables false

theorem fnBestJobs_walk (A0 : Option Addr) (c0 : Nat) (x0 : List Int) (w : World) (l0 : x0.length ≤ c0) (m0 : c0 ≤ maxLen) (s0 : Sl w w.heap.size 1 A0 x0.length (encU x0)) (i0 : ∀ n ∈ x0, 0 ≤ n ∧ n ≤ 255) :
    Calls Tryd.prog 12 #[.slice A0 x0.length c0] w fun e w' => e = .returned (.bool true) ∧ Below w.heap.size w w' := by
  have hm2 := m0
  unfold maxLen at m0
  by_cases hm : x0.length ≤ 1048576
  · have HC := hide (DrawBestJobs_any A0 c0 x0 w s0 l0 hm2 i0)
    clear i0 s0
    go_enter Tryd.func12, Tryd.ntmps12
    go_wp2_with fail
    refine HC.out.mono ?_
    rintro e w1 ⟨xs, D, d, hl, hr, rfl, hox, hb1⟩
    have K := hide hb1
    have HX := hide hox
    clear hb1 HC hr hox
    go_wp2_with fail
    refine (implBestJobs_any _ _ _ _ (Sl.of_own HX.out) (by omega)).mono ?_
    rintro e w2 ⟨ord, E, f, hso, rfl, hoo, hb2⟩
    have X2 := hide (HX.out.keepB hb2)
    have O2 := hide (own_mono hoo K.out.size)
    have K2 := hide (K.out.then hb2)
    have S1 := hide hso
    have hl8 := BJ_len hso
    clear hb2 hoo hso
    go_wp2_with fail
    refine (specBestJobs_any _ _ _ _ (Sl.of_own X2.out) (by omega)).mono ?_
    rintro e w3 ⟨ord2, E2, f2, hso2, rfl, hoo2, hb3⟩
    have X3 := hide (X2.out.keepB hb3)
    have O3 := hide (O2.out.keepB hb3)
    have P3 := hide hoo2
    have K3 := hide (K2.out.then hb3)
    have HE := hide (eqI_eq (BJ_unique S1.out hso2))
    clear hb3 hoo2 hso2
    go_wp2_with fail
    refine (sameInts_any _ _ _ _ _ _ _ (Sl.of_own O3.out) (Sl.of_own P3.out) (by omega)).mono ?_
    rintro e w4 ⟨rfl, hb4⟩
    rw [HE.out]
    have X4 := hide (X3.out.keepB hb4)
    have O4 := hide (O3.out.keepB hb4)
    have K4 := hide (K3.out.then hb4)
    clear hb4
    go_wp2_with fail
    refine (specJobsValid_any _ _ _ _ (Sl.of_own X4.out) (by omega)).mono ?_
    rintro e w' ⟨rfl, rfl⟩
    cases hv : jobB xs
    · obtain rfl : ord = [] := by rw [S1.out]; simp [bestJobs, hv]
      clear hv
      go_wp2_with fail
      refine (alive_any _).mono ?_
      rintro e w5 ⟨rfl, hb5⟩
      have K5 := hide (K4.out.then hb5)
      clear hb5
      go_wp2_with fail
      go_ret
      exact ⟨rfl, K5.out⟩
    · obtain ⟨_, _, hv4, hc4, hc4'⟩ := own_slice O4.out
      cases hv4
      have hp := (best_perm hv).1
      rw [← show ord = bestJobs xs from S1.out] at hp
      have HP := hide hp
      have HLE := hide hp.1
      have hle1 : ord.length ≤ xs.length := by rw [hp.1]; exact Nat.le_refl _
      have hle2 : xs.length ≤ ord.length := by rw [hp.1]; exact Nat.le_refl _
      have hbe : ((ord.length : Int) == xs.length) = true := by rw [hp.1]; simp
      obtain ⟨z1, z2⟩ := lostB_in (perm_lostOk hv hp)
      have HV := hide hv
      clear hv hp
      go_wp2_with fail
      go_loopw [5] (fun i wr => ∃ k : Nat, 1 ≤ k ∧ (k ≤ ord.length ∨ k = 1) ∧ i = .int .i64 k ∧ Hid (wr.ownsRow w.heap.size 62 2 (.slice D xs.length d) xs.length (enc2 xs)) ∧ Hid (wr.ownsRow w.heap.size 3 1 (.slice E ord.length f) ord.length (encI ord)) ∧ Hid (Below w.heap.size w wr)) (fun i _ => ord.length - (intOf i).toNat)
      case atStart => exact ⟨1, by omega, .inr rfl, rfl, X4, O4, K4⟩
      case round =>
        obtain ⟨k, hk1, hk, rfl, X5, O5, K5⟩ := hrel
        have hs5 := K5.out.size
        by_cases hlt : k < ord.length
        · obtain ⟨j, rfl⟩ : ∃ j, k = j + 1 := ⟨k - 1, by omega⟩
          have H1 := HP.out.2.2 _ (mem_at j (by omega))
          have H2 := HP.out.2.2 _ (mem_at (j + 1) hlt)
          obtain ⟨m, hm⟩ := Int.eq_ofNat_of_zero_le H1.1
          obtain ⟨n, hn⟩ := Int.eq_ofNat_of_zero_le H2.1
          have hmx : m < xs.length := by omega
          have hnx : n < xs.length := by omega
          obtain ⟨b, off, rfl, hbb, hc, hd⟩ := (Sl.of_own X5.out).two m hmx
          obtain ⟨b', off', hA', hbb', hc', hd'⟩ := (Sl.of_own X5.out).two n hnx
          simp only [Option.some.injEq, Addr.mk.injEq] at hA'
          obtain ⟨rfl, rfl, _⟩ := hA'
          obtain ⟨b2, off2, rfl, hbb2, hc2⟩ := (Sl.of_own O5.out).int j (by omega)
          obtain ⟨b2', off2', hA', hbb2', hc2'⟩ := (Sl.of_own O5.out).int (j + 1) (by omega)
          simp only [Option.some.injEq, Addr.mk.injEq] at hA'
          obtain ⟨rfl, rfl, _⟩ := hA'
          rw [hm] at hc2
          rw [hn] at hc2'
          have hne := best_next HV.out j m n (by rw [← show ord = bestJobs xs from S1.out]; exact hlt) (by rw [← show ord = bestJobs xs from S1.out]; exact hm) (by rw [← show ord = bestJobs xs from S1.out]; exact hn)
          obtain ⟨u1, u2⟩ := job_at HV.out m hmx
          obtain ⟨u3, u4⟩ := job_at HV.out n hnx
          have v1 := mul_in (show 0 ≤ (at2 xs m).1 ∧ (at2 xs m).1 ≤ 999 by omega) u4 (by omega)
          have v2 := mul_in (show 0 ≤ (at2 xs n).1 ∧ (at2 xs n).1 ≤ 999 by omega) u2 (by omega)
          clear hm hn H1 H2 hbb' hbb2'
          go_wp2_with fail
          go_roundw
          case rel => exact ⟨j + 2, by omega, .inl (by omega), by go_num, hide ((X5.out.alloc _).alloc _), hide ((O5.out.alloc _).alloc _), hide ((K5.out.alloc hs5 _).alloc (by simp; omega) _)⟩
          case measure => simp [intOf]; omega
        · go_wp2_with fail
          refine (implJobsLost_any _ _ _ _ _ _ _ (Sl.of_own X5.out) (Sl.of_own O5.out) (by omega) (by omega) hc4 hc4').mono ?_
          rintro e w6 ⟨rfl, hb6⟩
          have K6 := hide (K5.out.then hb6)
          clear hb6
          go_wp2_with fail
          go_ret
          exact ⟨rfl, K6.out⟩
  · go_enter Tryd.func12, Tryd.ntmps12
    go_wp2_with fail
    go_ret
    exact ⟨rfl, Below.refl _ _⟩

theorem leastB_no {xs : List (Int × Int)} (h : jobB xs = false) : leastB xs = -1 := by simp [leastB, h]
theorem noLoad_snoc (xs : List (Int × Int)) (k : Nat) (h : k < xs.length) : noLoad (xs.take (k + 1)) = noLoad (xs.take k) ++ [((at2 xs k).1, 0)] := by
  rw [List.take_succ_eq_append_getElem h, at2_eq xs k h]
  simp only [noLoad, List.map_append, List.map_cons, List.map_nil]
theorem noLoad_len (xs : List (Int × Int)) (k : Nat) (h : k ≤ xs.length) : (noLoad (xs.take k)).length = k := by simp [noLoad]; omega
theorem enc2_take (xs : List (Int × Int)) (k : Nat) : enc2 (xs.take k) = (enc2 xs).take (k * 2) := by
  induction k generalizing xs with
  | zero => simp [enc2]
  | succ k ih =>
    cases xs with
    | nil => simp [enc2]
    | cons a t =>
      rw [show (k + 1) * 2 = k * 2 + 2 by omega]
      simpa [enc2] using ih t
theorem Sl.take2 {w : World} {B : Nat} {A : Option Addr} {xs : List (Int × Int)} (h : Sl w B 2 A xs.length (enc2 xs)) (k : Nat) (hk : k ≤ xs.length) : Sl w B 2 A (xs.take k).length (enc2 (xs.take k)) := by
  refine ⟨by rw [enc2_len], fun hn => ?_⟩
  have hl : (xs.take k).length = k := by simp; omega
  obtain ⟨b, off, e, hb, hc⟩ := h.2 (by omega)
  refine ⟨b, off, e, hb, fun j u hu => hc j u ?_⟩
  rw [enc2_take] at hu
  rw [List.getElem?_take] at hu
  split at hu
  · exact hu
  · cases hu

theorem fnLeastLost_walk (A0 : Option Addr) (c0 : Nat) (x0 : List Int) (w : World) (l0 : x0.length ≤ c0) (m0 : c0 ≤ maxLen) (s0 : Sl w w.heap.size 1 A0 x0.length (encU x0)) (i0 : ∀ n ∈ x0, 0 ≤ n ∧ n ≤ 255) :
    Calls Tryd.prog 14 #[.slice A0 x0.length c0] w fun e w' => e = .returned (.bool true) ∧ Below w.heap.size w w' := by
  have hm2 := m0
  unfold maxLen at m0
  by_cases hm : x0.length ≤ 1048576
  · have HC := hide (DrawLeastLost_any A0 c0 x0 w s0 l0 hm2 i0)
    clear i0 s0
    go_enter Tryd.func14, Tryd.ntmps14
    go_wp2_with fail
    refine HC.out.mono ?_
    rintro e w1 ⟨xs, D, d, hl, hr, rfl, hox, hb1⟩
    have K := hide hb1
    have HX := hide hox
    have hcap := own_cap hox
    obtain ⟨_, _, hv4, hc4, hc4'⟩ := own_slice hox
    cases hv4
    unfold maxLen at hc4'
    clear hb1 HC hr hox
    go_wp2_with fail
    refine (implLeastLost_any _ _ _ _ (Sl.of_own HX.out) (by omega)).mono ?_
    rintro e w2 ⟨rfl, hb2⟩
    have X2 := hide (HX.out.keepB hb2)
    have K2 := hide (K.out.then hb2)
    clear hb2
    go_wp2_with fail
    refine (specLeastLost_any _ _ _ _ (Sl.of_own X2.out) (by omega)).mono ?_
    rintro e w3 ⟨rfl, hb3⟩
    have X3 := hide (X2.out.keepB hb3)
    have K3 := hide (K2.out.then hb3)
    clear hb3
    cases hv : jobB xs
    · have HV := hide hv
      rw [leastB_no hv]
      clear hv
      go_wp2_with fail
      refine (implJobsValid_any _ _ _ _ (Sl.of_own X3.out) (by omega)).mono ?_
      rintro e w4 ⟨rfl, hb4⟩
      rw [HV.out]
      have K4 := hide (K3.out.then hb4)
      clear hb4
      go_wp2_with fail
      refine (alive_any _).mono ?_
      rintro e w5 ⟨rfl, hb5⟩
      have K5 := hide (K4.out.then hb5)
      clear hb5
      go_wp2_with fail
      go_ret
      exact ⟨rfl, K5.out⟩
    · obtain ⟨z1, z2⟩ := leastB_in hv
      have HV := hide hv
      have HZ := hide (least_zero hv)
      have HL := hide (least_less hv)
      have h8 := job_len hv
      clear hv
      generalize leastB xs = x at *
      have hs3 := K3.out.size
      have N4 := hide (World.ownsRow_lit (base := w3.heap.size) (e := 62) (size := 2) w3 #[] 0 (Nat.le_refl _) (Nat.zero_le _) rfl)
      have X4 := hide (X3.out.alloc (.cells #[] 62))
      have K4 := hide (K3.out.alloc hs3 (.cells #[] 62))
      go_wp2_with fail
      go_loopw [5, 6] (fun v i wr => ∃ (k : Nat) (E : Option Addr) (f : Nat), k ≤ xs.length ∧ v = .slice E k f ∧ i = .int .i64 k ∧ Hid (wr.ownsRow w.heap.size 62 2 (.slice D xs.length d) xs.length (enc2 xs)) ∧ Hid (wr.ownsRow w3.heap.size 62 2 (.slice E k f) k (enc2 (noLoad (xs.take k)))) ∧ Hid (Below w.heap.size w wr) ∧ w3.heap.size ≤ wr.heap.size) (fun _ i _ => xs.length - (intOf i).toNat)
      case atStart => exact ⟨0, _, _, Nat.zero_le _, rfl, rfl, X4, N4, K4, by simp⟩
      case round =>
        obtain ⟨k, E, f, hk, rfl, rfl, X5, N5, K5, hs5⟩ := hrel
        by_cases hlt : k < xs.length
        · obtain ⟨b, off, rfl, hbb, hc, hd⟩ := (Sl.of_own X5.out).two k hlt
          have HN := hide (noLoad_snoc xs k hlt)
          have HNL := hide (noLoad_len xs k hk)
          go_wp2_with (at_builtin; refine app_two 57 62 Tryd.underlying57 infoJob wr rfl (.tmp 37) (.tmp 44) rfl w3.heap.size E k f (noLoad (xs.take k)) ((at2 xs k).1, 0) rfl N5.out wr.heap.size rfl rfl hs5 (by omega) ?_; intro E2 f2 w5 ho5 hg5)
          have X6 := hide (X5.out.kept hg5 (own_ne X3.out N5.out (Nat.le_refl _)))
          have K6 := hide (K5.out.trans ((grown_below N5.out hg5 hs5).mono hs3))
          have hs6 : w3.heap.size ≤ w5.heap.size := Nat.le_trans hs5 hg5.size
          have N6 := hide ho5
          clear ho5 hg5
          go_roundw
          case rel => exact ⟨k + 1, E2, f2, by omega, rfl, by go_num, X6, hide (by rw [HN.out]; exact N6.out), K6, hs6⟩
          case measure => simp [intOf]; omega
        · obtain rfl : k = xs.length := by omega
          have SN := Sl.of_own N5.out
          have HNL := noLoad_len xs xs.length (Nat.le_refl _)
          have HCN := implLeastLost_any E f (noLoad (xs.take xs.length)) wr (by rw [HNL]; exact SN) (by omega)
          rw [HNL, List.take_length, HZ.out] at HCN
          have HCN := hide HCN
          clear SN HNL
          by_cases h0 : xs.length = 0
          · have hb0 : ((xs.length : Int) == 0) = true := by simp [h0]
            clear h0
            go_wp2_with fail
            refine HCN.out.mono ?_
            rintro e w6 ⟨rfl, hb6⟩
            have K6 := hide (K5.out.then hb6)
            clear hb6
            go_wp2_with fail
            go_ret
            exact ⟨rfl, K6.out⟩
          · have hb0 : ((xs.length : Int) == 0) = false := by rw [beq_eq_false_iff_ne]; omega
            obtain ⟨n, hn⟩ : ∃ n, n + 1 = xs.length := ⟨xs.length - 1, by omega⟩
            obtain ⟨q1, q2⟩ := HL.out n hn
            have i1 : (xs.length : Int) - 1 = n := by omega
            have i2 : (n : Int) ≤ d := by omega
            have i3 : (0 : Int) ≤ n := by omega
            have HKL := hide (show (xs.take n).length = n by rw [List.length_take]; omega)
            clear h0
            go_wp2_with fail
            refine HCN.out.mono ?_
            rintro e w6 ⟨rfl, hb6⟩
            have X6 := hide (X5.out.keepB hb6)
            have K6 := hide (K5.out.then hb6)
            clear hb6
            have HT := (Sl.of_own X6.out).take2 n (by omega)
            have HCM := implLeastLost_any D d (xs.take n) w6 HT (by rw [HKL.out]; omega)
            rw [HKL.out] at HCM
            have HCM := hide HCM
            clear HT
            generalize leastB (xs.take n) = y at *
            go_wp2_with fail
            refine HCM.out.mono ?_
            rintro e w7 ⟨rfl, hb7⟩
            have K7 := hide (K6.out.then hb7)
            clear hb7
            go_wp2_with fail
            go_ret
            exact ⟨rfl, K7.out⟩
  · go_enter Tryd.func14, Tryd.ntmps14
    go_wp2_with fail
    go_ret
    exact ⟨rfl, Below.refl _ _⟩

end Go.Proofs.YtjecbapmdgnglaaDoor
