/-
  Chapter 35, the reference's order of jobs, and what is lost at least.
-/
import Derived.Test.YtjecbapmdgnglaaDoorBestJobs
namespace Go.Proofs.YtjecbapmdgnglaaDoor
open Go.RowKit
set_option linter.unusedVariables false

theorem l35Before_any (p q : Int × Int) (w : World) (h1 : 0 ≤ p.1 * q.2 ∧ p.1 * q.2 ≤ 998001) (h2 : 0 ≤ q.1 * p.2 ∧ q.1 * p.2 ≤ 998001) :
    Calls Tryd.prog 94 #[.agg #[.int .i64 p.1, .int .i64 p.2], .agg #[.int .i64 q.1, .int .i64 q.2]] w fun e w' => e = .returned (.bool (decide (p.1 * q.2 < q.1 * p.2))) ∧ Below w.heap.size w w' := by
  obtain ⟨a1, a2⟩ := h1
  obtain ⟨b1, b2⟩ := h2
  go_enter Tryd.func94, Tryd.ntmps94
  go_wp2
  go_ret
  refine ⟨rfl, ?_⟩
  repeat (first | exact Below.refl _ _ | (refine Below.alloc ?_ (by simp <;> omega) _))

theorem bestF_lt (lt : Int → Int → Bool) (out : List Int) (j : Nat) : bestF lt out j = -1 ∨ (0 ≤ bestF lt out j ∧ bestF lt out j < j) := by
  induction j with
  | zero => exact .inl rfl
  | succ j ih =>
    have hu : bestF lt out (j + 1) = if !hasB out j && (decide (bestF lt out j < 0) || lt j (bestF lt out j)) then (j : Int) else bestF lt out j := rfl
    rw [hu]
    split <;> omega
theorem bestF_has {lt : Int → Int → Bool} {out : List Int} {j : Nat} (h : hasB out j = true) : bestF lt out (j + 1) = bestF lt out j := by
  have hu : bestF lt out (j + 1) = if !hasB out j && (decide (bestF lt out j < 0) || lt j (bestF lt out j)) then (j : Int) else bestF lt out j := rfl
  rw [hu, h]
  simp
theorem bestF_first {lt : Int → Int → Bool} {out : List Int} {j : Nat} (h : hasB out j = false) (hb : bestF lt out j = -1) : bestF lt out (j + 1) = j := by
  have hu : bestF lt out (j + 1) = if !hasB out j && (decide (bestF lt out j < 0) || lt j (bestF lt out j)) then (j : Int) else bestF lt out j := rfl
  rw [hu, h, hb]
  simp
theorem bestF_yes {lt : Int → Int → Bool} {out : List Int} {j m : Nat} (h : hasB out j = false) (hb : bestF lt out j = m) (hl : lt j m = true) : bestF lt out (j + 1) = j := by
  have hu : bestF lt out (j + 1) = if !hasB out j && (decide (bestF lt out j < 0) || lt j (bestF lt out j)) then (j : Int) else bestF lt out j := rfl
  rw [hu, h, hb, hl]
  simp
theorem bestF_no {lt : Int → Int → Bool} {out : List Int} {j m : Nat} (h : hasB out j = false) (hb : bestF lt out j = m) (hl : lt j m = false) : bestF lt out (j + 1) = m := by
  have hu : bestF lt out (j + 1) = if !hasB out j && (decide (bestF lt out j < 0) || lt j (bestF lt out j)) then (j : Int) else bestF lt out j := rfl
  have : decide ((m : Int) < 0) = false := by simp
  rw [hu, h, hb, hl, this]
  simp
theorem job_prod {xs : List (Int × Int)} (hv : jobB xs = true) (a b : Nat) (ha : a < xs.length) (hb : b < xs.length) : 0 ≤ (at2 xs a).1 * (at2 xs b).2 ∧ (at2 xs a).1 * (at2 xs b).2 ≤ 998001 := by
  obtain ⟨⟨u1, u2⟩, u3, u4⟩ := job_at hv a ha
  obtain ⟨⟨v1, v2⟩, v3, v4⟩ := job_at hv b hb
  exact mul_in (m := 999) (n := 999) ⟨by omega, u2⟩ ⟨v3, v4⟩ (by omega)

set_option maxHeartbeats 1000000 in
theorem specBestJobs_any (A : Option Addr) (c : Nat) (xs : List (Int × Int)) (w : World) (h : Sl w w.heap.size 2 A xs.length (enc2 xs)) (hm : xs.length ≤ 1048576) :
    Calls Tryd.prog 52 #[.slice A xs.length c] w (MadeInts (BJ xs) w) := by
  have bw := (Below.refl _ w).alloc (Nat.le_refl _) (.cells #[] 3)
  have HO := hide (World.ownsRow_lit (base := w.heap.size) (e := 3) (size := 1) w #[] 0 (Nat.le_refl _) (Nat.zero_le _) rfl)
  have HBW := hide bw
  clear bw
  cases h1 : jobB xs
  · have HBJ := hide (show BJ xs [] by unfold BJ bestJobs; rw [h1]; rfl)
    by_cases h0 : 0 < xs.length
    · go_enter Tryd.func52, Tryd.ntmps52
      go_wp2_with fail
      go_loopw [3, 4] (fun v i wr => v = .slice (some ⟨w.heap.size, 0, none⟩) 0 0 ∧ i = .int .i64 0 ∧ wr = w.alloc (.cells #[] 3)) (fun _ _ _ => 0)
      case atStart => exact ⟨rfl, rfl, rfl⟩
      case round =>
        obtain ⟨rfl, rfl, rfl⟩ := hrel
        go_wp2_with fail
        refine (specJobsValid_any _ _ _ _ (h.to HBW.out) hm).mono ?_
        rintro e w1 ⟨rfl, rfl⟩
        rw [h1]
        go_wp2_with fail
        go_ret
        exact ⟨[], _, _, HBJ.out, rfl, HO.out, HBW.out⟩
    · go_enter Tryd.func52, Tryd.ntmps52
      go_wp2_with fail
      go_loopw [3, 4] (fun v i wr => v = .slice (some ⟨w.heap.size, 0, none⟩) 0 0 ∧ i = .int .i64 0 ∧ wr = w.alloc (.cells #[] 3)) (fun _ _ _ => 0)
      case atStart => exact ⟨rfl, rfl, rfl⟩
      case round =>
        obtain ⟨rfl, rfl, rfl⟩ := hrel
        go_wp2_with fail
        go_ret
        exact ⟨[], _, _, HBJ.out, rfl, HO.out, HBW.out⟩
  · have HV := hide h1
    have hl8 := job_len h1
    go_enter Tryd.func52, Tryd.ntmps52
    go_wp2_with fail
    go_loopw [3, 4] (fun v i wr => ∃ (k : Nat) (D : Option Addr) (d : Nat), k ≤ xs.length ∧ v = .slice D k d ∧ i = .int .i64 k ∧ wr.ownsRow w.heap.size 3 1 (.slice D k d) k (encI (selF (jobLt xs) xs.length k)) ∧ Below w.heap.size w wr) (fun _ i _ => xs.length - (intOf i).toNat)
    case atStart => exact ⟨0, _, _, Nat.zero_le _, rfl, rfl, HO.out, HBW.out⟩
    case round =>
      obtain ⟨k, D, d, hk, rfl, rfl, ho, hbl⟩ := hrel
      by_cases hlt : k < xs.length
      · obtain ⟨wo, rfl⟩ : ∃ wo : World, wo = wr := ⟨_, rfl⟩
        have S1 := h.to hbl
        have HR := hide ho
        have HB := hide hbl
        have HL := hide (sel_inv (job_tr HV.out) k hk).1
        clear ho hbl
        go_wp2_with fail
        refine (specJobsValid_any _ _ _ _ S1 hm).mono ?_
        rintro e w1 ⟨rfl, rfl⟩
        rw [HV.out]
        clear S1 h1
        go_wp2_with fail
        go_loopw [5, 6] (fun q i wr => ∃ j : Nat, j ≤ xs.length ∧ i = .int .i64 j ∧ q = .int .i64 (bestF (jobLt xs) (selF (jobLt xs) xs.length k) j) ∧ Below wo.heap.size wo wr) (fun _ i _ => xs.length - (intOf i).toNat)
        case atStart => exact ⟨0, Nat.zero_le _, rfl, rfl, Below.refl _ _⟩
        case round =>
          obtain ⟨j, hj, rfl, rfl, hbi⟩ := hrel
          by_cases hjl : j < xs.length
          · obtain ⟨b, off, rfl, hb, hc, hd⟩ := h.two j hjl
            have hbw := HB.out.trans (hbi.mono HB.out.size)
            have hc' := (hbw.cell (p := ⟨b, off + j * 2, none⟩) hb).trans hc
            have hd' := (hbw.cell (p := ⟨b, off + j * 2 + 1, none⟩) hb).trans hd
            have SO := hide ((Sl.of_own HR.out).to hbi)
            have HBI := hide hbi
            have HBWi := hide hbw
            clear hc hd hbi hbw
            have i0 : (0 : Int) ≤ j := by omega
            have i1 : (j : Int) < xs.length := by omega
            have SO2 : Hid (Sl wr wr.heap.size 1 D (selF (jobLt xs) xs.length k).length (encI (selF (jobLt xs) xs.length k))) := by rw [HL.out]; exact SO.out
            cases hh : hasB (selF (jobLt xs) xs.length k) j
            · rcases bestF_lt (jobLt xs) (selF (jobLt xs) xs.length k) j with hb1 | ⟨hb1, hb2⟩
              · have E := hide (bestF_first (lt := jobLt xs) hh hb1)
                rw [hb1]
                clear hb1
                go_wp2_with fail
                go_quiet ((go_at_call 83; exact quiet_left (l1Has_any _ _ _ _ _ _ HL.out SO2.out (by omega))))
                go_wp2_with fail
                go_roundw
                case rel => exact ⟨j + 1, by omega, by go_num, vint E.out.symm, below_drewN HBI.out _⟩
                case measure => simp [intOf]; omega
              · obtain ⟨m, em⟩ := Int.eq_ofNat_of_zero_le hb1
                have EM := hide em
                rw [em]
                have hml : m < xs.length := by omega
                clear hb1 hb2 em
                obtain ⟨b', off', hA, _, hc2, hd2⟩ := h.two m hml
                simp at hA
                obtain ⟨rfl, rfl⟩ := hA
                have hc2' := (HBWi.out.cell (p := ⟨b, off + m * 2, none⟩) hb).trans hc2
                have hd2' := (HBWi.out.cell (p := ⟨b, off + m * 2 + 1, none⟩) hb).trans hd2
                clear hc2 hd2
                have j0 : (0 : Int) ≤ m := by omega
                have j1 : (m : Int) < xs.length := by omega
                have hneg : decide ((m : Int) < 0) = false := by simp
                have P1 := hide (job_prod HV.out j m hjl hml)
                have P2 := hide (job_prod HV.out m j hml hjl)
                cases hl : jobLt xs j m
                · have E := hide (bestF_no hh EM.out hl)
                  have hdec : decide ((at2 xs j).1 * (at2 xs m).2 < (at2 xs m).1 * (at2 xs j).2) = false := by simpa [jobLt] using hl
                  clear hl
                  go_wp2_with fail
                  go_region_held3 (fun w' => w'.cell? ⟨b, off + j * 2, none⟩ = some (.int .i64 (at2 xs j).1) ∧ w'.cell? ⟨b, off + j * 2 + 1, none⟩ = some (.int .i64 (at2 xs j).2) ∧ w'.cell? ⟨b, off + m * 2, none⟩ = some (.int .i64 (at2 xs m).1) ∧ w'.cell? ⟨b, off + m * 2 + 1, none⟩ = some (.int .i64 (at2 xs m).2))
                    (first | go_keep | (refine ⟨cellk hb3 ?_, cellk hb3 ?_, cellk hb3 ?_, cellk hb3 ?_⟩ <;> go_keep))
                    (first | (go_at_call 83; refine (l1Has_any _ _ _ _ _ _ HL.out ?_ (by omega)).mono ?_; exact SO2.out; rintro e w' ⟨rfl, rfl⟩) | (go_at_call 94; refine (l35Before_any _ _ _ P1.out P2.out).mono ?_; rintro e w3 ⟨rfl, hb3⟩))
                  have HB3 := hide hb3
                  clear hb3
                  go_wp2_with fail
                  go_roundw
                  case rel => exact ⟨j + 1, by omega, by go_num, vint E.out.symm, HBI.out.drew.trans (HB3.out.mono HBI.out.drew.size)⟩
                  case measure => simp [intOf]; omega
                · have E := hide (bestF_yes hh EM.out hl)
                  have hdec : decide ((at2 xs j).1 * (at2 xs m).2 < (at2 xs m).1 * (at2 xs j).2) = true := by simpa [jobLt] using hl
                  clear hl
                  go_wp2_with fail
                  go_region_held3 (fun w' => w'.cell? ⟨b, off + j * 2, none⟩ = some (.int .i64 (at2 xs j).1) ∧ w'.cell? ⟨b, off + j * 2 + 1, none⟩ = some (.int .i64 (at2 xs j).2) ∧ w'.cell? ⟨b, off + m * 2, none⟩ = some (.int .i64 (at2 xs m).1) ∧ w'.cell? ⟨b, off + m * 2 + 1, none⟩ = some (.int .i64 (at2 xs m).2))
                    (first | go_keep | (refine ⟨cellk hb3 ?_, cellk hb3 ?_, cellk hb3 ?_, cellk hb3 ?_⟩ <;> go_keep))
                    (first | (go_at_call 83; refine (l1Has_any _ _ _ _ _ _ HL.out ?_ (by omega)).mono ?_; exact SO2.out; rintro e w' ⟨rfl, rfl⟩) | (go_at_call 94; refine (l35Before_any _ _ _ P1.out P2.out).mono ?_; rintro e w3 ⟨rfl, hb3⟩))
                  have HB3 := hide hb3
                  clear hb3
                  go_wp2_with fail
                  go_roundw
                  case rel => exact ⟨j + 1, by omega, by go_num, vint E.out.symm, HBI.out.drew.trans (HB3.out.mono HBI.out.drew.size)⟩
                  case measure => simp [intOf]; omega
            · have E := hide (bestF_has (lt := jobLt xs) hh)
              go_wp2_with fail
              go_quiet ((go_at_call 83; exact quiet_left (l1Has_any _ _ _ _ _ _ HL.out SO2.out (by omega))))
              go_wp2_with fail
              go_roundw
              case rel => exact ⟨j + 1, by omega, by go_num, vint E.out.symm, below_drewN HBI.out _⟩
              case measure => simp [intOf]; omega
          · obtain rfl : j = xs.length := by omega
            have HBI := hide hbi
            have hO := HR.out.keepB hbi
            have HO2 := hide hO
            have hsz := hbi.size
            have hsz2 := HB.out.size
            clear hO hbi
            go_wp2_with (at_builtin; refine app_int wr rfl (.tmp 44) (.tmp 46) rfl w.heap.size D k d (selF (jobLt xs) xs.length k) (bestF (jobLt xs) (selF (jobLt xs) xs.length k) xs.length) rfl HO2.out wr.heap.size rfl rfl (by omega) (by omega) ?_; intro D2 d2 w2 ho2 hg2)
            refine ⟨⟨k + 1, D2, d2, by omega, rfl, by go_num, ho2, (HB.out.trans (HBI.out.mono hsz2)).trans (grown_below HO2.out hg2 (by omega))⟩, by simp [intOf]; omega⟩
      · obtain rfl : k = xs.length := by omega
        go_wp2_with fail
        go_ret
        refine ⟨bestJobs xs, D, d, rfl, ?_, ?_, hbl⟩
        · rw [bestJobs_len HV.out]; rfl
        · rw [bestJobs_len HV.out]
          unfold bestJobs
          rw [if_pos HV.out]
          exact ho

/-! ### what is lost at least -/
def leastB (xs : List (Int × Int)) : Int := if jobB xs then lostB xs (bestJobs xs) else -1
theorem least_no {xs : List (Int × Int)} (h : jobB xs = false) (ord : List Int) : lostB xs ord = -1 := by simp [lostB, lostOk, h]

theorem specLeastLost_any (A : Option Addr) (c : Nat) (xs : List (Int × Int)) (w : World) (h : Sl w w.heap.size 2 A xs.length (enc2 xs)) (hm : xs.length ≤ 1048576) :
    Calls Tryd.prog 59 #[.slice A xs.length c] w fun e w' => e = .returned (.int .i64 (leastB xs)) ∧ Below w.heap.size w w' := by
  cases h1 : jobB xs
  · go_enter Tryd.func59, Tryd.ntmps59
    go_wp2_with fail
    refine (specJobsValid_any _ _ _ _ h hm).mono ?_
    rintro e w1 ⟨rfl, rfl⟩
    rw [h1]
    go_wp2_with fail
    go_ret
    exact ⟨ret_int (by simp [leastB, h1]), Below.refl _ _⟩
  · go_enter Tryd.func59, Tryd.ntmps59
    go_wp2_with fail
    refine (specJobsValid_any _ _ _ _ h hm).mono ?_
    rintro e w1 ⟨rfl, rfl⟩
    rw [h1]
    go_wp2_with fail
    refine (specBestJobs_any _ _ _ _ h hm).mono ?_
    rintro e w1 ⟨ord, D, d, hR, rfl, ho, hb1⟩
    obtain ⟨_, _, hv, hc, hc'⟩ := own_slice ho
    cases hv
    have hl := BJ_len hR
    obtain rfl : ord = bestJobs xs := hR
    go_wp2_with fail
    refine (specJobsLost_any _ _ _ _ _ _ _ (h.to hb1) (Sl.of_own ho) hm (by omega) hc hc').mono ?_
    rintro e w2 ⟨rfl, hb2⟩
    have HK := hide (hb1.then hb2)
    clear hb1 hb2 ho
    go_wp2_with fail
    go_ret
    exact ⟨ret_int (by simp [leastB, h1]), HK.out⟩

theorem implLeastLost_any (A : Option Addr) (c : Nat) (xs : List (Int × Int)) (w : World) (h : Sl w w.heap.size 2 A xs.length (enc2 xs)) (hm : xs.length ≤ 1048576) :
    Calls Tryd.prog 57 #[.slice A xs.length c] w fun e w' => e = .returned (.int .i64 (leastB xs)) ∧ Below w.heap.size w w' := by
  go_enter Tryd.func57, Tryd.ntmps57
  go_wp2_with fail
  refine (implBestJobs_any _ _ _ _ h hm).mono ?_
  rintro e w1 ⟨ord, D, d, hR, rfl, ho, hb1⟩
  obtain ⟨_, _, hv, hc, hc'⟩ := own_slice ho
  cases hv
  have hl := BJ_len hR
  obtain rfl : ord = bestJobs xs := hR
  go_wp2_with fail
  refine (implJobsLost_any _ _ _ _ _ _ _ (h.to hb1) (Sl.of_own ho) hm (by omega) hc hc').mono ?_
  rintro e w2 ⟨rfl, hb2⟩
  have HK := hide (hb1.then hb2)
  clear hb1 hb2 ho
  go_wp2_with fail
  go_ret
  refine ⟨ret_int ?_, HK.out⟩
  cases h1 : jobB xs
  · rw [least_no h1]; simp [leastB, h1]
  · simp [leastB, h1]

end Go.Proofs.YtjecbapmdgnglaaDoor
