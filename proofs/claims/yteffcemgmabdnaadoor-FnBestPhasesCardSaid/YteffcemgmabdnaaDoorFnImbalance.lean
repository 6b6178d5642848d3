/-
  The law FnImbalance over drawn loads and phases: the walk.
-/
import Derived.Test.YteffcemgmabdnaaDoorPut
import Derived.Test.YteffcemgmabdnaaDoorPhDraw
import Derived.Test.YteffcemgmabdnaaDoorNet
import Derived.Test.YteffcemgmabdnaaDoorFnPhaseSum
namespace Go.Proofs.YteffcemgmabdnaaDoor
open Go.RowKit
set_option linter.unusedVariables false

theorem DrawImbalance_any (A : Option Addr) (c : Nat) (xs : List Int) (w : World) (h : Sl w w.heap.size 1 A xs.length (encU xs)) (hc : xs.length ≤ c) (hm : c ≤ maxLen) (hx : ∀ n ∈ xs, 0 ≤ n ∧ n ≤ 255) :
    Calls Tryd.prog 25 #[.slice A xs.length c] w (Got2I w) := by
  go_enter Tryd.func25, Tryd.ntmps25
  go_wp2_with fail
  refine (l20Open_any _ _ _ _ h hc hm hx).mono ?_
  rintro e w0 ⟨rfl, hr, hb⟩
  have hr0 : RdU w.heap.size w0 w.heap.size 0 := ⟨0, Nat.le_refl _, hr⟩
  have K := hide hb
  have hs := hb.size
  have hlt := hr0.lt
  clear hr hb hx
  go_wp2_with fail
  refine (l20Phases_any _ _ _ _ _ hr0 (by omega) (by omega) (by omega)).mono ?_
  rintro e w1 ⟨xs1, ys, D, d, E, f, h1, h2, h3, h4, rfl, h5, h6, h7, h8⟩
  have K1 := hide (K.out.trans (below_of_grown h8 (Nat.le_refl _) hlt))
  have H3 := hide h3
  have H4 := hide h4
  have H5 := hide (own_mono h5 hs)
  have H6 := hide (own_mono h6 hs)
  clear h3 h4 h5 h6 h7 h8 hr0
  go_wp2_with fail
  go_ret2
  exact ⟨xs1, ys, D, d, E, f, h1, h2, H3.out, H4.out, rfl, H5.out, H6.out, K1.out⟩

theorem imb_cases (xs ys : List Int) : (phOk xs ys = false ∧ imbB xs ys = -1) ∨ (phOk xs ys = true ∧ 0 ≤ imbB xs ys ∧ imbB xs ys ≤ 5994) := by
  cases h : phOk xs ys
  · exact .inl ⟨rfl, by simp [imbB, h]⟩
  · exact .inr ⟨rfl, (imbB_in h).1, (imbB_in h).2⟩
theorem ph_at {xs ys : List Int} (h : phOk xs ys = true) (k : Nat) (hk : k < ys.length) : 0 ≤ at_ ys k ∧ at_ ys k ≤ 2 := by
  simp only [phOk, Bool.and_eq_true, decide_eq_true_eq, List.all_eq_true] at h
  exact inB_true (by rw [at_eq ys k hk]; exact h.2 _ (List.getElem_mem hk))
theorem ph_taps {xs ys : List Int} (h : phOk xs ys = true) : tapsB xs = true := by
  simp only [phOk, Bool.and_eq_true] at h
  exact h.1.1
/-- The phases in turn, as far as the loop has come. -/
def turnL (ys : List Int) (k : Nat) : List Int := (ys.take k).map fun y => (y + 1) % 3
theorem turnL_step (ys : List Int) (k : Nat) (h : k < ys.length) : turnL ys (k + 1) = turnL ys k ++ [(at_ ys k + 1) % 3] := by
  rw [turnL, List.take_succ_eq_append_getElem h, List.map_append, at_eq ys k h]
  rfl
theorem turnL_len (ys : List Int) (k : Nat) (h : k ≤ ys.length) : (turnL ys k).length = k := by simp [turnL]; omega

theorem fnImbalance_walk (A0 : Option Addr) (c0 : Nat) (x0 : List Int) (w : World) (l0 : x0.length ≤ c0) (m0 : c0 ≤ maxLen) (s0 : Sl w w.heap.size 1 A0 x0.length (encU x0)) (i0 : ∀ n ∈ x0, 0 ≤ n ∧ n ≤ 255) :
    Calls Tryd.prog 6 #[.slice A0 x0.length c0] w fun e w' => e = .returned (.bool true) ∧ Below w.heap.size w w' := by
  have hm2 := m0
  unfold maxLen at m0
  by_cases hm : x0.length ≤ 1048576
  · have HC := hide (DrawImbalance_any A0 c0 x0 w s0 l0 hm2 i0)
    clear i0 s0
    go_enter Tryd.func6, Tryd.ntmps6
    go_wp2_with fail
    refine HC.out.mono ?_
    rintro e w1 ⟨xs, ys, D, d, E, f, hl, hl2, hxr, hyr, rfl, hox, hoy, hb1⟩
    have K := hide hb1
    have HX := hide hox
    have HY := hide hoy
    have hs := hb1.size
    clear hb1 HC hxr hyr hox hoy
    go_wp2_with fail
    refine (implImbalance_any _ _ _ _ _ _ _ (Sl.of_own HX.out) (Sl.of_own HY.out) (by omega) (by omega)).mono ?_
    rintro e w2 ⟨rfl, hb2⟩
    have X2 := hide (HX.out.keepB hb2)
    have Y2 := hide (HY.out.keepB hb2)
    have K2 := hide (K.out.trans (hb2.mono hs))
    have hs2 := K2.out.size
    clear hb2
    go_wp2_with fail
    refine (specImbalance_any _ _ _ _ _ _ _ (Sl.of_own X2.out) (Sl.of_own Y2.out) (by omega) (by omega)).mono ?_
    rintro e w' ⟨rfl, rfl⟩
    rcases imb_cases xs ys with ⟨hv, h0⟩ | ⟨hv, h0, h1⟩
    · rw [h0]
      clear hv h0
      go_wp2_with fail
      refine (alive_any _).mono ?_
      rintro e w4 ⟨rfl, hb4⟩
      have K4 := hide (K2.out.then hb4)
      clear hb4
      go_wp2_with fail
      go_ret
      exact ⟨rfl, K4.out⟩
    · have HV := hide hv
      have H0 := hide h0
      have A3 := hide (World.ownsRow_lit (base := w2.heap.size) (e := 3) (size := 1) w2 #[] 0 (Nat.le_refl _) (Nat.zero_le _) rfl)
      have K3 := hide ((Below.refl w2.heap.size w2).alloc (Nat.le_refl _) (.cells #[] 3))
      clear hv
      go_wp2_with fail
      go_loopw [6, 7] (fun t i wr => ∃ (k : Nat) (T : Option Addr) (tc : Nat), k ≤ ys.length ∧ t = .slice T k tc ∧ i = .int .i64 k ∧ Hid (wr.ownsRow w2.heap.size 3 1 (.slice T k tc) k (encI (turnL ys k))) ∧ Hid (Below w2.heap.size w2 wr)) (fun _ i _ => ys.length - (intOf i).toNat)
      case atStart => exact ⟨0, _, _, Nat.zero_le _, rfl, rfl, A3, K3⟩
      case round =>
        obtain ⟨k, T, tc, hk, rfl, rfl, HO, HB⟩ := hrel
        have hsz := HB.out.size
        by_cases hlt : k < ys.length
        · obtain ⟨gy, cy, hvy, hgy, hgy2⟩ := Y2.out.form (by omega)
          cases hvy
          have hc := Y2.out.cellAt k (by omega)
          rw [encI_at ys k hlt] at hc
          have hc2 := cellk HB.out hc
          obtain ⟨p1, p2⟩ := ph_at HV.out k hlt
          have k0 : (0 : Int) ≤ k := by omega
          have k1 : (k : Int) < ys.length := by omega
          have HST := hide (turnL_step ys k hlt)
          clear hc
          go_wp2_with (at_builtin; refine app_int wr rfl (.tmp 39) (.tmp 46) rfl w2.heap.size T k tc (turnL ys k) ((at_ ys k + 1) % 3) rfl HO.out wr.heap.size rfl rfl hsz (by omega) ?_; intro D5 d5 w5 ho5 hg5)
          have HO5 := hide ho5
          have HB5 := hide (HB.out.trans (grown_below HO.out hg5 hsz))
          clear ho5 hg5
          go_roundw
          case rel => exact ⟨k + 1, D5, d5, by omega, rfl, by go_num, by rw [HST.out]; exact HO5, HB5⟩
          case measure => simp [intOf]; omega
        · obtain rfl : k = ys.length := by omega
          have HTurn := hide (show turnL ys ys.length = ys.map fun y => (y + 1) % 3 by rw [turnL, List.take_length])
          have X4 := hide (X2.out.keepB HB.out)
          have O4 : Hid (wr.ownsRow w2.heap.size 3 1 (.slice T (ys.map fun y => (y + 1) % 3).length tc) (ys.map fun y => (y + 1) % 3).length (encI (ys.map fun y => (y + 1) % 3))) := by
            have := HO.out
            rw [HTurn.out] at this
            rw [List.length_map]
            exact this
          have K4 := hide (K2.out.then HB.out)
          have hle := K4.out.size
          have HT1 := hide (ph_taps HV.out)
          clear HO HB A3 K3
          go_wp2_with fail
          refine (implBestPhases_any _ _ _ _ (Sl.of_own X4.out) (by omega)).mono ?_
          rintro e w5 ⟨r, B, bc, hR, rfl, hor, hb5⟩
          obtain rfl : r = bestPh xs := hR
          have X5 := hide (X4.out.keepB hb5)
          have O5 := hide (O4.out.keepB hb5)
          have K5 := hide (K4.out.then hb5)
          have R5 := hide hor
          have HBL := hide (bestPh_len HT1.out)
          clear hb5 hor
          go_wp2_with fail
          refine (implImbalance_any _ _ _ _ _ _ _ (Sl.of_own X5.out) (Sl.of_own R5.out) (by omega) (by rw [HBL.out]; omega)).mono ?_
          rintro e w6 ⟨rfl, hb6⟩
          have X6 := hide (X5.out.keepB hb6)
          have O6 := hide (O5.out.keepB hb6)
          have K6 := hide (K5.out.then hb6)
          clear hb6 R5
          go_wp2_with fail
          have HI := implImbalance_any _ _ d tc _ _ _ (Sl.of_own X6.out) (Sl.of_own O6.out) (by omega) (by simp; omega)
          rw [List.length_map] at HI
          refine HI.mono ?_
          rintro e w7 ⟨rfl, hb7⟩
          rw [imbB_turn HV.out]
          have K7 := hide (K6.out.then hb7)
          have hb1 : imbB xs (bestPh xs) ≤ imbB xs ys := bestPh_least HV.out
          have hb0 : 0 ≤ imbB xs (bestPh xs) := (imbB_in (bestPh_ok HT1.out)).1
          clear hb7
          go_wp2_with fail
          go_ret
          exact ⟨ret_bool (by simp), K7.out⟩
  · go_enter Tryd.func6, Tryd.ntmps6
    go_wp2_with fail
    go_ret
    exact ⟨rfl, Below.refl _ _⟩

end Go.Proofs.YteffcemgmabdnaaDoor
