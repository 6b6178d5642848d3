/-
  The laws FnBandsValid and FnPriceAt over drawn bands: the walks.
-/
import Derived.Test.YtfbdfiepnepgpaaDoorBands
import Derived.Test.YtfbdfiepnepgpaaDoorBandDraw
import Derived.Test.YtfbdfiepnepgpaaDoorFnPairs
namespace Go.Proofs.YtfbdfiepnepgpaaDoor
open Go.RowKit
set_option linter.unusedVariables false

theorem enc2_take (xs : List (Int × Int)) (k : Nat) : enc2 (xs.take k) = (enc2 xs).take (k * 2) := by
  induction k generalizing xs with
  | zero => simp [enc2]
  | succ k ih =>
    cases xs with
    | nil => simp [enc2]
    | cons a t =>
      rw [show (k + 1) * 2 = k * 2 + 2 by omega]
      simpa [enc2] using ih t
theorem Sl.take2 {w : World} {B : Nat} {A : Option Addr} {xs : List (Int × Int)} (h : Sl w B 2 A xs.length (enc2 xs)) (k : Nat) (hk : k ≤ xs.length) : Sl w B 2 A (xs.take k).length (enc2 (xs.take k)) := by
  refine ⟨by rw [enc2_len], fun hn => ?_⟩
  have hl : (xs.take k).length = k := by simp; omega
  obtain ⟨b, off, e, hb, hc⟩ := h.2 (by omega)
  refine ⟨b, off, e, hb, fun j u hu => hc j u ?_⟩
  rw [enc2_take, List.getElem?_take] at hu
  split at hu
  · exact hu
  · cases hu
theorem at2_take (xs : List (Int × Int)) (k j : Nat) (h : j < k) : at2 (xs.take k) j = at2 xs j := by simp [at2, h]
theorem at2_drop (xs : List (Int × Int)) (k j : Nat) : at2 (xs.drop k) j = at2 xs (k + j) := by simp [at2]
theorem bands_take {xs : List (Int × Int)} (h : bandsB xs = true) (k : Nat) (h1 : 1 ≤ k) (hk : k ≤ xs.length) : bandsB (xs.take k) = true := by
  obtain ⟨g1, g2, g3, g4⟩ := bandsB_ok h
  have hl : (xs.take k).length = k := by simp; omega
  refine bandsB_yes (by omega) (by omega) (by rw [at2_take _ _ _ (by omega)]; exact g3) fun j hj => ?_
  have := g4 j (by omega)
  unfold bandOk at this ⊢
  rw [at2_take _ _ _ (by omega), at2_take _ _ _ (by omega)]
  exact this
theorem bands_drop {xs : List (Int × Int)} (h : bandsB xs = true) (h2 : 2 ≤ xs.length) : bandsB (xs.drop 1) = false := by
  obtain ⟨g1, g2, g3, g4⟩ := bandsB_ok h
  refine bandsB_from ?_
  rw [at2_drop]
  have := bandOk_in (g4 1 (by omega))
  simp at this ⊢
  omega
theorem bands_two (xs : List (Int × Int)) : bandsB xs = false ∨ (bandsB xs = true ∧ xs.length < 2) ∨ (bandsB xs = true ∧ 2 ≤ xs.length) := by
  cases bandsB xs
  · exact .inl rfl
  · rcases Nat.lt_or_ge xs.length 2 with h | h
    · exact .inr (.inl ⟨rfl, h⟩)
    · exact .inr (.inr ⟨rfl, h⟩)

theorem DrawBandsValid_any (A : Option Addr) (c : Nat) (xs : List Int) (w : World) (h : Sl w w.heap.size 1 A xs.length (encU xs)) (hc : xs.length ≤ c) (hm : c ≤ maxLen) (hx : ∀ n ∈ xs, 0 ≤ n ∧ n ≤ 255) :
    Calls Tryd.prog 31 #[.slice A xs.length c] w (Got2 48 7 w) := by
  go_enter Tryd.func31, Tryd.ntmps31
  go_wp2_with fail
  refine (l20Open_any _ _ _ _ h hc hm hx).mono ?_
  rintro e w0 ⟨rfl, hr, hb⟩
  have hr0 : RdU w.heap.size w0 w.heap.size 0 := ⟨0, Nat.le_refl _, hr⟩
  have K := hide hb
  have hs := hb.size
  clear hr hb hx
  go_wp2_with fail
  refine (l20Bands_any _ _ _ _ _ hr0 (by omega) (by omega)).mono ?_
  rintro e w1 ⟨ys, D, d, h1, h2, rfl, h3, h4, h5⟩
  have K1 := hide (K.out.trans (below_of_grown h5 (Nat.le_refl _) hr0.lt))
  have H2 := hide h2
  have H3 := hide (own_mono h3 hs)
  clear h2 h3 h4 h5 hr0
  go_wp2_with fail
  go_ret
  exact ⟨ys, D, d, h1, H2.out, rfl, H3.out, K1.out⟩

set_option maxHeartbeats 400000 in
theorem fnBandsValid_walk (A0 : Option Addr) (c0 : Nat) (x0 : List Int) (w : World) (l0 : x0.length ≤ c0) (m0 : c0 ≤ maxLen) (s0 : Sl w w.heap.size 1 A0 x0.length (encU x0)) (i0 : ∀ n ∈ x0, 0 ≤ n ∧ n ≤ 255) :
    Calls Tryd.prog 8 #[.slice A0 x0.length c0] w fun e w' => e = .returned (.bool true) ∧ Below w.heap.size w w' := by
  have hm2 := m0
  unfold maxLen at m0
  by_cases hm : x0.length ≤ 1048576
  · have HC := hide (DrawBandsValid_any A0 c0 x0 w s0 l0 hm2 i0)
    clear i0 s0
    go_enter Tryd.func8, Tryd.ntmps8
    go_wp2_with fail
    refine HC.out.mono ?_
    rintro e w1 ⟨ys, D, d, hl, hr, rfl, ho, hb1⟩
    have K := hide hb1
    have HO := hide ho
    have hs := hb1.size
    clear hb1 HC hr ho
    go_wp2_with fail
    refine (implBandsValid_any _ _ _ _ (Sl.of_own HO.out) (by omega)).mono ?_
    rintro e w2 ⟨rfl, hb2⟩
    have HO2 := hide (HO.out.keepB hb2)
    have K2 := hide (K.out.then hb2)
    clear hb2
    go_wp2_with fail
    refine (specBandsValid_any _ _ _ _ (Sl.of_own HO2.out) (by omega)).mono ?_
    rintro e w3 ⟨rfl, hb3⟩
    have HO3 := hide (HO2.out.keepB hb3)
    have K3 := hide (K2.out.then hb3)
    clear hb3
    have HT := hide (bands_two ys)
    rcases HT.out with hv | ⟨hv, h0⟩ | ⟨hv, h0⟩
    · rw [hv]
      clear hv HT
      go_wp2_with fail
      refine (implBandsValid_any none 0 [] _ (Sl.nil2 _ _ _) (by simp)).mono ?_
      rintro e w4 ⟨rfl, hb4⟩
      have K4 := hide (K3.out.then hb4)
      rw [show bandsB [] = false from rfl]
      clear hb4
      go_wp2_with fail
      refine (alive_any _).mono ?_
      rintro e w5 ⟨rfl, hb5⟩
      have K5 := hide (K4.out.then hb5)
      clear hb5
      go_wp2_with fail
      go_ret
      exact ⟨rfl, K5.out⟩
    · rw [hv]
      clear hv HT
      go_wp2_with fail
      refine (implBandsValid_any none 0 [] _ (Sl.nil2 _ _ _) (by simp)).mono ?_
      rintro e w4 ⟨rfl, hb4⟩
      have K4 := hide (K3.out.then hb4)
      rw [show bandsB [] = false from rfl]
      clear hb4
      go_wp2_with fail
      refine (alive_any _).mono ?_
      rintro e w5 ⟨rfl, hb5⟩
      have K5 := hide (K4.out.then hb5)
      clear hb5
      go_wp2_with fail
      go_ret
      exact ⟨rfl, K5.out⟩
    · rw [hv]
      have HV := hide hv
      clear hv HT
      have hd : ys.length ≤ d := own_cap HO3.out
      obtain ⟨g, cap, hvv, _, _⟩ := HO3.out.form (by omega)
      cases hvv
      have hd2 : ¬ 1 = d := by omega
      have HT := hide ((Sl.of_own HO3.out).take2 (ys.length - 1) (by omega))
      have hlt : (ys.take (ys.length - 1)).length = ys.length - 1 := by simp
      have HLT := hide hlt
      clear hlt
      go_wp2_with fail
      rw [← HLT.out]
      refine (implBandsValid_any _ _ _ _ HT.out (by rw [HLT.out]; omega)).mono ?_
      rintro e w4 ⟨rfl, hb4⟩
      have HO4 := hide (HO3.out.keepB hb4)
      have K4 := hide (K3.out.then hb4)
      rw [bands_take HV.out _ (by omega) (by omega)]
      clear hb4
      have HD := hide ((Sl.of_own HO4.out).drop2 1 (by omega))
      have HLD := hide (show (ys.drop 1).length = ys.length - 1 by simp)
      go_wp2_with fail
      rw [← HLD.out]
      refine (implBandsValid_any _ _ _ _ HD.out (by rw [HLD.out]; omega)).mono ?_
      rintro e w5 ⟨rfl, hb5⟩
      have K5 := hide (K4.out.then hb5)
      rw [bands_drop HV.out h0]
      clear hb5
      go_wp2_with fail
      go_ret
      exact ⟨rfl, K5.out⟩
  · go_enter Tryd.func8, Tryd.ntmps8
    go_wp2_with fail
    go_ret
    exact ⟨rfl, Below.refl _ _⟩

end Go.Proofs.YtfbdfiepnepgpaaDoor
