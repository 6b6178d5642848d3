/-
  The law FnPriceAt over drawn bands and an hour: the walk.
-/
import Derived.Test.YtfbdfiepnepgpaaDoorFnBands
namespace Go.Proofs.YtfbdfiepnepgpaaDoor
open Go.RowKit
set_option linter.unusedVariables false

/-- Whether one of the first k bands has a price. -/
def someP (xs : List (Int × Int)) (x : Int) : Nat → Bool
  | 0 => false
  | k + 1 => someP xs x k || decide ((at2 xs k).2 = x)
theorem someP_yes {xs : List (Int × Int)} {x : Int} {k : Nat} (h : someP xs x k = true) : someP xs x (k + 1) = true := by simp [someP, h]
theorem someP_no {xs : List (Int × Int)} {x : Int} {k : Nat} (h : someP xs x k = false) : someP xs x (k + 1) = decide ((at2 xs k).2 = x) := by simp [someP, h]

/-- A drawn list of pairs and a number. -/
def Got2N (t : TypeId) (L : Nat) (w : World) (e : Ending) (w' : World) : Prop :=
  ∃ (xs : List (Int × Int)) (D : Option Addr) (d : Nat) (z : Int), xs.length ≤ L ∧ (-1 ≤ z ∧ z ≤ 1000) ∧ e = .returned (.tuple #[.slice D xs.length d, .int .i64 z]) ∧ w'.ownsRow w.heap.size t 2 (.slice D xs.length d) xs.length (enc2 xs) ∧ Below w.heap.size w w'

theorem DrawPriceAt_any (A : Option Addr) (c : Nat) (xs : List Int) (w : World) (h : Sl w w.heap.size 1 A xs.length (encU xs)) (hc : xs.length ≤ c) (hm : c ≤ maxLen) (hx : ∀ n ∈ xs, 0 ≤ n ∧ n ≤ 255) :
    Calls Tryd.prog 34 #[.slice A xs.length c] w (Got2N 48 7 w) := by
  go_enter Tryd.func34, Tryd.ntmps34
  go_wp2_with fail
  refine (l20Open_any _ _ _ _ h hc hm hx).mono ?_
  rintro e w0 ⟨rfl, hr, hb⟩
  have hr0 : RdU w.heap.size w0 w.heap.size 0 := ⟨0, Nat.le_refl _, hr⟩
  have K := hide hb
  have hs := hb.size
  have hlt := hr0.lt
  clear hr hb hx
  go_wp2_with fail
  refine (l20Bands_any _ _ _ _ _ hr0 (by omega) (by omega)).mono ?_
  rintro e w1 ⟨ys, D, d, h1, h2, rfl, h3, h4, h5⟩
  have K1 := hide (K.out.trans (below_of_grown h5 (Nat.le_refl _) hlt))
  have O3 := hide h3
  clear h2 h3 h5 hr0
  go_wp2_with fail
  refine (pick_u _ _ _ 26 _ h4 (by omega)).mono ?_
  rintro e w2 ⟨v, u1, u2, _, rfl, k2, o2⟩
  have u3 := u2 (by omega)
  have K2 := hide (K1.out.trans (o2.below (Nat.le_refl _)))
  have P3 := hide (own_mono (o2.own O3.out hlt) hs)
  clear u2 o2 h4 k2
  go_wp2_with fail
  refine bodyPost_ret (v := .tuple #[.slice D ys.length d, .int .i64 (v - 1)]) (by simp [results, Tryd.results34, go_sem]) rfl ?_
  exact ⟨ys, D, d, _, h1, by omega, rfl, P3.out, K2.out⟩

/-- What the last price is: that of the band that begins with the hour, or that of the hour before. -/
theorem prF_at {xs : List (Int × Int)} (hv : bandsB xs = true) (hour : Int) (k : Nat) (hk : k < xs.length) (h : (at2 xs k).1 = hour) : prF xs hour xs.length = (at2 xs k).2 := by
  have h1 := prF_stop hv hour (k + 1) (xs.length - (k + 1)) (by omega) (fun hk1 => by
    obtain ⟨_, _, _, g4⟩ := bandsB_ok hv
    have := (bandOk_in (g4 (k + 1) hk1)).2.2
    simp at this
    omega)
  rw [show k + 1 + (xs.length - (k + 1)) = xs.length by omega] at h1
  rw [h1]
  unfold prF
  rw [if_pos (by omega)]
theorem prF_prev {xs : List (Int × Int)} (hour : Int) (k : Nat) (h : ∀ j, j < k → (at2 xs j).1 ≠ hour) : prF xs (hour - 1) k = prF xs hour k := by
  induction k with
  | zero => rfl
  | succ k ih =>
    have := h k (by omega)
    unfold prF
    rw [ih (fun j hj => h j (by omega))]
    by_cases hle : (at2 xs k).1 ≤ hour
    · rw [if_pos (by omega), if_pos hle]
    · rw [if_neg (by omega), if_neg hle]
theorem prF_some {xs : List (Int × Int)} (hour : Int) (h0 : (at2 xs 0).1 ≤ hour) (k : Nat) : someP xs (prF xs hour (k + 1)) (k + 1) = true := by
  induction k with
  | zero => simp [someP, prF, h0]
  | succ k ih =>
    unfold prF
    by_cases hle : (at2 xs (k + 1)).1 ≤ hour
    · rw [if_pos hle]
      simp [someP]
    · rw [if_neg hle]
      exact someP_yes ih
theorem price_cases (xs : List (Int × Int)) (hour : Int) : priceB xs hour = -1 ∨ (bandsB xs = true ∧ 0 ≤ hour ∧ hour ≤ 23 ∧ priceB xs hour = prF xs hour xs.length) := by
  unfold priceB
  cases h : bandsB xs
  · left; simp
  · cases h2 : inB hour 0 23
    · left; simp
    · right
      have := inB_true h2
      exact ⟨rfl, this.1, this.2, by simp⟩
theorem price_yes {xs : List (Int × Int)} (h : bandsB xs = true) (hour : Int) (h0 : 0 ≤ hour) (h1 : hour ≤ 23) : priceB xs hour = prF xs hour xs.length := by
  unfold priceB
  rw [h, inB_mk h0 h1]
  rfl

set_option maxHeartbeats 400000 in
theorem fnPriceAt_walk (A0 : Option Addr) (c0 : Nat) (x0 : List Int) (w : World) (l0 : x0.length ≤ c0) (m0 : c0 ≤ maxLen) (s0 : Sl w w.heap.size 1 A0 x0.length (encU x0)) (i0 : ∀ n ∈ x0, 0 ≤ n ∧ n ≤ 255) :
    Calls Tryd.prog 9 #[.slice A0 x0.length c0] w fun e w' => e = .returned (.bool true) ∧ Below w.heap.size w w' := by
  have hm2 := m0
  unfold maxLen at m0
  by_cases hm : x0.length ≤ 1048576
  · have HC := hide (DrawPriceAt_any A0 c0 x0 w s0 l0 hm2 i0)
    clear i0 s0
    go_enter Tryd.func9, Tryd.ntmps9
    go_wp2_with fail
    refine HC.out.mono ?_
    rintro e w1 ⟨ys, D, d, z, hl, hz, rfl, ho, hb1⟩
    have K := hide hb1
    have HO := hide ho
    clear hb1 HC ho
    go_wp2_with fail
    refine (implPriceAt_any _ _ _ _ _ (Sl.of_own HO.out) (by omega)).mono ?_
    rintro e w2 ⟨rfl, hb2⟩
    have HO2 := hide (HO.out.keepB hb2)
    have K2 := hide (K.out.then hb2)
    clear hb2
    go_wp2_with fail
    refine (specPriceAt_any _ _ _ _ _ (Sl.of_own HO2.out) (by omega)).mono ?_
    rintro e w3 ⟨rfl, hb3⟩
    have HO3 := hide (HO2.out.keepB hb3)
    have K3 := hide (K2.out.then hb3)
    clear hb3
    have HT := hide (price_cases ys z)
    rcases HT.out with hv | ⟨hv, z0, z1, hx⟩
    · rw [hv]
      clear hv HT
      go_wp2_with fail
      refine (alive_any _).mono ?_
      rintro e w4 ⟨rfl, hb4⟩
      have K4 := hide (K3.out.then hb4)
      clear hb4
      go_wp2_with fail
      go_ret
      exact ⟨rfl, K4.out⟩
    · have HV := hide hv
      obtain ⟨p1, p2⟩ := prF_in hv z ys.length (Nat.le_refl _)
      have HL0 := hide (bandsB_ok hv)
      clear hv HT
      rw [hx]
      clear hx
      obtain ⟨x, HX⟩ : ∃ x, Hid (prF ys z ys.length = x) := ⟨_, hide rfl⟩
      rw [HX.out] at p1 p2 ⊢
      have HSl := hide (Sl.of_own HO3.out)
      go_wp2_with fail
      go_loop [6, 7] (fun so i => ∃ (k : Nat) (s : Bool), k ≤ ys.length ∧ i = .int .i64 k ∧ so = .bool s ∧ Hid (someP ys x k = s) ∧ Hid (∀ j, j < k → (at2 ys j).1 ≠ z)) (fun _ i => ys.length - (intOf i).toNat)
      case atStart => exact ⟨0, false, Nat.zero_le _, rfl, rfl, hide rfl, hide (fun j hj => absurd hj (by omega))⟩
      case round =>
        obtain ⟨k, s, hk, rfl, rfl, hso, hno⟩ := hrel
        by_cases hlt : k < ys.length
        · obtain ⟨b, off, rfl, hbb, c1, c2⟩ := HSl.out.two k hlt
          by_cases he : (at2 ys k).1 = z
          · have HE := hide (prF_at HV.out z k hlt he)
            have hb1 : ((at2 ys k).1 == z) = true := by simp [he]
            clear he
            go_wp2_with fail
            go_ret
            exact ⟨ret_bool (by rw [← HX.out, HE.out]; simp), K3.out⟩
          · have hb1 : ((at2 ys k).1 == z) = false := by simp [he]
            have HN := hide he
            clear he
            cases s
            · go_wp2_with fail
              go_round
              case rel => exact ⟨k + 1, _, by omega, by go_num, rfl, hide (by rw [someP_no hso.out]; rfl), hide (fun j hj => by rcases (by omega : j < k ∨ j = k) with h | rfl; exact hno.out j h; exact HN.out)⟩
              case measure => simp [intOf]; omega
            · go_wp2_with fail
              go_round
              case rel => exact ⟨k + 1, _, by omega, by go_num, rfl, hide (someP_yes hso.out), hide (fun j hj => by rcases (by omega : j < k ∨ j = k) with h | rfl; exact hno.out j h; exact HN.out)⟩
              case measure => simp [intOf]; omega
        · obtain rfl : k = ys.length := by omega
          obtain ⟨g1, g2, g3, g4⟩ := HL0.out
          have hz0 : 0 < z := by
            have := hno.out 0 (by omega)
            omega
          have hs : s = true := by
            have h1 := prF_some (xs := ys) z (by omega) (ys.length - 1)
            rw [show ys.length - 1 + 1 = ys.length by omega, HX.out, hso.out] at h1
            exact h1
          subst hs
          clear g4 g3
          go_wp2_with fail
          refine (implPriceAt_any _ _ _ _ _ (Sl.of_own HO3.out) (by omega)).mono ?_
          rintro e w4 ⟨rfl, hb4⟩
          rw [price_yes HV.out _ (by omega) (by omega), prF_prev z _ hno.out, HX.out]
          have K4 := hide (K3.out.then hb4)
          clear hb4
          go_wp2_with fail
          go_ret
          exact ⟨rfl, K4.out⟩
  · go_enter Tryd.func9, Tryd.ntmps9
    go_wp2_with fail
    go_ret
    exact ⟨rfl, Below.refl _ _⟩

end Go.Proofs.YtfbdfiepnepgpaaDoor
