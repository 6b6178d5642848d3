/-
  Chapter 37, the bands of prices: what the program's functions and the reference's compute, and the walks of the laws on them.
-/
import Derived.Test.YtfnilchegccmeaaPairs
namespace Go.Proofs.Ytfnilchegccmeaa
open Go.RowKit
set_option linter.unusedVariables false

/-- The band at a place is as it has to be. -/
def bandOk (xs : List (Int × Int)) (k : Nat) : Bool := inB (at2 xs k).1 0 23 && inB (at2 xs k).2 0 999 && (k == 0 || decide ((at2 xs (k - 1)).1 < (at2 xs k).1))
def bandsB (xs : List (Int × Int)) : Bool := decide (1 ≤ xs.length) && decide (xs.length ≤ 6) && decide ((at2 xs 0).1 = 0) && decide (∀ j, j < xs.length → bandOk xs j = true)

theorem bandsB_no {xs : List (Int × Int)} (k : Nat) (hk : k < xs.length) (h : bandOk xs k = false) : bandsB xs = false := by
  have : decide (∀ j, j < xs.length → bandOk xs j = true) = false := decide_eq_false fun hh => by rw [hh k hk] at h; cases h
  unfold bandsB
  rw [this]
  simp
theorem bandsB_yes {xs : List (Int × Int)} (h1 : 1 ≤ xs.length) (h2 : xs.length ≤ 6) (h3 : (at2 xs 0).1 = 0) (h : ∀ j, j < xs.length → bandOk xs j = true) : bandsB xs = true := by
  have : decide (∀ j, j < xs.length → bandOk xs j = true) = true := decide_eq_true h
  unfold bandsB
  rw [this]
  simp [h1, h2, h3]
theorem bandsB_len {xs : List (Int × Int)} (h : ¬ (1 ≤ xs.length ∧ xs.length ≤ 6)) : bandsB xs = false := by
  unfold bandsB
  by_cases h1 : 1 ≤ xs.length
  · have h2 : ¬ xs.length ≤ 6 := fun h2 => h ⟨h1, h2⟩
    simp [h2]
  · simp [h1]
theorem bandsB_from {xs : List (Int × Int)} (h : (at2 xs 0).1 ≠ 0) : bandsB xs = false := by
  unfold bandsB
  simp [h]
theorem bandOk_no1 {xs : List (Int × Int)} {k : Nat} (h : inB (at2 xs k).1 0 23 = false) : bandOk xs k = false := by simp [bandOk, h]
theorem bandOk_no2 {xs : List (Int × Int)} {k : Nat} (h : inB (at2 xs k).2 0 999 = false) : bandOk xs k = false := by simp [bandOk, h]
theorem bandOk_no3 {xs : List (Int × Int)} {k : Nat} (h0 : 0 < k) (h : ¬ (at2 xs (k - 1)).1 < (at2 xs k).1) : bandOk xs k = false := by
  have : (k == 0) = false := by simp; omega
  simp [bandOk, h, this]
theorem bandOk_yes {xs : List (Int × Int)} {k : Nat} (h1 : inB (at2 xs k).1 0 23 = true) (h2 : inB (at2 xs k).2 0 999 = true) (h3 : k = 0 ∨ (at2 xs (k - 1)).1 < (at2 xs k).1) : bandOk xs k = true := by
  rcases h3 with rfl | h3
  · simp [bandOk, h1, h2]
  · simp [bandOk, h1, h2, h3]

theorem specBandsValid_any (A : Option Addr) (c : Nat) (xs : List (Int × Int)) (w : World) (h : Sl w w.heap.size 2 A xs.length (enc2 xs)) (hm : xs.length ≤ 1048576) :
    Calls Try.prog 39 #[.slice A xs.length c] w fun e w' => e = .returned (.bool (bandsB xs)) ∧ Below w.heap.size w w' := by
  go_enter Try.func39, Try.ntmps39
  go_wp2
  go_loopw [3] (fun i wr => ∃ k : Nat, k ≤ xs.length ∧ i = .int .i64 k ∧ (∀ j, j < k → bandOk xs j = true) ∧ Below w.heap.size w wr) (fun i _ => xs.length - (intOf i).toNat)
  case atStart => exact ⟨0, Nat.zero_le _, rfl, fun j hj => absurd hj (by omega), Below.refl _ _⟩
  case round =>
    obtain ⟨k, hk, rfl, hall, hbl⟩ := hrel
    have H := Lib.hid hall; clear hall
    by_cases hlt : k < xs.length
    · obtain ⟨b, off, rfl, hb, hc, hd⟩ := h.two k hlt
      have hc' := (hbl.cell (p := ⟨b, off + k * 2, none⟩) hb).trans hc
      have hd' := (hbl.cell (p := ⟨b, off + k * 2 + 1, none⟩) hb).trans hd
      clear hc hd
      have i0 : (0 : Int) ≤ k := by omega
      have i1 : (k : Int) < xs.length := by omega
      cases h1 : inB (at2 xs k).1 0 23
      · have HB := hide hbl
        clear hbl
        go_wp2
        go_quiet ((go_at_call 54; exact quiet_left (l1In_any _ _ _ _)))
        go_wp2
        go_ret
        exact ⟨ret_bool (bandsB_no k hlt (bandOk_no1 h1)).symm, below_drewN HB.out _⟩
      · cases h2 : inB (at2 xs k).2 0 999
        · have HB := hide hbl
          clear hbl
          go_wp2
          go_quiet ((go_at_call 54; exact quiet_left (l1In_any _ _ _ _)))
          go_wp2
          go_ret
          exact ⟨ret_bool (bandsB_no k hlt (bandOk_no2 h2)).symm, below_drewN HB.out _⟩
        · by_cases h3 : k = 0
          · subst h3
            simp only [Nat.zero_mul, Nat.add_zero] at hc' hd'
            have HB := hide hbl
            clear hbl
            go_wp2
            go_quiet ((go_at_call 54; exact quiet_left (l1In_any _ _ _ _)))
            go_wp2
            go_roundw
            case rel => exact ⟨1, by omega, by go_num, fun j hj => by obtain rfl : j = 0 := by omega
                                                                      exact bandOk_yes h1 h2 (.inl rfl), below_drewN HB.out _⟩
            case measure => simp [intOf]; omega
          · obtain ⟨b', off', hA, hb', hp, _⟩ := h.two (k - 1) (by omega)
            simp at hA
            obtain ⟨rfl, rfl⟩ := hA
            have hp' := (hbl.cell (p := ⟨b, off + (k - 1) * 2, none⟩) hb').trans hp
            clear hp
            have hk0 : 0 < k := by omega
            have i2 : (0 : Int) ≤ (k : Int) - 1 := by omega
            have i3 : (0 : Int) < (k : Int) := by omega
            have i4 : (k : Int) - 1 < xs.length := by omega
            have HB := hide hbl
            clear hbl
            by_cases h4 : (at2 xs (k - 1)).1 < (at2 xs k).1
            · go_wp2
              go_quiet ((go_at_call 54; exact quiet_left (l1In_any _ _ _ _)))
              go_wp2
              go_roundw
              case rel =>
                refine ⟨k + 1, by omega, by go_num, fun j hj => ?_, below_drewN HB.out _⟩
                by_cases hjk : j = k
                · subst hjk; exact bandOk_yes h1 h2 (.inr h4)
                · exact H.out j (by omega)
              case measure => simp [intOf]; omega
            · go_wp2
              go_quiet ((go_at_call 54; exact quiet_left (l1In_any _ _ _ _)))
              go_wp2
              go_ret
              exact ⟨ret_bool (bandsB_no k hlt (bandOk_no3 hk0 (by omega))).symm, below_drewN HB.out _⟩
    · cases h6 : inB xs.length 1 6
      · go_wp2_with ((go_at_call 54; refine (l1In_any _ _ _ _).mono ?_; rintro e w' ⟨rfl, rfl⟩))
        go_ret
        have := inB_false h6
        exact ⟨ret_bool (bandsB_len (by omega)).symm, hbl⟩
      · have h7 := inB_true h6
        obtain ⟨b, off, rfl, hb, hc, hd⟩ := h.two 0 (by omega)
        have hc' := (hbl.cell (p := ⟨b, off + 0 * 2, none⟩) hb).trans hc
        simp only [Nat.zero_mul, Nat.add_zero] at hc'
        clear hc hd
        have hl0 : (0 : Int) < xs.length := by omega
        by_cases h8 : (at2 xs 0).1 = 0
        · have h9 : ((at2 xs 0).1 == 0) = true := by simp [h8]
          have H8 := hide h8
          clear h8
          go_wp2_with ((go_at_call 54; refine (l1In_any _ _ _ _).mono ?_; rintro e w' ⟨rfl, rfl⟩))
          go_ret
          exact ⟨ret_bool (bandsB_yes (by omega) (by omega) H8.out fun j hj => H.out j (by omega)).symm, hbl⟩
        · have h9 : ((at2 xs 0).1 == 0) = false := by simp [h8]
          have H8 := hide h8
          clear h8
          go_wp2_with ((go_at_call 54; refine (l1In_any _ _ _ _).mono ?_; rintro e w' ⟨rfl, rfl⟩))
          go_ret
          exact ⟨ret_bool (bandsB_from H8.out).symm, hbl⟩

theorem implBandsValid_any (A : Option Addr) (c : Nat) (xs : List (Int × Int)) (w : World) (h : Sl w w.heap.size 2 A xs.length (enc2 xs)) (hm : xs.length ≤ 1048576) :
    Calls Try.prog 41 #[.slice A xs.length c] w fun e w' => e = .returned (.bool (bandsB xs)) ∧ Below w.heap.size w w' := by
  by_cases g1 : 1 ≤ xs.length
  · by_cases g2 : xs.length ≤ 6
    · obtain ⟨b0, off0, rfl, hb0, hc0, _⟩ := h.two 0 (by omega)
      simp only [Nat.zero_mul, Nat.add_zero] at hc0
      have hl0 : (0 : Int) < xs.length := by omega
      by_cases g3 : (at2 xs 0).1 = 0
      · have g4 : ((at2 xs 0).1 != 0) = false := by simp [g3]
        have G3 := hide g3
        clear g3
        go_enter Try.func41, Try.ntmps41
        go_wp2
        go_loopw [22] (fun i wr => ∃ k : Nat, k ≤ xs.length ∧ i = .int .i64 k ∧ (∀ j, j < k → bandOk xs j = true) ∧ Below w.heap.size w wr) (fun i _ => xs.length - (intOf i).toNat)
        case atStart => exact ⟨0, Nat.zero_le _, rfl, fun j hj => absurd hj (by omega), Below.refl _ _⟩
        case round =>
          obtain ⟨k, hk, rfl, hall, hbl⟩ := hrel
          have H := Lib.hid hall; clear hall
          clear hc0
          by_cases hlt : k < xs.length
          · obtain ⟨b, off, hA, hb, hc, hd⟩ := h.two k hlt
            simp at hA
            obtain ⟨rfl, rfl⟩ := hA
            have hc' := (hbl.cell (p := ⟨b0, off0 + k * 2, none⟩) hb).trans hc
            have hd' := (hbl.cell (p := ⟨b0, off0 + k * 2 + 1, none⟩) hb).trans hd
            clear hc hd
            have i0 : (0 : Int) ≤ k := by omega
            have i1 : (k : Int) < xs.length := by omega
            have hbs : b0 < wr.heap.size := Nat.lt_of_lt_of_le hb hbl.size
            cases h1 : inB (at2 xs k).1 0 23
            · have HB := hide hbl
              clear hbl
              go_wp2
              go_quiet (first | (go_at_call 63; exact quiet_left (hourValid_any _ _)) | (go_at_call 56; exact quiet_left (powerValid_any _ _)))
              go_wp2
              go_ret
              exact ⟨ret_bool (bandsB_no k hlt (bandOk_no1 h1)).symm, below_drewN (HB.out.alloc HB.out.size _) _⟩
            · cases h2 : inB (at2 xs k).2 0 999
              · have HB := hide hbl
                clear hbl
                go_wp2
                go_quiet (first | (go_at_call 63; exact quiet_left (hourValid_any _ _)) | (go_at_call 56; exact quiet_left (powerValid_any _ _)))
                go_wp2
                go_ret
                exact ⟨ret_bool (bandsB_no k hlt (bandOk_no2 h2)).symm, below_drewN (HB.out.alloc HB.out.size _) _⟩
              · by_cases h3 : k = 0
                · subst h3
                  simp only [Nat.zero_mul, Nat.add_zero] at hc' hd'
                  have HB := hide hbl
                  clear hbl
                  go_wp2
                  go_quiet (first | (go_at_call 63; exact quiet_left (hourValid_any _ _)) | (go_at_call 56; exact quiet_left (powerValid_any _ _)))
                  go_wp2
                  go_roundw
                  case rel => exact ⟨1, by omega, by go_num, fun j hj => by obtain rfl : j = 0 := by omega
                                                                            exact bandOk_yes h1 h2 (.inl rfl), below_drewN (HB.out.alloc HB.out.size _) _⟩
                  case measure => simp [intOf]; omega
                · obtain ⟨b', off', hA, hb', hp, _⟩ := h.two (k - 1) (by omega)
                  simp at hA
                  obtain ⟨rfl, rfl⟩ := hA
                  have hp' := (hbl.cell (p := ⟨b0, off0 + (k - 1) * 2, none⟩) hb').trans hp
                  clear hp
                  have hk0 : 0 < k := by omega
                  have i2 : (0 : Int) ≤ (k : Int) - 1 := by omega
                  have i3 : (0 : Int) < (k : Int) := by omega
                  have i4 : (k : Int) - 1 < xs.length := by omega
                  have HB := hide hbl
                  clear hbl
                  by_cases h4 : (at2 xs (k - 1)).1 < (at2 xs k).1
                  · go_wp2
                    go_quiet (first | (go_at_call 63; exact quiet_left (hourValid_any _ _)) | (go_at_call 56; exact quiet_left (powerValid_any _ _)))
                    go_wp2
                    go_roundw
                    case rel =>
                      refine ⟨k + 1, by omega, by go_num, fun j hj => ?_, below_drewN (HB.out.alloc HB.out.size _) _⟩
                      by_cases hjk : j = k
                      · subst hjk; exact bandOk_yes h1 h2 (.inr h4)
                      · exact H.out j (by omega)
                    case measure => simp [intOf]; omega
                  · go_wp2
                    go_quiet (first | (go_at_call 63; exact quiet_left (hourValid_any _ _)) | (go_at_call 56; exact quiet_left (powerValid_any _ _)))
                    go_wp2
                    go_ret
                    exact ⟨ret_bool (bandsB_no k hlt (bandOk_no3 hk0 (by omega))).symm, below_drewN (HB.out.alloc HB.out.size _) _⟩
          · go_wp2
            go_ret
            exact ⟨ret_bool (bandsB_yes (by omega) (by omega) G3.out fun j hj => H.out j (by omega)).symm, hbl⟩
      · have g4 : ((at2 xs 0).1 != 0) = true := by simp [g3]
        have G3 := hide g3
        clear g3
        go_enter Try.func41, Try.ntmps41
        go_wp2
        go_ret
        exact ⟨ret_bool (bandsB_from G3.out).symm, Below.refl _ _⟩
    · go_enter Try.func41, Try.ntmps41
      go_wp2
      go_ret
      exact ⟨ret_bool (bandsB_len (by omega)).symm, Below.refl _ _⟩
  · go_enter Try.func41, Try.ntmps41
    go_wp2
    go_ret
    exact ⟨ret_bool (bandsB_len (by omega)).symm, Below.refl _ _⟩

/-! ### the price of an hour -/
/-- The price by the first k bands. -/
def prF (xs : List (Int × Int)) (hour : Int) : Nat → Int
  | 0 => 0
  | k + 1 => if (at2 xs k).1 ≤ hour then (at2 xs k).2 else prF xs hour k

theorem bandsB_ok {xs : List (Int × Int)} (h : bandsB xs = true) : 1 ≤ xs.length ∧ xs.length ≤ 6 ∧ (at2 xs 0).1 = 0 ∧ ∀ j, j < xs.length → bandOk xs j = true := by
  simp [bandsB] at h
  exact ⟨h.1.1.1, h.1.1.2, h.1.2, h.2⟩
theorem bandOk_in {xs : List (Int × Int)} {k : Nat} (h : bandOk xs k = true) : (0 ≤ (at2 xs k).1 ∧ (at2 xs k).1 ≤ 23) ∧ (0 ≤ (at2 xs k).2 ∧ (at2 xs k).2 ≤ 999) ∧ (k = 0 ∨ (at2 xs (k - 1)).1 < (at2 xs k).1) := by
  simp [bandOk] at h
  exact ⟨inB_true h.1.1, inB_true h.1.2, h.2⟩
theorem bands_up {xs : List (Int × Int)} (h : bandsB xs = true) (j d : Nat) (hk : j + d < xs.length) : (at2 xs j).1 ≤ (at2 xs (j + d)).1 := by
  obtain ⟨_, _, _, hall⟩ := bandsB_ok h
  induction d with
  | zero => simp
  | succ d ih =>
    have h1 := ih (by omega)
    rcases (bandOk_in (hall (j + (d + 1)) hk)).2.2 with h2 | h2
    · omega
    · rw [show j + (d + 1) - 1 = j + d from by omega] at h2
      omega
theorem prF_stop {xs : List (Int × Int)} (hv : bandsB xs = true) (hour : Int) (k d : Nat) (hk : k + d ≤ xs.length) (h : k < xs.length → hour < (at2 xs k).1) : prF xs hour (k + d) = prF xs hour k := by
  induction d with
  | zero => rfl
  | succ d ih =>
    have := bands_up hv k d (by omega)
    have := h (by omega)
    rw [show k + (d + 1) = (k + d) + 1 from rfl]
    unfold prF
    rw [if_neg (by omega), ih (by omega)]
    cases k <;> rfl
theorem prF_in {xs : List (Int × Int)} (hv : bandsB xs = true) (hour : Int) (k : Nat) (hk : k ≤ xs.length) : 0 ≤ prF xs hour k ∧ prF xs hour k ≤ 999 := by
  obtain ⟨_, _, _, hall⟩ := bandsB_ok hv
  induction k with
  | zero => simp [prF]
  | succ k ih =>
    unfold prF
    have := bandOk_in (hall k (by omega))
    split
    · exact this.2.1
    · exact ih (by omega)
def priceB (xs : List (Int × Int)) (hour : Int) : Int := if bandsB xs && inB hour 0 23 then prF xs hour xs.length else -1

theorem implpriceAt_any (A : Option Addr) (c : Nat) (xs : List (Int × Int)) (hour : Int) (w : World) (h : Sl w w.heap.size 2 A xs.length (enc2 xs)) (hm : xs.length ≤ 1048576) :
    Calls Try.prog 70 #[.slice A xs.length c, .int .i64 hour] w fun e w' => e = .returned (.int .i64 (prF xs hour xs.length)) ∧ Below w.heap.size w w' := by
  go_enter Try.func70, Try.ntmps70
  go_wp2
  go_loopw [5, 10] (fun p i wr => ∃ k : Nat, k ≤ xs.length ∧ i = .int .i64 k ∧ p = .int .i64 (prF xs hour k) ∧ Below w.heap.size w wr) (fun _ i _ => xs.length - (intOf i).toNat)
  case atStart => exact ⟨0, Nat.zero_le _, rfl, rfl, Below.refl _ _⟩
  case round =>
    obtain ⟨k, hk, rfl, rfl, hbl⟩ := hrel
    by_cases hlt : k < xs.length
    · obtain ⟨b, off, rfl, hb, hc, hd⟩ := h.two k hlt
      have hc' := (hbl.cell (p := ⟨b, off + k * 2, none⟩) hb).trans hc
      have hd' := (hbl.cell (p := ⟨b, off + k * 2 + 1, none⟩) hb).trans hd
      clear hc hd
      have HB := hide hbl
      clear hbl
      by_cases h1 : (at2 xs k).1 ≤ hour
      all_goals
        go_wp2
        go_roundw
        case rel => exact ⟨k + 1, by omega, by go_num, by simp [prF, h1]; try omega, HB.out.alloc HB.out.size _⟩
        case measure => simp [intOf]; omega
    · obtain rfl : k = xs.length := by omega
      go_wp2
      go_ret
      exact ⟨rfl, hbl⟩

theorem implPriceAt_any (A : Option Addr) (c : Nat) (xs : List (Int × Int)) (hour : Int) (w : World) (h : Sl w w.heap.size 2 A xs.length (enc2 xs)) (hm : xs.length ≤ 1048576) :
    Calls Try.prog 53 #[.slice A xs.length c, .int .i64 hour] w fun e w' => e = .returned (.int .i64 (priceB xs hour)) ∧ Below w.heap.size w w' := by
  cases h1 : bandsB xs
  · go_enter Try.func53, Try.ntmps53
    go_wp2_with fail
    refine (implBandsValid_any _ _ _ _ h hm).mono ?_
    rintro e w1 ⟨rfl, hb1⟩
    rw [h1]
    go_wp2_with fail
    go_ret
    exact ⟨ret_int (by simp [priceB, h1]), hb1⟩
  · cases h2 : inB hour 0 23
    · go_enter Try.func53, Try.ntmps53
      go_wp2_with fail
      refine (implBandsValid_any _ _ _ _ h hm).mono ?_
      rintro e w1 ⟨rfl, hb1⟩
      rw [h1]
      go_wp2_with ((go_at_call 63; refine (hourValid_any _ _).mono ?_; rintro e w' ⟨rfl, rfl⟩))
      go_ret
      exact ⟨ret_int (by simp [priceB, h2]), hb1⟩
    · go_enter Try.func53, Try.ntmps53
      go_wp2_with fail
      refine (implBandsValid_any _ _ _ _ h hm).mono ?_
      rintro e w1 ⟨rfl, hb1⟩
      rw [h1]
      go_wp2_with ((go_at_call 63; refine (hourValid_any _ _).mono ?_; rintro e w' ⟨rfl, rfl⟩))
      refine (implpriceAt_any _ _ _ _ _ (h.to hb1) hm).mono ?_
      rintro e w2 ⟨rfl, hb2⟩
      go_wp2_with fail
      go_ret
      exact ⟨ret_int (by simp [priceB, h1, h2]), hb1.trans (hb2.mono hb1.size)⟩

theorem specPriceAt_any (A : Option Addr) (c : Nat) (xs : List (Int × Int)) (hour : Int) (w : World) (h : Sl w w.heap.size 2 A xs.length (enc2 xs)) (hm : xs.length ≤ 1048576) :
    Calls Try.prog 52 #[.slice A xs.length c, .int .i64 hour] w fun e w' => e = .returned (.int .i64 (priceB xs hour)) ∧ Below w.heap.size w w' := by
  cases h1 : bandsB xs
  · go_enter Try.func52, Try.ntmps52
    go_wp2_with fail
    refine (specBandsValid_any _ _ _ _ h hm).mono ?_
    rintro e w1 ⟨rfl, hb1⟩
    rw [h1]
    go_wp2_with fail
    go_ret
    exact ⟨ret_int (by simp [priceB, h1]), hb1⟩
  · cases h2 : inB hour 0 23
    · go_enter Try.func52, Try.ntmps52
      go_wp2_with fail
      refine (specBandsValid_any _ _ _ _ h hm).mono ?_
      rintro e w1 ⟨rfl, hb1⟩
      rw [h1]
      go_wp2_with ((go_at_call 54; refine (l1In_any _ _ _ _).mono ?_; rintro e w' ⟨rfl, rfl⟩))
      go_ret
      exact ⟨ret_int (by simp [priceB, h2]), hb1⟩
    · go_enter Try.func52, Try.ntmps52
      go_wp2_with fail
      refine (specBandsValid_any _ _ _ _ h hm).mono ?_
      rintro e w1 ⟨rfl, hb1⟩
      rw [h1]
      go_wp2_with ((go_at_call 54; refine (l1In_any _ _ _ _).mono ?_; rintro e w' ⟨rfl, rfl⟩))
      have HV := hide h1
      have HI := hide h2
      clear h1 h2
      go_loop [5, 6] (fun p i => ∃ k : Nat, k ≤ xs.length ∧ i = .int .i64 k ∧ p = .int .i64 (prF xs hour k)) (fun _ i => xs.length - (intOf i).toNat)
      case atStart => exact ⟨0, Nat.zero_le _, rfl, rfl⟩
      case round =>
        obtain ⟨k, hk, rfl, rfl⟩ := hrel
        by_cases hlt : k < xs.length
        · obtain ⟨b, off, rfl, hb, hc, hd⟩ := h.two k hlt
          have hc' := (hb1.cell (p := ⟨b, off + k * 2, none⟩) hb).trans hc
          have hd' := (hb1.cell (p := ⟨b, off + k * 2 + 1, none⟩) hb).trans hd
          clear hc hd
          have HB := hide hb1
          clear hb1
          by_cases h1 : (at2 xs k).1 ≤ hour
          · go_wp2
            go_round
            case rel => exact ⟨k + 1, by omega, by go_num, by simp [prF, h1]⟩
            case measure => simp [intOf]; omega
          · go_wp2
            go_ret
            refine ⟨ret_int ?_, HB.out⟩
            have := prF_stop HV.out hour k (xs.length - k) (by omega) (fun _ => by omega)
            rw [show k + (xs.length - k) = xs.length from by omega] at this
            simp [priceB, HV.out, HI.out, this]
        · obtain rfl : k = xs.length := by omega
          go_wp2
          go_ret
          exact ⟨ret_int (by simp [priceB, HV.out, HI.out]), hb1⟩

theorem fnExactBandsValid_walk (A0 : Option Addr) (c0 : Nat) (x0 : List (Int × Int)) (w : World) (l0 : x0.length ≤ c0) (m0 : c0 ≤ maxLen) (s0 : Sl w w.heap.size 2 A0 x0.length (enc2 x0)) (i0 : ∀ p ∈ x0, I64 p.1 ∧ I64 p.2) :
    Calls Try.prog 10 #[.slice A0 x0.length c0] w fun e w' => e = .returned (.bool true) ∧ Below w.heap.size w w' := by
  unfold maxLen at m0
  by_cases hm : x0.length ≤ 1048576
  · have hsz : szOf x0.length 1048576 = 1048576 - x0.length := by unfold szOf; rw [if_neg (by omega)]
    go_enter Try.func10, Try.ntmps10
    go_wp2_with fail
    refine (szBandS_any _ _ _ _ _ (by omega) (by omega) (by omega)).mono ?_
    rintro e w' ⟨rfl, rfl⟩
    rw [hsz]
    clear hsz
    go_wp2_with fail
    refine (toBandS_any _ _ _ _ s0 hm).mono ?_
    rintro e w1 ⟨D1, d1, rfl, ho1, hb1⟩
    go_wp2_with fail
    refine (specBandsValid_any _ _ _ _ (Sl.of_own ho1) hm).mono ?_
    rintro e w6 ⟨rfl, hb6⟩
    go_wp2_with fail
    refine (toBandS_any _ _ _ _ ((s0.to hb1).to hb6) hm).mono ?_
    rintro e w2 ⟨D2, d2, rfl, ho2, hb2⟩
    go_wp2_with fail
    refine (implBandsValid_any _ _ _ _ (Sl.of_own ho2) hm).mono ?_
    rintro e w3 ⟨rfl, hb3⟩
    go_wp2_with fail
    refine (toBandS_any _ _ _ _ ((((s0.to hb1).to hb6).to hb2).to hb3) hm).mono ?_
    rintro e w4 ⟨D4, d4, rfl, ho4, hb4⟩
    go_wp2_with fail
    refine (eqBandS_any _ _ _ _ _ _ _ (((Sl.of_own ho2).to hb3).to hb4) (Sl.of_own ho4) hm).mono ?_
    rintro e w5 ⟨rfl, hb5⟩
    rw [eq2_self]
    go_wp2_with fail
    go_ret
    have z1 := hb1.size
    have z6 := hb6.size
    have z2 := hb2.size
    have z3 := hb3.size
    have z4 := hb4.size
    exact ⟨rfl, ((((hb1.trans (hb6.mono (by omega))).trans (hb2.mono (by omega))).trans (hb3.mono (by omega))).trans (hb4.mono (by omega))).trans (hb5.mono (by omega))⟩
  · have hsz : szOf x0.length 1048576 = -1 := by unfold szOf; rw [if_pos (by omega)]
    go_enter Try.func10, Try.ntmps10
    go_wp2_with fail
    refine (szBandS_any _ _ _ _ _ (by omega) (by omega) (by omega)).mono ?_
    rintro e w' ⟨rfl, rfl⟩
    rw [hsz]
    clear hsz
    go_wp2_with fail
    go_ret
    exact ⟨rfl, Below.refl _ _⟩

theorem fnExactPriceAt_walk (A0 : Option Addr) (c0 : Nat) (x0 : List (Int × Int)) (a1 : Int) (w : World) (l0 : x0.length ≤ c0) (m0 : c0 ≤ maxLen) (s0 : Sl w w.heap.size 2 A0 x0.length (enc2 x0)) (i0 : ∀ p ∈ x0, I64 p.1 ∧ I64 p.2) (i1 : I64 a1) :
    Calls Try.prog 14 #[.slice A0 x0.length c0, .int .i64 a1] w fun e w' => e = .returned (.bool true) ∧ Below w.heap.size w w' := by
  unfold maxLen at m0
  by_cases hm : x0.length ≤ 1048576
  · have hsz : szOf x0.length 1048576 = 1048576 - x0.length := by unfold szOf; rw [if_neg (by omega)]
    go_enter Try.func14, Try.ntmps14
    go_wp2_with fail
    refine (szBandS_any _ _ _ _ _ (by omega) (by omega) (by omega)).mono ?_
    rintro e w' ⟨rfl, rfl⟩
    rw [hsz]
    clear hsz
    go_wp2_with fail
    refine (toBandS_any _ _ _ _ s0 hm).mono ?_
    rintro e w1 ⟨D1, d1, rfl, ho1, hb1⟩
    go_wp2_with fail
    refine (specPriceAt_any _ _ _ _ _ (Sl.of_own ho1) hm).mono ?_
    rintro e w6 ⟨rfl, hb6⟩
    go_wp2_with fail
    refine (toBandS_any _ _ _ _ ((s0.to hb1).to hb6) hm).mono ?_
    rintro e w2 ⟨D2, d2, rfl, ho2, hb2⟩
    go_wp2_with fail
    refine (implPriceAt_any _ _ _ _ _ (Sl.of_own ho2) hm).mono ?_
    rintro e w3 ⟨rfl, hb3⟩
    go_wp2_with fail
    refine (toBandS_any _ _ _ _ ((((s0.to hb1).to hb6).to hb2).to hb3) hm).mono ?_
    rintro e w4 ⟨D4, d4, rfl, ho4, hb4⟩
    go_wp2_with fail
    refine (eqBandS_any _ _ _ _ _ _ _ (((Sl.of_own ho2).to hb3).to hb4) (Sl.of_own ho4) hm).mono ?_
    rintro e w5 ⟨rfl, hb5⟩
    rw [eq2_self]
    go_wp2_with fail
    go_ret
    have z1 := hb1.size
    have z6 := hb6.size
    have z2 := hb2.size
    have z3 := hb3.size
    have z4 := hb4.size
    exact ⟨rfl, ((((hb1.trans (hb6.mono (by omega))).trans (hb2.mono (by omega))).trans (hb3.mono (by omega))).trans (hb4.mono (by omega))).trans (hb5.mono (by omega))⟩
  · have hsz : szOf x0.length 1048576 = -1 := by unfold szOf; rw [if_pos (by omega)]
    go_enter Try.func14, Try.ntmps14
    go_wp2_with fail
    refine (szBandS_any _ _ _ _ _ (by omega) (by omega) (by omega)).mono ?_
    rintro e w' ⟨rfl, rfl⟩
    rw [hsz]
    clear hsz
    go_wp2_with fail
    go_ret
    exact ⟨rfl, Below.refl _ _⟩

end Go.Proofs.Ytfnilchegccmeaa
