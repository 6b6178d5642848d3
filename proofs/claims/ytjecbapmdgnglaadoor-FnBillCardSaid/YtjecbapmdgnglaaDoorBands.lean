/-
  Chapter 37, the bands of prices: what the program's functions and the reference's compute, and the walks of the laws on them.
-/
import Derived.Test.YtjecbapmdgnglaaDoorPairs
import Derived.IntWalk
namespace Go.Proofs.YtjecbapmdgnglaaDoor
open Go.RowKit
set_option linter.unusedVariables false

/-- The band at a place is as it has to be. -/
def bandOk (xs : List (Int × Int)) (k : Nat) : Bool := inB (at2 xs k).1 0 23 && inB (at2 xs k).2 0 999 && (k == 0 || decide ((at2 xs (k - 1)).1 < (at2 xs k).1))
def bandsB (xs : List (Int × Int)) : Bool := decide (1 ≤ xs.length) && decide (xs.length ≤ 6) && decide ((at2 xs 0).1 = 0) && decide (∀ j, j < xs.length → bandOk xs j = true)

theorem bandsB_no {xs : List (Int × Int)} (k : Nat) (hk : k < xs.length) (h : bandOk xs k = false) : bandsB xs = false := by
  have : decide (∀ j, j < xs.length → bandOk xs j = true) = false := decide_eq_false fun hh => by rw [hh k hk] at h; cases h
  unfold bandsB
  rw [this]
  simp
theorem bandsB_yes {xs : List (Int × Int)} (h1 : 1 ≤ xs.length) (h2 : xs.length ≤ 6) (h3 : (at2 xs 0).1 = 0) (h : ∀ j, j < xs.length → bandOk xs j = true) : bandsB xs = true := by
  have : decide (∀ j, j < xs.length → bandOk xs j = true) = true := decide_eq_true h
  unfold bandsB
  rw [this]
  simp [h1, h2, h3]
theorem bandsB_len {xs : List (Int × Int)} (h : ¬ (1 ≤ xs.length ∧ xs.length ≤ 6)) : bandsB xs = false := by
  unfold bandsB
  by_cases h1 : 1 ≤ xs.length
  · have h2 : ¬ xs.length ≤ 6 := fun h2 => h ⟨h1, h2⟩
    simp [h2]
  · simp [h1]
theorem bandsB_from {xs : List (Int × Int)} (h : (at2 xs 0).1 ≠ 0) : bandsB xs = false := by
  unfold bandsB
  simp [h]
theorem bandOk_no1 {xs : List (Int × Int)} {k : Nat} (h : inB (at2 xs k).1 0 23 = false) : bandOk xs k = false := by simp [bandOk, h]
theorem bandOk_no2 {xs : List (Int × Int)} {k : Nat} (h : inB (at2 xs k).2 0 999 = false) : bandOk xs k = false := by simp [bandOk, h]
theorem bandOk_no3 {xs : List (Int × Int)} {k : Nat} (h0 : 0 < k) (h : ¬ (at2 xs (k - 1)).1 < (at2 xs k).1) : bandOk xs k = false := by
  have : (k == 0) = false := by simp; omega
  simp [bandOk, h, this]
theorem bandOk_yes {xs : List (Int × Int)} {k : Nat} (h1 : inB (at2 xs k).1 0 23 = true) (h2 : inB (at2 xs k).2 0 999 = true) (h3 : k = 0 ∨ (at2 xs (k - 1)).1 < (at2 xs k).1) : bandOk xs k = true := by
  rcases h3 with rfl | h3
  · simp [bandOk, h1, h2]
  · simp [bandOk, h1, h2, h3]

theorem specBandsValid_any (A : Option Addr) (c : Nat) (xs : List (Int × Int)) (w : World) (h : Sl w w.heap.size 2 A xs.length (enc2 xs)) (hm : xs.length ≤ 1048576) :
    Calls Tryd.prog 69 #[.slice A xs.length c] w fun e w' => e = .returned (.bool (bandsB xs)) ∧ Below w.heap.size w w' := by
  go_enter Tryd.func69, Tryd.ntmps69
  go_wp2
  go_loopw [3] (fun i wr => ∃ k : Nat, k ≤ xs.length ∧ i = .int .i64 k ∧ (∀ j, j < k → bandOk xs j = true) ∧ Below w.heap.size w wr) (fun i _ => xs.length - (intOf i).toNat)
  case atStart => exact ⟨0, Nat.zero_le _, rfl, fun j hj => absurd hj (by omega), Below.refl _ _⟩
  case round =>
    obtain ⟨k, hk, rfl, hall, hbl⟩ := hrel
    have H := Lib.hid hall; clear hall
    by_cases hlt : k < xs.length
    · obtain ⟨b, off, rfl, hb, hc, hd⟩ := h.two k hlt
      have hc' := (hbl.cell (p := ⟨b, off + k * 2, none⟩) hb).trans hc
      have hd' := (hbl.cell (p := ⟨b, off + k * 2 + 1, none⟩) hb).trans hd
      clear hc hd
      have i0 : (0 : Int) ≤ k := by omega
      have i1 : (k : Int) < xs.length := by omega
      cases h1 : inB (at2 xs k).1 0 23
      · have HB := hide hbl
        clear hbl
        go_wp2
        go_quiet ((go_at_call 70; exact quiet_left (l1In_any _ _ _ _)))
        go_wp2
        go_ret
        exact ⟨ret_bool (bandsB_no k hlt (bandOk_no1 h1)).symm, below_drewN HB.out _⟩
      · cases h2 : inB (at2 xs k).2 0 999
        · have HB := hide hbl
          clear hbl
          go_wp2
          go_quiet ((go_at_call 70; exact quiet_left (l1In_any _ _ _ _)))
          go_wp2
          go_ret
          exact ⟨ret_bool (bandsB_no k hlt (bandOk_no2 h2)).symm, below_drewN HB.out _⟩
        · by_cases h3 : k = 0
          · subst h3
            simp only [Nat.zero_mul, Nat.add_zero] at hc' hd'
            have HB := hide hbl
            clear hbl
            go_wp2
            go_quiet ((go_at_call 70; exact quiet_left (l1In_any _ _ _ _)))
            go_wp2
            go_roundw
            case rel => exact ⟨1, by omega, by go_num, fun j hj => by obtain rfl : j = 0 := by omega
                                                                      exact bandOk_yes h1 h2 (.inl rfl), below_drewN HB.out _⟩
            case measure => simp [intOf]; omega
          · obtain ⟨b', off', hA, hb', hp, _⟩ := h.two (k - 1) (by omega)
            simp at hA
            obtain ⟨rfl, rfl⟩ := hA
            have hp' := (hbl.cell (p := ⟨b, off + (k - 1) * 2, none⟩) hb').trans hp
            clear hp
            have hk0 : 0 < k := by omega
            have i2 : (0 : Int) ≤ (k : Int) - 1 := by omega
            have i3 : (0 : Int) < (k : Int) := by omega
            have i4 : (k : Int) - 1 < xs.length := by omega
            have HB := hide hbl
            clear hbl
            by_cases h4 : (at2 xs (k - 1)).1 < (at2 xs k).1
            · go_wp2
              go_quiet ((go_at_call 70; exact quiet_left (l1In_any _ _ _ _)))
              go_wp2
              go_roundw
              case rel =>
                refine ⟨k + 1, by omega, by go_num, fun j hj => ?_, below_drewN HB.out _⟩
                by_cases hjk : j = k
                · subst hjk; exact bandOk_yes h1 h2 (.inr h4)
                · exact H.out j (by omega)
              case measure => simp [intOf]; omega
            · go_wp2
              go_quiet ((go_at_call 70; exact quiet_left (l1In_any _ _ _ _)))
              go_wp2
              go_ret
              exact ⟨ret_bool (bandsB_no k hlt (bandOk_no3 hk0 (by omega))).symm, below_drewN HB.out _⟩
    · cases h6 : inB xs.length 1 6
      · go_wp2_with ((go_at_call 70; refine (l1In_any _ _ _ _).mono ?_; rintro e w' ⟨rfl, rfl⟩))
        go_ret
        have := inB_false h6
        exact ⟨ret_bool (bandsB_len (by omega)).symm, hbl⟩
      · have h7 := inB_true h6
        obtain ⟨b, off, rfl, hb, hc, hd⟩ := h.two 0 (by omega)
        have hc' := (hbl.cell (p := ⟨b, off + 0 * 2, none⟩) hb).trans hc
        simp only [Nat.zero_mul, Nat.add_zero] at hc'
        clear hc hd
        have hl0 : (0 : Int) < xs.length := by omega
        by_cases h8 : (at2 xs 0).1 = 0
        · have h9 : ((at2 xs 0).1 == 0) = true := by simp [h8]
          have H8 := hide h8
          clear h8
          go_wp2_with ((go_at_call 70; refine (l1In_any _ _ _ _).mono ?_; rintro e w' ⟨rfl, rfl⟩))
          go_ret
          exact ⟨ret_bool (bandsB_yes (by omega) (by omega) H8.out fun j hj => H.out j (by omega)).symm, hbl⟩
        · have h9 : ((at2 xs 0).1 == 0) = false := by simp [h8]
          have H8 := hide h8
          clear h8
          go_wp2_with ((go_at_call 70; refine (l1In_any _ _ _ _).mono ?_; rintro e w' ⟨rfl, rfl⟩))
          go_ret
          exact ⟨ret_bool (bandsB_from H8.out).symm, hbl⟩

theorem implBandsValid_any (A : Option Addr) (c : Nat) (xs : List (Int × Int)) (w : World) (h : Sl w w.heap.size 2 A xs.length (enc2 xs)) (hm : xs.length ≤ 1048576) :
    Calls Tryd.prog 65 #[.slice A xs.length c] w fun e w' => e = .returned (.bool (bandsB xs)) ∧ Below w.heap.size w w' := by
  by_cases g1 : 1 ≤ xs.length
  · by_cases g2 : xs.length ≤ 6
    · obtain ⟨b0, off0, rfl, hb0, hc0, _⟩ := h.two 0 (by omega)
      simp only [Nat.zero_mul, Nat.add_zero] at hc0
      have hl0 : (0 : Int) < xs.length := by omega
      by_cases g3 : (at2 xs 0).1 = 0
      · have g4 : ((at2 xs 0).1 != 0) = false := by simp [g3]
        have G3 := hide g3
        clear g3
        go_enter Tryd.func65, Tryd.ntmps65
        go_wp2
        go_loopw [22] (fun i wr => ∃ k : Nat, k ≤ xs.length ∧ i = .int .i64 k ∧ (∀ j, j < k → bandOk xs j = true) ∧ Below w.heap.size w wr) (fun i _ => xs.length - (intOf i).toNat)
        case atStart => exact ⟨0, Nat.zero_le _, rfl, fun j hj => absurd hj (by omega), Below.refl _ _⟩
        case round =>
          obtain ⟨k, hk, rfl, hall, hbl⟩ := hrel
          have H := Lib.hid hall; clear hall
          clear hc0
          by_cases hlt : k < xs.length
          · obtain ⟨b, off, hA, hb, hc, hd⟩ := h.two k hlt
            simp at hA
            obtain ⟨rfl, rfl⟩ := hA
            have hc' := (hbl.cell (p := ⟨b0, off0 + k * 2, none⟩) hb).trans hc
            have hd' := (hbl.cell (p := ⟨b0, off0 + k * 2 + 1, none⟩) hb).trans hd
            clear hc hd
            have i0 : (0 : Int) ≤ k := by omega
            have i1 : (k : Int) < xs.length := by omega
            have hbs : b0 < wr.heap.size := Nat.lt_of_lt_of_le hb hbl.size
            cases h1 : inB (at2 xs k).1 0 23
            · have HB := hide hbl
              clear hbl
              go_wp2
              go_quiet (first | (go_at_call 66; exact quiet_left (hourValid_any _ _)) | (go_at_call 67; exact quiet_left (powerValid_any _ _)))
              go_wp2
              go_ret
              exact ⟨ret_bool (bandsB_no k hlt (bandOk_no1 h1)).symm, below_drewN (HB.out.alloc HB.out.size _) _⟩
            · cases h2 : inB (at2 xs k).2 0 999
              · have HB := hide hbl
                clear hbl
                go_wp2
                go_quiet (first | (go_at_call 66; exact quiet_left (hourValid_any _ _)) | (go_at_call 67; exact quiet_left (powerValid_any _ _)))
                go_wp2
                go_ret
                exact ⟨ret_bool (bandsB_no k hlt (bandOk_no2 h2)).symm, below_drewN (HB.out.alloc HB.out.size _) _⟩
              · by_cases h3 : k = 0
                · subst h3
                  simp only [Nat.zero_mul, Nat.add_zero] at hc' hd'
                  have HB := hide hbl
                  clear hbl
                  go_wp2
                  go_quiet (first | (go_at_call 66; exact quiet_left (hourValid_any _ _)) | (go_at_call 67; exact quiet_left (powerValid_any _ _)))
                  go_wp2
                  go_roundw
                  case rel => exact ⟨1, by omega, by go_num, fun j hj => by obtain rfl : j = 0 := by omega
                                                                            exact bandOk_yes h1 h2 (.inl rfl), below_drewN (HB.out.alloc HB.out.size _) _⟩
                  case measure => simp [intOf]; omega
                · obtain ⟨b', off', hA, hb', hp, _⟩ := h.two (k - 1) (by omega)
                  simp at hA
                  obtain ⟨rfl, rfl⟩ := hA
                  have hp' := (hbl.cell (p := ⟨b0, off0 + (k - 1) * 2, none⟩) hb').trans hp
                  clear hp
                  have hk0 : 0 < k := by omega
                  have i2 : (0 : Int) ≤ (k : Int) - 1 := by omega
                  have i3 : (0 : Int) < (k : Int) := by omega
                  have i4 : (k : Int) - 1 < xs.length := by omega
                  have HB := hide hbl
                  clear hbl
                  by_cases h4 : (at2 xs (k - 1)).1 < (at2 xs k).1
                  · go_wp2
                    go_quiet (first | (go_at_call 66; exact quiet_left (hourValid_any _ _)) | (go_at_call 67; exact quiet_left (powerValid_any _ _)))
                    go_wp2
                    go_roundw
                    case rel =>
                      refine ⟨k + 1, by omega, by go_num, fun j hj => ?_, below_drewN (HB.out.alloc HB.out.size _) _⟩
                      by_cases hjk : j = k
                      · subst hjk; exact bandOk_yes h1 h2 (.inr h4)
                      · exact H.out j (by omega)
                    case measure => simp [intOf]; omega
                  · go_wp2
                    go_quiet (first | (go_at_call 66; exact quiet_left (hourValid_any _ _)) | (go_at_call 67; exact quiet_left (powerValid_any _ _)))
                    go_wp2
                    go_ret
                    exact ⟨ret_bool (bandsB_no k hlt (bandOk_no3 hk0 (by omega))).symm, below_drewN (HB.out.alloc HB.out.size _) _⟩
          · go_wp2
            go_ret
            exact ⟨ret_bool (bandsB_yes (by omega) (by omega) G3.out fun j hj => H.out j (by omega)).symm, hbl⟩
      · have g4 : ((at2 xs 0).1 != 0) = true := by simp [g3]
        have G3 := hide g3
        clear g3
        go_enter Tryd.func65, Tryd.ntmps65
        go_wp2
        go_ret
        exact ⟨ret_bool (bandsB_from G3.out).symm, Below.refl _ _⟩
    · go_enter Tryd.func65, Tryd.ntmps65
      go_wp2
      go_ret
      exact ⟨ret_bool (bandsB_len (by omega)).symm, Below.refl _ _⟩
  · go_enter Tryd.func65, Tryd.ntmps65
    go_wp2
    go_ret
    exact ⟨ret_bool (bandsB_len (by omega)).symm, Below.refl _ _⟩

/-! ### the price of an hour -/
/-- The price by the first k bands. -/
def prF (xs : List (Int × Int)) (hour : Int) : Nat → Int
  | 0 => 0
  | k + 1 => if (at2 xs k).1 ≤ hour then (at2 xs k).2 else prF xs hour k

theorem bandsB_ok {xs : List (Int × Int)} (h : bandsB xs = true) : 1 ≤ xs.length ∧ xs.length ≤ 6 ∧ (at2 xs 0).1 = 0 ∧ ∀ j, j < xs.length → bandOk xs j = true := by
  simp [bandsB] at h
  exact ⟨h.1.1.1, h.1.1.2, h.1.2, h.2⟩
theorem bandOk_in {xs : List (Int × Int)} {k : Nat} (h : bandOk xs k = true) : (0 ≤ (at2 xs k).1 ∧ (at2 xs k).1 ≤ 23) ∧ (0 ≤ (at2 xs k).2 ∧ (at2 xs k).2 ≤ 999) ∧ (k = 0 ∨ (at2 xs (k - 1)).1 < (at2 xs k).1) := by
  simp [bandOk] at h
  exact ⟨inB_true h.1.1, inB_true h.1.2, h.2⟩
theorem bands_up {xs : List (Int × Int)} (h : bandsB xs = true) (j d : Nat) (hk : j + d < xs.length) : (at2 xs j).1 ≤ (at2 xs (j + d)).1 := by
  obtain ⟨_, _, _, hall⟩ := bandsB_ok h
  induction d with
  | zero => simp
  | succ d ih =>
    have h1 := ih (by omega)
    rcases (bandOk_in (hall (j + (d + 1)) hk)).2.2 with h2 | h2
    · omega
    · rw [show j + (d + 1) - 1 = j + d from by omega] at h2
      omega
theorem prF_stop {xs : List (Int × Int)} (hv : bandsB xs = true) (hour : Int) (k d : Nat) (hk : k + d ≤ xs.length) (h : k < xs.length → hour < (at2 xs k).1) : prF xs hour (k + d) = prF xs hour k := by
  induction d with
  | zero => rfl
  | succ d ih =>
    have := bands_up hv k d (by omega)
    have := h (by omega)
    rw [show k + (d + 1) = (k + d) + 1 from rfl]
    unfold prF
    rw [if_neg (by omega), ih (by omega)]
    cases k <;> rfl
theorem prF_in {xs : List (Int × Int)} (hv : bandsB xs = true) (hour : Int) (k : Nat) (hk : k ≤ xs.length) : 0 ≤ prF xs hour k ∧ prF xs hour k ≤ 999 := by
  obtain ⟨_, _, _, hall⟩ := bandsB_ok hv
  induction k with
  | zero => simp [prF]
  | succ k ih =>
    unfold prF
    have := bandOk_in (hall k (by omega))
    split
    · exact this.2.1
    · exact ih (by omega)
def priceB (xs : List (Int × Int)) (hour : Int) : Int := if bandsB xs && inB hour 0 23 then prF xs hour xs.length else -1

theorem implpriceAt_any (A : Option Addr) (c : Nat) (xs : List (Int × Int)) (hour : Int) (w : World) (h : Sl w w.heap.size 2 A xs.length (enc2 xs)) (hm : xs.length ≤ 1048576) :
    Calls Tryd.prog 68 #[.slice A xs.length c, .int .i64 hour] w fun e w' => e = .returned (.int .i64 (prF xs hour xs.length)) ∧ Below w.heap.size w w' := by
  go_enter Tryd.func68, Tryd.ntmps68
  go_wp2
  go_loopw [5, 10] (fun p i wr => ∃ k : Nat, k ≤ xs.length ∧ i = .int .i64 k ∧ p = .int .i64 (prF xs hour k) ∧ Below w.heap.size w wr) (fun _ i _ => xs.length - (intOf i).toNat)
  case atStart => exact ⟨0, Nat.zero_le _, rfl, rfl, Below.refl _ _⟩
  case round =>
    obtain ⟨k, hk, rfl, rfl, hbl⟩ := hrel
    by_cases hlt : k < xs.length
    · obtain ⟨b, off, rfl, hb, hc, hd⟩ := h.two k hlt
      have hc' := (hbl.cell (p := ⟨b, off + k * 2, none⟩) hb).trans hc
      have hd' := (hbl.cell (p := ⟨b, off + k * 2 + 1, none⟩) hb).trans hd
      clear hc hd
      have HB := hide hbl
      clear hbl
      by_cases h1 : (at2 xs k).1 ≤ hour
      all_goals
        go_wp2
        go_roundw
        case rel => exact ⟨k + 1, by omega, by go_num, by simp [prF, h1]; try omega, HB.out.alloc HB.out.size _⟩
        case measure => simp [intOf]; omega
    · obtain rfl : k = xs.length := by omega
      go_wp2
      go_ret
      exact ⟨rfl, hbl⟩

theorem specPriceAt_any (A : Option Addr) (c : Nat) (xs : List (Int × Int)) (hour : Int) (w : World) (h : Sl w w.heap.size 2 A xs.length (enc2 xs)) (hm : xs.length ≤ 1048576) :
    Calls Tryd.prog 71 #[.slice A xs.length c, .int .i64 hour] w fun e w' => e = .returned (.int .i64 (priceB xs hour)) ∧ Below w.heap.size w w' := by
  cases h1 : bandsB xs
  · go_enter Tryd.func71, Tryd.ntmps71
    go_wp2_with fail
    refine (specBandsValid_any _ _ _ _ h hm).mono ?_
    rintro e w1 ⟨rfl, hb1⟩
    rw [h1]
    go_wp2_with fail
    go_ret
    exact ⟨ret_int (by simp [priceB, h1]), hb1⟩
  · cases h2 : inB hour 0 23
    · go_enter Tryd.func71, Tryd.ntmps71
      go_wp2_with fail
      refine (specBandsValid_any _ _ _ _ h hm).mono ?_
      rintro e w1 ⟨rfl, hb1⟩
      rw [h1]
      go_wp2_with ((go_at_call 70; refine (l1In_any _ _ _ _).mono ?_; rintro e w' ⟨rfl, rfl⟩))
      go_ret
      exact ⟨ret_int (by simp [priceB, h2]), hb1⟩
    · go_enter Tryd.func71, Tryd.ntmps71
      go_wp2_with fail
      refine (specBandsValid_any _ _ _ _ h hm).mono ?_
      rintro e w1 ⟨rfl, hb1⟩
      rw [h1]
      go_wp2_with ((go_at_call 70; refine (l1In_any _ _ _ _).mono ?_; rintro e w' ⟨rfl, rfl⟩))
      have HV := hide h1
      have HI := hide h2
      clear h1 h2
      go_loop [5, 6] (fun p i => ∃ k : Nat, k ≤ xs.length ∧ i = .int .i64 k ∧ p = .int .i64 (prF xs hour k)) (fun _ i => xs.length - (intOf i).toNat)
      case atStart => exact ⟨0, Nat.zero_le _, rfl, rfl⟩
      case round =>
        obtain ⟨k, hk, rfl, rfl⟩ := hrel
        by_cases hlt : k < xs.length
        · obtain ⟨b, off, rfl, hb, hc, hd⟩ := h.two k hlt
          have hc' := (hb1.cell (p := ⟨b, off + k * 2, none⟩) hb).trans hc
          have hd' := (hb1.cell (p := ⟨b, off + k * 2 + 1, none⟩) hb).trans hd
          clear hc hd
          have HB := hide hb1
          clear hb1
          by_cases h1 : (at2 xs k).1 ≤ hour
          · go_wp2
            go_round
            case rel => exact ⟨k + 1, by omega, by go_num, by simp [prF, h1]⟩
            case measure => simp [intOf]; omega
          · go_wp2
            go_ret
            refine ⟨ret_int ?_, HB.out⟩
            have := prF_stop HV.out hour k (xs.length - k) (by omega) (fun _ => by omega)
            rw [show k + (xs.length - k) = xs.length from by omega] at this
            simp [priceB, HV.out, HI.out, this]
        · obtain rfl : k = xs.length := by omega
          go_wp2
          go_ret
          exact ⟨ret_int (by simp [priceB, HV.out, HI.out]), hb1⟩

/-! ### bills -/
/-- What the first k hours cost. -/
def billF (xs : List (Int × Int)) (start : Int) (uses : List Int) : Nat → Int
  | 0 => 0
  | k + 1 => billF xs start uses k + at_ uses k * prF xs ((start + k) % 24) xs.length
def billOk (xs : List (Int × Int)) (start : Int) (uses : List Int) : Bool := bandsB xs && inB start 0 23 && decide (uses.length ≤ 100) && uses.all fun u => inB u 0 999
def billB (xs : List (Int × Int)) (start : Int) (uses : List Int) : Int := if billOk xs start uses then billF xs start uses uses.length else -1
theorem billOk_no {xs : List (Int × Int)} {start : Int} {uses : List Int} (k : Nat) (hk : k < uses.length) (h : inB (at_ uses k) 0 999 = false) : billOk xs start uses = false := by
  unfold billOk
  rw [all_no _ _ k hk (by rw [← at_eq uses k hk]; exact h)]
  simp
theorem billOk_yes {xs : List (Int × Int)} {start : Int} {uses : List Int} (h1 : bandsB xs = true) (h2 : inB start 0 23 = true) (h3 : uses.length ≤ 100) (h4 : ∀ j, j < uses.length → inB (at_ uses j) 0 999 = true) : billOk xs start uses = true := by
  unfold billOk
  rw [h1, h2]
  simp only [h3, decide_true, Bool.and_self, Bool.true_and, List.all_eq_true]
  intro x hx
  obtain ⟨j, hj, rfl⟩ := List.getElem_of_mem hx
  rw [← at_eq uses j hj]
  exact h4 j hj
theorem mul_999 {a b : Int} (ha : 0 ≤ a ∧ a ≤ 999) (hb : 0 ≤ b ∧ b ≤ 999) : 0 ≤ a * b ∧ a * b ≤ 998001 := by
  refine ⟨Int.mul_nonneg ha.1 hb.1, ?_⟩
  have h1 : a * b ≤ 999 * b := Int.mul_le_mul_of_nonneg_right ha.2 hb.1
  omega
theorem billF_in {xs : List (Int × Int)} {start : Int} {uses : List Int} (h1 : bandsB xs = true) (k : Nat) (h4 : ∀ j, j < k → inB (at_ uses j) 0 999 = true) : 0 ≤ billF xs start uses k ∧ billF xs start uses k ≤ 998001 * k := by
  induction k with
  | zero => simp [billF]
  | succ k ih =>
    have := ih (fun j hj => h4 j (by omega))
    have := mul_999 (inB_true (h4 k (by omega))) (prF_in h1 ((start + k) % 24) xs.length (Nat.le_refl _))
    unfold billF
    omega
/-- The ways through the tests ahead of the sum. -/
theorem bill_cases (xs : List (Int × Int)) (start : Int) (uses : List Int) : (bandsB xs = false ∧ billB xs start uses = -1) ∨ (bandsB xs = true ∧ inB start 0 23 = false ∧ billB xs start uses = -1) ∨
    (bandsB xs = true ∧ inB start 0 23 = true ∧ 100 < uses.length ∧ billB xs start uses = -1) ∨ (bandsB xs = true ∧ inB start 0 23 = true ∧ uses.length ≤ 100) := by
  cases h1 : bandsB xs
  · exact .inl ⟨rfl, by simp [billB, billOk, h1]⟩
  · cases h2 : inB start 0 23
    · exact .inr (.inl ⟨rfl, rfl, by simp [billB, billOk, h2]⟩)
    · by_cases h3 : uses.length ≤ 100
      · exact .inr (.inr (.inr ⟨rfl, rfl, h3⟩))
      · exact .inr (.inr (.inl ⟨rfl, rfl, by omega, by simp [billB, billOk, h3]⟩))

theorem implBill_any (A D : Option Addr) (c d : Nat) (xs : List (Int × Int)) (start : Int) (uses : List Int) (w : World) (h : Sl w w.heap.size 2 A xs.length (enc2 xs)) (g : Sl w w.heap.size 1 D uses.length (encI uses)) (hm : xs.length ≤ 1048576) (hn : uses.length ≤ 1048576) :
    Calls Tryd.prog 16 #[.slice A xs.length c, .int .i64 start, .slice D uses.length d] w fun e w' => e = .returned (.int .i64 (billB xs start uses)) ∧ Below w.heap.size w w' := by
  rcases bill_cases xs start uses with ⟨h1, hq⟩ | ⟨h1, h2, hq⟩ | ⟨h1, h2, h3, hq⟩ | ⟨h1, h2, h3⟩
  case inr.inr.inr =>
    have HV := hide h1
    have HI := hide h2
    obtain ⟨v1, v2⟩ := inB_true h2
    go_enter Tryd.func16, Tryd.ntmps16
    go_wp2_with fail
    refine (implBandsValid_any _ _ _ _ h hm).mono ?_
    rintro e w1 ⟨rfl, hb1⟩
    rw [h1]
    clear h1
    go_wp2_with ((go_at_call 66; refine (hourValid_any _ _).mono ?_; rintro e w' ⟨rfl, rfl⟩))
    clear h2
    go_loopw [7, 25] (fun q i wr => ∃ k : Nat, k ≤ uses.length ∧ i = .int .i64 k ∧ q = .int .i64 (billF xs start uses k) ∧ (∀ j, j < k → inB (at_ uses j) 0 999 = true) ∧ Below w.heap.size w wr) (fun _ i _ => uses.length - (intOf i).toNat)
    case atStart => exact ⟨0, Nat.zero_le _, rfl, rfl, fun j hj => absurd hj (by omega), hb1⟩
    case round =>
      obtain ⟨k, hk, rfl, rfl, hall, hbl⟩ := hrel
      obtain ⟨p0, p1⟩ := billF_in (start := start) HV.out k hall
      have H := hide hall
      clear hall
      by_cases hlt : k < uses.length
      · obtain ⟨b, off, rfl, hb, hc⟩ := g.int k hlt
        have hc' := (hbl.cell (p := ⟨b, off + k, none⟩) hb).trans hc
        have T := hide (h.to hbl)
        have HB := hide hbl
        clear hc hbl hb1
        cases h4 : inB (at_ uses k) 0 999
        · go_wp2_with ((go_at_call 67; refine (powerValid_any _ _).mono ?_; rintro e w' ⟨rfl, rfl⟩))
          go_ret
          exact ⟨ret_int (by simp [billB, billOk_no (xs := xs) (start := start) k hlt h4]), HB.out⟩
        · have HS : Hid (∀ j, j < k + 1 → inB (at_ uses j) 0 999 = true) := fun j hj => by
            by_cases hjk : j = k
            · subst hjk; exact h4
            · exact H.out j (by omega)
          obtain ⟨u1, u2⟩ := inB_true h4
          obtain ⟨q1, q2⟩ := prF_in HV.out ((start + k) % 24) xs.length (Nat.le_refl _)
          obtain ⟨r1, r2⟩ := mul_999 ⟨u1, u2⟩ ⟨q1, q2⟩
          go_wp2_with ((go_at_call 67; refine (powerValid_any _ _).mono ?_; rintro e w' ⟨rfl, rfl⟩))
          refine (implpriceAt_any _ _ _ _ _ T.out hm).mono ?_
          rintro e w2 ⟨rfl, hb2⟩
          have HB2 := hide (HB.out.trans (hb2.mono HB.out.size))
          clear hb2
          go_wp2_with fail
          go_roundw
          case rel => exact ⟨k + 1, by omega, by go_num, rfl, HS.out, HB2.out⟩
          case measure => simp [intOf]; omega
      · obtain rfl : k = uses.length := by omega
        go_wp2_with fail
        go_ret
        exact ⟨ret_int (by simp [billB, billOk_yes HV.out HI.out h3 H.out]), hbl⟩
  case inl =>
    have HQ := hide hq
    clear hq
    go_enter Tryd.func16, Tryd.ntmps16
    go_wp2_with fail
    refine (implBandsValid_any _ _ _ _ h hm).mono ?_
    rintro e w1 ⟨rfl, hb1⟩
    rw [h1]
    go_wp2_with ((go_at_call 66; refine (hourValid_any _ _).mono ?_; rintro e w' ⟨rfl, rfl⟩))
    go_ret
    exact ⟨ret_int HQ.out.symm, hb1⟩
  case inr.inl =>
    have HQ := hide hq
    clear hq
    go_enter Tryd.func16, Tryd.ntmps16
    go_wp2_with fail
    refine (implBandsValid_any _ _ _ _ h hm).mono ?_
    rintro e w1 ⟨rfl, hb1⟩
    rw [h1]
    go_wp2_with ((go_at_call 66; refine (hourValid_any _ _).mono ?_; rintro e w' ⟨rfl, rfl⟩))
    go_ret
    exact ⟨ret_int HQ.out.symm, hb1⟩
  case inr.inr.inl =>
    have HQ := hide hq
    clear hq
    go_enter Tryd.func16, Tryd.ntmps16
    go_wp2_with fail
    refine (implBandsValid_any _ _ _ _ h hm).mono ?_
    rintro e w1 ⟨rfl, hb1⟩
    rw [h1]
    go_wp2_with ((go_at_call 66; refine (hourValid_any _ _).mono ?_; rintro e w' ⟨rfl, rfl⟩))
    go_ret
    exact ⟨ret_int HQ.out.symm, hb1⟩

theorem specBill_any (A D : Option Addr) (c d : Nat) (xs : List (Int × Int)) (start : Int) (uses : List Int) (w : World) (h : Sl w w.heap.size 2 A xs.length (enc2 xs)) (g : Sl w w.heap.size 1 D uses.length (encI uses)) (hm : xs.length ≤ 1048576) (hn : uses.length ≤ 1048576) :
    Calls Tryd.prog 17 #[.slice A xs.length c, .int .i64 start, .slice D uses.length d] w fun e w' => e = .returned (.int .i64 (billB xs start uses)) ∧ Below w.heap.size w w' := by
  rcases bill_cases xs start uses with ⟨h1, hq⟩ | ⟨h1, h2, hq⟩ | ⟨h1, h2, h3, hq⟩ | ⟨h1, h2, h3⟩
  case inr.inr.inr =>
    have HV := hide h1
    have HI := hide h2
    obtain ⟨v1, v2⟩ := inB_true h2
    go_enter Tryd.func17, Tryd.ntmps17
    go_wp2_with fail
    refine (specBandsValid_any _ _ _ _ h hm).mono ?_
    rintro e w1 ⟨rfl, hb1⟩
    rw [h1]
    clear h1
    go_wp2_with ((go_at_call 70; refine (l1In_any _ _ _ _).mono ?_; rintro e w' ⟨rfl, rfl⟩))
    clear h2
    go_loopw [7, 8] (fun q i wr => ∃ k : Nat, k ≤ uses.length ∧ i = .int .i64 k ∧ q = .int .i64 (billF xs start uses k) ∧ (∀ j, j < k → inB (at_ uses j) 0 999 = true) ∧ Below w.heap.size w wr) (fun _ i _ => uses.length - (intOf i).toNat)
    case atStart => exact ⟨0, Nat.zero_le _, rfl, rfl, fun j hj => absurd hj (by omega), hb1⟩
    case round =>
      obtain ⟨k, hk, rfl, rfl, hall, hbl⟩ := hrel
      obtain ⟨p0, p1⟩ := billF_in (start := start) HV.out k hall
      have H := hide hall
      clear hall
      by_cases hlt : k < uses.length
      · obtain ⟨b, off, rfl, hb, hc⟩ := g.int k hlt
        have hc' := (hbl.cell (p := ⟨b, off + k, none⟩) hb).trans hc
        have T := hide (h.to hbl)
        have HB := hide hbl
        have i0 : (0 : Int) ≤ k := by omega
        have i1 : (k : Int) < uses.length := by omega
        clear hc hbl hb1
        cases h4 : inB (at_ uses k) 0 999
        · go_wp2_with ((go_at_call 70; refine (l1In_any _ _ _ _).mono ?_; rintro e w' ⟨rfl, rfl⟩))
          go_ret
          exact ⟨ret_int (by simp [billB, billOk_no (xs := xs) (start := start) k hlt h4]), HB.out⟩
        · have HS : Hid (∀ j, j < k + 1 → inB (at_ uses j) 0 999 = true) := fun j hj => by
            by_cases hjk : j = k
            · subst hjk; exact h4
            · exact H.out j (by omega)
          obtain ⟨u1, u2⟩ := inB_true h4
          obtain ⟨q1, q2⟩ := prF_in HV.out ((start + k) % 24) xs.length (Nat.le_refl _)
          obtain ⟨r1, r2⟩ := mul_999 ⟨u1, u2⟩ ⟨q1, q2⟩
          have hp : priceB xs ((start + k) % 24) = prF xs ((start + k) % 24) xs.length := by
            have : inB ((start + k) % 24) 0 23 = true := inB_mk (by omega) (by omega)
            simp [priceB, HV.out, this]
          have HP := hide hp
          clear hp
          go_wp2_with ((go_at_call 70; refine (l1In_any _ _ _ _).mono ?_; rintro e w' ⟨rfl, rfl⟩))
          go_region_held3 (fun w' => w'.cell? ⟨b, off + k, none⟩ = some (.int .i64 (at_ uses k)))
            (first | go_keep | (refine cellk hb2 ?_; go_keep))
            (first | (go_at_call 71; refine (specPriceAt_any _ _ _ _ _ ?_ hm).mono ?_; exact T.out; rintro e w2 ⟨rfl, hb2⟩))
          have e1 : IntKind.i64.wrap (billF xs start uses k + IntKind.i64.wrap (at_ uses k * priceB xs ((IntKind.i64.wrap (start + k)).tmod 24))) = billF xs start uses (k + 1) := by
            rw [IntWalk.i64_in (start + k) (by omega), Int.tmod_eq_emod_of_nonneg (by omega), HP.out, IntWalk.i64_in (at_ uses k * prF xs ((start + k) % 24) xs.length) (by omega), IntWalk.i64_in _ (by omega)]
            rfl
          rw [e1]
          clear e1
          have HB2 := hide (HB.out.drew.trans (hb2.mono HB.out.drew.size))
          clear hb2
          go_wp2_with fail
          go_roundw
          case rel => exact ⟨k + 1, by omega, by go_num, rfl, HS.out, HB2.out⟩
          case measure => simp [intOf]; omega
      · obtain rfl : k = uses.length := by omega
        go_wp2_with fail
        go_ret
        exact ⟨ret_int (by simp [billB, billOk_yes HV.out HI.out h3 H.out]), hbl⟩
  case inl =>
    have HQ := hide hq
    clear hq
    go_enter Tryd.func17, Tryd.ntmps17
    go_wp2_with fail
    refine (specBandsValid_any _ _ _ _ h hm).mono ?_
    rintro e w1 ⟨rfl, hb1⟩
    rw [h1]
    go_wp2_with ((go_at_call 70; refine (l1In_any _ _ _ _).mono ?_; rintro e w' ⟨rfl, rfl⟩))
    go_ret
    exact ⟨ret_int HQ.out.symm, hb1⟩
  case inr.inl =>
    have HQ := hide hq
    clear hq
    go_enter Tryd.func17, Tryd.ntmps17
    go_wp2_with fail
    refine (specBandsValid_any _ _ _ _ h hm).mono ?_
    rintro e w1 ⟨rfl, hb1⟩
    rw [h1]
    go_wp2_with ((go_at_call 70; refine (l1In_any _ _ _ _).mono ?_; rintro e w' ⟨rfl, rfl⟩))
    go_ret
    exact ⟨ret_int HQ.out.symm, hb1⟩
  case inr.inr.inl =>
    have HQ := hide hq
    clear hq
    go_enter Tryd.func17, Tryd.ntmps17
    go_wp2_with fail
    refine (specBandsValid_any _ _ _ _ h hm).mono ?_
    rintro e w1 ⟨rfl, hb1⟩
    rw [h1]
    go_wp2_with ((go_at_call 70; refine (l1In_any _ _ _ _).mono ?_; rintro e w' ⟨rfl, rfl⟩))
    go_ret
    exact ⟨ret_int HQ.out.symm, hb1⟩

end Go.Proofs.YtjecbapmdgnglaaDoor
