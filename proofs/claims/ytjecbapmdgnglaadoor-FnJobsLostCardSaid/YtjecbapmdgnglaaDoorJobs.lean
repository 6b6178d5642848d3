/-
  Chapter 35 (crews): what the program's functions and the reference's compute, and the walks of the laws on them.
-/
import Derived.Test.YtjecbapmdgnglaaDoorValid
namespace Go.Proofs.YtjecbapmdgnglaaDoor
open Go.RowKit
set_option linter.unusedVariables false

/-- The job at place k of an order is one, and has not come before. -/
def jobAt (xs : List (Int × Int)) (ord : List Int) (k : Nat) : Bool := inB (at_ ord k) 0 ((xs.length : Int) - 1) && !hasB (ord.take k) (at_ ord k)
def timeF (xs : List (Int × Int)) (ord : List Int) : Nat → Int
  | 0 => 0
  | k + 1 => timeF xs ord k + (at2 xs (at_ ord k).toNat).1
def lostF (xs : List (Int × Int)) (ord : List Int) : Nat → Int
  | 0 => 0
  | k + 1 => lostF xs ord k + (at2 xs (at_ ord k).toNat).2 * timeF xs ord (k + 1)
def lostOk (xs : List (Int × Int)) (ord : List Int) : Bool := jobB xs && decide (ord.length = xs.length) && decide (∀ j, j < ord.length → jobAt xs ord j = true)
def lostB (xs : List (Int × Int)) (ord : List Int) : Int := if lostOk xs ord then lostF xs ord ord.length else -1

theorem job_at {xs : List (Int × Int)} (h : jobB xs = true) (k : Nat) (hk : k < xs.length) : (1 ≤ (at2 xs k).1 ∧ (at2 xs k).1 ≤ 999) ∧ (0 ≤ (at2 xs k).2 ∧ (at2 xs k).2 ≤ 999) := by
  simp [jobB] at h
  have := h.2 (at2 xs k).1 (at2 xs k).2 (by rw [at2_eq xs k hk]; exact List.getElem_mem hk)
  exact ⟨inB_true this.1, inB_true this.2⟩
theorem job_len {xs : List (Int × Int)} (h : jobB xs = true) : xs.length ≤ 8 := by
  simp [jobB] at h
  exact h.1
theorem jobAt_in {xs : List (Int × Int)} {ord : List Int} {k : Nat} (h : jobAt xs ord k = true) : 0 ≤ at_ ord k ∧ at_ ord k < xs.length := by
  simp [jobAt] at h
  have := inB_true h.1
  omega
theorem lostOk_no {xs : List (Int × Int)} {ord : List Int} (k : Nat) (hk : k < ord.length) (h : jobAt xs ord k = false) : lostOk xs ord = false := by
  have : decide (∀ j, j < ord.length → jobAt xs ord j = true) = false := decide_eq_false fun hh => by rw [hh k hk] at h; cases h
  unfold lostOk
  rw [this]
  simp
theorem lostOk_yes {xs : List (Int × Int)} {ord : List Int} (h1 : jobB xs = true) (h2 : ord.length = xs.length) (h : ∀ j, j < ord.length → jobAt xs ord j = true) : lostOk xs ord = true := by
  have : decide (∀ j, j < ord.length → jobAt xs ord j = true) = true := decide_eq_true h
  unfold lostOk
  rw [this]
  simp [h1, h2]
theorem timeF_in {xs : List (Int × Int)} {ord : List Int} (h : jobB xs = true) (k : Nat) (hall : ∀ j, j < k → jobAt xs ord j = true) : 0 ≤ timeF xs ord k ∧ timeF xs ord k ≤ 999 * k := by
  induction k with
  | zero => simp [timeF]
  | succ k ih =>
    have := ih fun j hj => hall j (by omega)
    have h1 := jobAt_in (hall k (by omega))
    have := job_at h (at_ ord k).toNat (by omega)
    unfold timeF
    omega
theorem mul_in {a b m n : Int} (ha : 0 ≤ a ∧ a ≤ m) (hb : 0 ≤ b ∧ b ≤ n) (hn : 0 ≤ n) : 0 ≤ a * b ∧ a * b ≤ m * n := by
  refine ⟨Int.mul_nonneg ha.1 hb.1, ?_⟩
  exact Int.le_trans (Int.mul_le_mul_of_nonneg_right ha.2 hb.1) (Int.mul_le_mul_of_nonneg_left hb.2 (by omega))
theorem lostF_in {xs : List (Int × Int)} {ord : List Int} (h : jobB xs = true) (k : Nat) (hk : k ≤ 8) (hall : ∀ j, j < k → jobAt xs ord j = true) : 0 ≤ lostF xs ord k ∧ lostF xs ord k ≤ 7984008 * k := by
  induction k with
  | zero => simp [lostF]
  | succ k ih =>
    have := ih (by omega) fun j hj => hall j (by omega)
    have h1 := jobAt_in (hall k (by omega))
    have h2 := job_at h (at_ ord k).toNat (by omega)
    have h3 := timeF_in (ord := ord) h (k + 1) hall
    have h4 := mul_in h2.2 (show 0 ≤ timeF xs ord (k + 1) ∧ timeF xs ord (k + 1) ≤ 7992 by omega) (by omega)
    unfold lostF
    omega
/-- The ways through the tests of one job. -/
theorem jobAt_cases (xs : List (Int × Int)) (ord : List Int) (k : Nat) :
    (at_ ord k < 0 ∧ inB (at_ ord k) 0 ((xs.length : Int) - 1) = false ∧ jobAt xs ord k = false) ∨ (0 ≤ at_ ord k ∧ (xs.length : Int) ≤ at_ ord k ∧ inB (at_ ord k) 0 ((xs.length : Int) - 1) = false ∧ jobAt xs ord k = false) ∨
    (∃ m : Nat, at_ ord k = m ∧ m < xs.length ∧ inB (m : Int) 0 ((xs.length : Int) - 1) = true ∧ hasB (ord.take k) m = true ∧ jobAt xs ord k = false) ∨
    (∃ m : Nat, at_ ord k = m ∧ m < xs.length ∧ inB (m : Int) 0 ((xs.length : Int) - 1) = true ∧ hasB (ord.take k) m = false ∧ jobAt xs ord k = true) := by
  by_cases h0 : at_ ord k < 0
  · have : inB (at_ ord k) 0 ((xs.length : Int) - 1) = false := inB_no (.inl h0)
    exact .inl ⟨h0, this, by simp [jobAt, this]⟩
  · by_cases h1 : (xs.length : Int) ≤ at_ ord k
    · have : inB (at_ ord k) 0 ((xs.length : Int) - 1) = false := inB_no (.inr (by omega))
      exact .inr (.inl ⟨by omega, h1, this, by simp [jobAt, this]⟩)
    · obtain ⟨m, hm⟩ := Int.eq_ofNat_of_zero_le (show 0 ≤ at_ ord k by omega)
      have hin : inB (m : Int) 0 ((xs.length : Int) - 1) = true := inB_mk (by omega) (by omega)
      cases h2 : hasB (ord.take k) m
      · exact .inr (.inr (.inr ⟨m, hm, by omega, hin, h2, by unfold jobAt; rw [hm, hin, h2]; rfl⟩))
      · exact .inr (.inr (.inl ⟨m, hm, by omega, hin, h2, by unfold jobAt; rw [hm, hin, h2]; rfl⟩))
theorem lost_cases (xs : List (Int × Int)) (ord : List Int) : (jobB xs = false ∧ lostB xs ord = -1) ∨ (jobB xs = true ∧ ((ord.length : Int) != xs.length) = true ∧ lostB xs ord = -1) ∨
    (jobB xs = true ∧ ((ord.length : Int) != xs.length) = false ∧ ord.length = xs.length) := by
  cases h1 : jobB xs
  · exact .inl ⟨rfl, by simp [lostB, lostOk, h1]⟩
  · by_cases h2 : ord.length = xs.length
    · exact .inr (.inr ⟨rfl, by simp [h2], h2⟩)
    · exact .inr (.inl ⟨rfl, by simp; omega, by simp [lostB, lostOk, h2]⟩)
theorem timeF_succ {xs : List (Int × Int)} {ord : List Int} {k m : Nat} (hm : at_ ord k = m) : timeF xs ord (k + 1) = timeF xs ord k + (at2 xs m).1 := by
  show timeF xs ord k + (at2 xs (at_ ord k).toNat).1 = _
  rw [hm]
  rfl
theorem lostF_succ {xs : List (Int × Int)} {ord : List Int} {k m : Nat} (hm : at_ ord k = m) : lostF xs ord (k + 1) = lostF xs ord k + (at2 xs m).2 * (timeF xs ord k + (at2 xs m).1) := by
  rw [← timeF_succ hm]
  show lostF xs ord k + (at2 xs (at_ ord k).toNat).2 * timeF xs ord (k + 1) = _
  rw [hm]
  rfl

theorem implJobsLost_any (A D : Option Addr) (c d : Nat) (xs : List (Int × Int)) (ord : List Int) (w : World) (h : Sl w w.heap.size 2 A xs.length (enc2 xs)) (g : Sl w w.heap.size 1 D ord.length (encI ord)) (hm : xs.length ≤ 1048576) (hn : ord.length ≤ 1048576) (hd : ord.length ≤ d) (hd2 : d ≤ maxLen) :
    Calls Tryd.prog 54 #[.slice A xs.length c, .slice D ord.length d] w fun e w' => e = .returned (.int .i64 (lostB xs ord)) ∧ Below w.heap.size w w' := by
  unfold maxLen at hd2
  rcases lost_cases xs ord with ⟨h1, hq⟩ | ⟨h1, h2, hq⟩ | ⟨h1, h2, h3⟩
  · have HQ := hide hq
    clear hq
    go_enter Tryd.func54, Tryd.ntmps54
    go_wp2_with fail
    refine (implJobsValid_any _ _ _ _ h hm).mono ?_
    rintro e w1 ⟨rfl, hb1⟩
    rw [h1]
    go_wp2_with fail
    go_ret
    exact ⟨ret_int HQ.out.symm, hb1⟩
  · have HQ := hide hq
    clear hq
    go_enter Tryd.func54, Tryd.ntmps54
    go_wp2_with fail
    refine (implJobsValid_any _ _ _ _ h hm).mono ?_
    rintro e w1 ⟨rfl, hb1⟩
    rw [h1]
    go_wp2_with fail
    go_ret
    exact ⟨ret_int HQ.out.symm, hb1⟩
  · have HV := hide h1
    have H3 := hide h3
    have hl8 := job_len h1
    have hl9 : ord.length ≤ 8 := by omega
    clear h3
    go_enter Tryd.func54, Tryd.ntmps54
    go_wp2_with fail
    refine (implJobsValid_any _ _ _ _ h hm).mono ?_
    rintro e w1 ⟨rfl, hb1⟩
    rw [h1]
    clear h1
    have h' := h.below hb1
    have g' := g.to hb1
    clear h g
    go_wp2_with fail
    go_loop [5, 6, 21] (fun q t i => ∃ k : Nat, k ≤ ord.length ∧ i = .int .i64 k ∧ q = .int .i64 (lostF xs ord k) ∧ t = .int .i64 (timeF xs ord k) ∧ ∀ j, j < k → jobAt xs ord j = true) (fun _ _ i => ord.length - (intOf i).toNat)
    case atStart => exact ⟨0, Nat.zero_le _, rfl, rfl, rfl, fun j hj => absurd hj (by omega)⟩
    case round =>
      obtain ⟨k, hk, rfl, rfl, rfl, hall⟩ := hrel
      obtain ⟨p0, p1⟩ := timeF_in HV.out k hall
      obtain ⟨p2, p3⟩ := lostF_in HV.out k (by omega) hall
      have H := hide hall
      clear hall
      by_cases hlt : k < ord.length
      · obtain ⟨b, off, rfl, hb, hc⟩ := g'.int k hlt
        have HT := hide (g'.take k (by omega))
        have HKL := hide (show (ord.take k).length = k by simp; omega)
        have i0 : (0 : Int) ≤ k := by omega
        have i1 : (k : Int) ≤ d := by omega
        have HB := hide hb1
        clear hb1
        rcases jobAt_cases xs ord k with ⟨s1, _, s3⟩ | ⟨s1, s2, _, s3⟩ | ⟨m, s0, s1, _, s4, s3⟩ | ⟨m, s0, s1, _, s4, s3⟩
        · have S3 := hide s3
          clear s3
          go_wp2_with fail
          go_ret
          exact ⟨ret_int (by simp [lostB, lostOk_no k hlt S3.out]), HB.out⟩
        · have S3 := hide s3
          clear s3
          go_wp2_with fail
          go_ret
          exact ⟨ret_int (by simp [lostB, lostOk_no k hlt S3.out]), HB.out⟩
        · have S3 := hide s3
          rw [s0] at hc
          clear s3 s0
          go_wp2_with ((go_at_call 84; refine (slicesContains_any _ _ _ _ _ _ HKL.out HT.out (by omega)).mono ?_; rintro e w' ⟨rfl, rfl⟩))
          go_ret
          exact ⟨ret_int (by simp [lostB, lostOk_no k hlt S3.out]), HB.out⟩
        · have S3 := hide s3
          have S0 := hide s0
          rw [s0] at hc
          clear s3 s0
          obtain ⟨b2, off2, rfl, hb2, hc2, hd3⟩ := h'.two m s1
          obtain ⟨⟨u1, u2⟩, u3, u4⟩ := job_at HV.out m s1
          obtain ⟨r1, r2⟩ := mul_in (a := (at2 xs m).2) (b := timeF xs ord k + (at2 xs m).1) (m := 999) (n := 7992) ⟨u3, u4⟩ (by omega) (by omega)
          have HS : Hid (∀ j, j < k + 1 → jobAt xs ord j = true) := fun j hj => by
            by_cases hjk : j = k
            · subst hjk; exact S3.out
            · exact H.out j (by omega)
          go_wp2_with ((go_at_call 84; refine (slicesContains_any _ _ _ _ _ _ HKL.out HT.out (by omega)).mono ?_; rintro e w' ⟨rfl, rfl⟩))
          go_round
          case rel => exact ⟨k + 1, by omega, by go_num, vint (lostF_succ S0.out).symm, vint (timeF_succ S0.out).symm, HS.out⟩
          case measure => simp [intOf]; omega
      · obtain rfl : k = ord.length := by omega
        go_wp2_with fail
        go_ret
        exact ⟨ret_int (by simp [lostB, lostOk_yes HV.out H3.out H.out]), hb1⟩

theorem specJobsLost_any (A D : Option Addr) (c d : Nat) (xs : List (Int × Int)) (ord : List Int) (w : World) (h : Sl w w.heap.size 2 A xs.length (enc2 xs)) (g : Sl w w.heap.size 1 D ord.length (encI ord)) (hm : xs.length ≤ 1048576) (hn : ord.length ≤ 1048576) (hd : ord.length ≤ d) (hd2 : d ≤ maxLen) :
    Calls Tryd.prog 56 #[.slice A xs.length c, .slice D ord.length d] w fun e w' => e = .returned (.int .i64 (lostB xs ord)) ∧ Below w.heap.size w w' := by
  unfold maxLen at hd2
  rcases lost_cases xs ord with ⟨h1, hq⟩ | ⟨h1, h2, hq⟩ | ⟨h1, h2, h3⟩
  · have HQ := hide hq
    clear hq
    go_enter Tryd.func56, Tryd.ntmps56
    go_wp2_with fail
    refine (specJobsValid_any _ _ _ _ h hm).mono ?_
    rintro e w1 ⟨rfl, rfl⟩
    rw [h1]
    go_wp2_with fail
    go_ret
    exact ⟨ret_int HQ.out.symm, Below.refl _ _⟩
  · have HQ := hide hq
    clear hq
    go_enter Tryd.func56, Tryd.ntmps56
    go_wp2_with fail
    refine (specJobsValid_any _ _ _ _ h hm).mono ?_
    rintro e w1 ⟨rfl, rfl⟩
    rw [h1]
    go_wp2_with fail
    go_ret
    exact ⟨ret_int HQ.out.symm, Below.refl _ _⟩
  · have HV := hide h1
    have H3 := hide h3
    have hl8 := job_len h1
    have hl9 : ord.length ≤ 8 := by omega
    clear h3
    go_enter Tryd.func56, Tryd.ntmps56
    go_wp2_with fail
    refine (specJobsValid_any _ _ _ _ h hm).mono ?_
    rintro e w1 ⟨rfl, rfl⟩
    rw [h1]
    clear h1
    go_wp2_with fail
    go_loopw [5, 6, 7] (fun q t i wr => ∃ k : Nat, k ≤ ord.length ∧ i = .int .i64 k ∧ q = .int .i64 (lostF xs ord k) ∧ t = .int .i64 (timeF xs ord k) ∧ (∀ j, j < k → jobAt xs ord j = true) ∧ Below w.heap.size w wr) (fun _ _ i _ => ord.length - (intOf i).toNat)
    case atStart => exact ⟨0, Nat.zero_le _, rfl, rfl, rfl, fun j hj => absurd hj (by omega), Below.refl _ _⟩
    case round =>
      obtain ⟨k, hk, rfl, rfl, rfl, hall, hbl⟩ := hrel
      obtain ⟨p0, p1⟩ := timeF_in HV.out k hall
      obtain ⟨p2, p3⟩ := lostF_in HV.out k (by omega) hall
      have H := hide hall
      clear hall
      have h' := h.below hbl
      have g' := g.to hbl
      by_cases hlt : k < ord.length
      · obtain ⟨b, off, rfl, hb, hc⟩ := g'.int k hlt
        have HT := hide (g'.take k (by omega))
        have HKL := hide (show (ord.take k).length = k by simp; omega)
        have i0 : (0 : Int) ≤ k := by omega
        have i1 : (k : Int) ≤ d := by omega
        have i2 : (k : Int) < ord.length := by omega
        have HB := hide hbl
        clear hbl
        rcases jobAt_cases xs ord k with ⟨s1, s2, s3⟩ | ⟨_, s1, s2, s3⟩ | ⟨m, s0, s1, s2, s4, s3⟩ | ⟨m, s0, s1, s2, s4, s3⟩
        · have S3 := hide s3
          clear s3
          go_wp2_with fail
          go_quiet (first | (go_at_call 70; exact quiet_left (l1In_any _ _ _ _)) | (go_at_call 83; exact quiet_left (l1Has_any _ _ _ _ _ _ HKL.out HT.out (by omega))))
          go_wp2_with fail
          go_ret
          exact ⟨ret_int (by simp [lostB, lostOk_no k hlt S3.out]), below_drewN HB.out _⟩
        · have S3 := hide s3
          clear s3
          go_wp2_with fail
          go_quiet (first | (go_at_call 70; exact quiet_left (l1In_any _ _ _ _)) | (go_at_call 83; exact quiet_left (l1Has_any _ _ _ _ _ _ HKL.out HT.out (by omega))))
          go_wp2_with fail
          go_ret
          exact ⟨ret_int (by simp [lostB, lostOk_no k hlt S3.out]), below_drewN HB.out _⟩
        · have S3 := hide s3
          rw [s0] at hc
          clear s3 s0
          go_wp2_with fail
          go_quiet (first | (go_at_call 70; exact quiet_left (l1In_any _ _ _ _)) | (go_at_call 83; exact quiet_left (l1Has_any _ _ _ _ _ _ HKL.out HT.out (by omega))))
          go_wp2_with fail
          go_ret
          exact ⟨ret_int (by simp [lostB, lostOk_no k hlt S3.out]), below_drewN HB.out _⟩
        · have S3 := hide s3
          have S0 := hide s0
          rw [s0] at hc
          clear s3 s0
          obtain ⟨b2, off2, rfl, hb2, hc2, hd3⟩ := h'.two m s1
          obtain ⟨⟨u1, u2⟩, u3, u4⟩ := job_at HV.out m s1
          obtain ⟨r1, r2⟩ := mul_in (a := timeF xs ord k + (at2 xs m).1) (b := (at2 xs m).2) (m := 7992) (n := 999) (by omega) ⟨u3, u4⟩ (by omega)
          have i3 : (0 : Int) ≤ m := by omega
          have i4 : (m : Int) < xs.length := by omega
          have HS : Hid (∀ j, j < k + 1 → jobAt xs ord j = true) := fun j hj => by
            by_cases hjk : j = k
            · subst hjk; exact S3.out
            · exact H.out j (by omega)
          go_wp2_with fail
          go_quiet (first | (go_at_call 70; exact quiet_left (l1In_any _ _ _ _)) | (go_at_call 83; exact quiet_left (l1Has_any _ _ _ _ _ _ HKL.out HT.out (by omega))))
          go_wp2_with fail
          go_roundw
          case rel => exact ⟨k + 1, by omega, by go_num, vint (by rw [lostF_succ S0.out, Int.mul_comm]), vint (timeF_succ S0.out).symm, HS.out, below_drewN HB.out _⟩
          case measure => simp [intOf]; omega
      · obtain rfl : k = ord.length := by omega
        go_wp2_with fail
        go_ret
        exact ⟨ret_int (by simp [lostB, lostOk_yes HV.out H3.out H.out]), hbl⟩

end Go.Proofs.YtjecbapmdgnglaaDoor
