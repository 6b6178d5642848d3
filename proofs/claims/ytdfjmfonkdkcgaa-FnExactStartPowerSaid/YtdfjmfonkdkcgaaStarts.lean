/-
  Chapter 33 (starts): what the program's functions and the reference's compute, and the walks of the laws on them.
-/
import Derived.Test.YtdfjmfonkdkcgaaValid
namespace Go.Proofs.Ytdfjmfonkdkcgaa
open Go.RowKit
set_option linter.unusedVariables false

/-- The plant at place k of an order can be started when those before it give p. -/
def stepOk (xs : List (Int × Int)) (ord : List Int) (k : Nat) (p : Int) : Bool :=
  inB (at_ ord k) 0 ((xs.length : Int) - 1) && !hasB (ord.take k) (at_ ord k) && decide ((at2 xs (at_ ord k).toNat).1 ≤ p)
/-- What the first k plants of an order give, if they can be started. -/
def runF (xs : List (Int × Int)) (ord : List Int) : Nat → Option Int
  | 0 => some 0
  | k + 1 => (runF xs ord k).bind fun p => if stepOk xs ord k p then some (p + (at2 xs (at_ ord k).toNat).2) else none
def startB (xs : List (Int × Int)) (ord : List Int) : Option Int := if plantB xs then runF xs ord ord.length else none
/-- A power and whether there is one, as two results. -/
def outV (o : Option Int) : Value := match o with
  | some p => .tuple #[.int .i64 p, .bool true]
  | none => .tuple #[.int .i64 (-1), .bool false]

theorem runF_none {xs : List (Int × Int)} {ord : List Int} (k d : Nat) (h : runF xs ord k = none) : runF xs ord (k + d) = none := by
  induction d with
  | zero => exact h
  | succ d ih => rw [show k + (d + 1) = (k + d) + 1 from rfl]; simp [runF, ih]
theorem startB_none {xs : List (Int × Int)} {ord : List Int} {k : Nat} {p : Int} (hk : k < ord.length) (hp : runF xs ord k = some p) (h : stepOk xs ord k p = false) : startB xs ord = none := by
  have h1 : runF xs ord (k + 1) = none := by simp [runF, hp, h]
  have h2 := runF_none (k + 1) (ord.length - (k + 1)) h1
  rw [show k + 1 + (ord.length - (k + 1)) = ord.length from by omega] at h2
  simp [startB, h2]
theorem plant_at {xs : List (Int × Int)} (h : plantB xs = true) (k : Nat) (hk : k < xs.length) : (0 ≤ (at2 xs k).1 ∧ (at2 xs k).1 ≤ 999) ∧ (0 ≤ (at2 xs k).2 ∧ (at2 xs k).2 ≤ 999) := by
  simp [plantB] at h
  have := h.2 (at2 xs k).1 (at2 xs k).2 (by rw [at2_eq xs k hk]; exact List.getElem_mem hk)
  exact ⟨inB_true this.1, inB_true this.2⟩
theorem plant_len {xs : List (Int × Int)} (h : plantB xs = true) : xs.length ≤ 8 := by
  simp [plantB] at h
  exact h.1
theorem runF_in {xs : List (Int × Int)} {ord : List Int} (h : plantB xs = true) (k : Nat) (p : Int) (hp : runF xs ord k = some p) : 0 ≤ p ∧ p ≤ 999 * k := by
  induction k generalizing p with
  | zero => simp [runF] at hp; omega
  | succ k ih =>
    simp only [runF, Option.bind_eq_some_iff] at hp
    obtain ⟨q, hq, hp⟩ := hp
    have h1 := ih q hq
    cases hs : stepOk xs ord k q
    · simp [hs] at hp
    · simp only [hs, if_true, Option.some.injEq] at hp
      have : inB (at_ ord k) 0 ((xs.length : Int) - 1) = true := by simp [stepOk] at hs; exact hs.1.1
      have := inB_true this
      have := plant_at h (at_ ord k).toNat (by omega)
      omega
/-- The ways through the tests of one plant. -/
theorem step_cases (xs : List (Int × Int)) (ord : List Int) (k : Nat) (p : Int) :
    (at_ ord k < 0 ∧ inB (at_ ord k) 0 ((xs.length : Int) - 1) = false ∧ stepOk xs ord k p = false) ∨ (0 ≤ at_ ord k ∧ (xs.length : Int) ≤ at_ ord k ∧ inB (at_ ord k) 0 ((xs.length : Int) - 1) = false ∧ stepOk xs ord k p = false) ∨
    (∃ m : Nat, at_ ord k = m ∧ m < xs.length ∧ inB (m : Int) 0 ((xs.length : Int) - 1) = true ∧ hasB (ord.take k) m = true ∧ stepOk xs ord k p = false) ∨
    (∃ m : Nat, at_ ord k = m ∧ m < xs.length ∧ inB (m : Int) 0 ((xs.length : Int) - 1) = true ∧ hasB (ord.take k) m = false ∧ p < (at2 xs m).1 ∧ stepOk xs ord k p = false) ∨
    (∃ m : Nat, at_ ord k = m ∧ m < xs.length ∧ inB (m : Int) 0 ((xs.length : Int) - 1) = true ∧ hasB (ord.take k) m = false ∧ (at2 xs m).1 ≤ p ∧ stepOk xs ord k p = true) := by
  by_cases h0 : at_ ord k < 0
  · have : inB (at_ ord k) 0 ((xs.length : Int) - 1) = false := inB_no (.inl h0)
    exact .inl ⟨h0, this, by simp [stepOk, this]⟩
  · by_cases h1 : (xs.length : Int) ≤ at_ ord k
    · have : inB (at_ ord k) 0 ((xs.length : Int) - 1) = false := inB_no (.inr (by omega))
      exact .inr (.inl ⟨by omega, h1, this, by simp [stepOk, this]⟩)
    · obtain ⟨m, hm⟩ := Int.eq_ofNat_of_zero_le (show 0 ≤ at_ ord k by omega)
      have hin : inB (m : Int) 0 ((xs.length : Int) - 1) = true := inB_mk (by omega) (by omega)
      have ht : (at_ ord k).toNat = m := by rw [hm]; rfl
      cases h2 : hasB (ord.take k) m
      · by_cases h3 : p < (at2 xs m).1
        · exact .inr (.inr (.inr (.inl ⟨m, hm, by omega, hin, h2, h3, by simp only [stepOk, ht]; rw [hm, hin, h2]; simp; omega⟩)))
        · exact .inr (.inr (.inr (.inr ⟨m, hm, by omega, hin, h2, by omega, by simp only [stepOk, ht]; rw [hm, hin, h2]; simp; omega⟩)))
      · exact .inr (.inr (.inl ⟨m, hm, by omega, hin, h2, by simp only [stepOk, ht]; rw [hm, hin, h2]; simp⟩))
theorem runF_succ {xs : List (Int × Int)} {ord : List Int} {k m : Nat} {p : Int} (hp : runF xs ord k = some p) (hm : at_ ord k = m) (h : stepOk xs ord k p = true) : runF xs ord (k + 1) = some (p + (at2 xs m).2) := by
  have ht : (at_ ord k).toNat = m := by rw [hm]; rfl
  simp [runF, hp, h, ht]

theorem implStartRun_any (A D : Option Addr) (c d : Nat) (xs : List (Int × Int)) (ord : List Int) (w : World) (h : Sl w w.heap.size 2 A xs.length (enc2 xs)) (g : Sl w w.heap.size 1 D ord.length (encI ord)) (hm : xs.length ≤ 1048576) (hn : ord.length ≤ 1048576) (hd : ord.length ≤ d) (hd2 : d ≤ maxLen) :
    Calls Try.prog 26 #[.slice A xs.length c, .slice D ord.length d] w fun e w' => e = .returned (outV (startB xs ord)) ∧ Below w.heap.size w w' := by
  unfold maxLen at hd2
  cases h1 : plantB xs
  · go_enter Try.func26, Try.ntmps26
    go_wp2_with fail
    refine (implPlantsValid_any _ _ _ _ h hm).mono ?_
    rintro e w1 ⟨rfl, hb1⟩
    rw [h1]
    go_wp2_with fail
    go_ret2
    exact ⟨by simp [startB, h1, outV], hb1⟩
  · have HV := hide h1
    have hl8 := plant_len h1
    go_enter Try.func26, Try.ntmps26
    go_wp2_with fail
    refine (implPlantsValid_any _ _ _ _ h hm).mono ?_
    rintro e w1 ⟨rfl, hb1⟩
    rw [h1]
    clear h1
    have h' := h.below hb1
    have g' := g.to hb1
    clear h g
    go_wp2_with fail
    go_loop [6, 14] (fun q i => ∃ (k : Nat) (p : Int), k ≤ ord.length ∧ i = .int .i64 k ∧ q = .int .i64 p ∧ runF xs ord k = some p) (fun _ i => ord.length - (intOf i).toNat)
    case atStart => exact ⟨0, 0, Nat.zero_le _, rfl, rfl, rfl⟩
    case round =>
      obtain ⟨k, p, hk, rfl, rfl, hrun⟩ := hrel
      obtain ⟨p0, p1⟩ := runF_in HV.out k p hrun
      have HR := hide hrun
      clear hrun
      by_cases hlt : k < ord.length
      · obtain ⟨b, off, rfl, hb, hc⟩ := g'.int k hlt
        have HT := hide (g'.take k (by omega))
        have hkl : (ord.take k).length = k := by simp; omega
        have HKL := hide hkl
        clear hkl
        have i0 : (0 : Int) ≤ k := by omega
        have i1 : (k : Int) ≤ d := by omega
        have HB := hide hb1
        clear hb1
        rcases step_cases xs ord k p with ⟨s1, _, s3⟩ | ⟨s1, s2, _, s3⟩ | ⟨m, s0, s1, _, s4, s3⟩ | ⟨m, s0, s1, _, s4, s5, s3⟩ | ⟨m, s0, s1, _, s4, s5, s3⟩
        · have S3 := hide s3
          clear s3
          go_wp2_with fail
          go_ret2
          exact ⟨by rw [startB_none hlt HR.out S3.out]; rfl, HB.out⟩
        · have S3 := hide s3
          clear s3
          go_wp2_with fail
          go_ret2
          exact ⟨by rw [startB_none hlt HR.out S3.out]; rfl, HB.out⟩
        · have S3 := hide s3
          have S0 := hide s0
          rw [s0] at hc
          clear s3 s0
          go_wp2_with ((go_at_call 71; refine (slicesContains_any _ _ _ _ _ _ HKL.out HT.out (by omega)).mono ?_; rintro e w' ⟨rfl, rfl⟩))
          go_ret2
          exact ⟨by rw [startB_none hlt HR.out S3.out]; rfl, HB.out⟩
        · have S3 := hide s3
          have S0 := hide s0
          rw [s0] at hc
          clear s3 s0
          obtain ⟨b2, off2, rfl, hb2, hc2, hd3⟩ := h'.two m s1
          go_wp2_with ((go_at_call 71; refine (slicesContains_any _ _ _ _ _ _ HKL.out HT.out (by omega)).mono ?_; rintro e w' ⟨rfl, rfl⟩))
          go_ret2
          exact ⟨by rw [startB_none hlt HR.out S3.out]; rfl, HB.out⟩
        · have S3 := hide s3
          have S0 := hide s0
          rw [s0] at hc
          clear s3 s0
          obtain ⟨b2, off2, rfl, hb2, hc2, hd3⟩ := h'.two m s1
          obtain ⟨_, u1, u2⟩ := plant_at HV.out m s1
          go_wp2_with ((go_at_call 71; refine (slicesContains_any _ _ _ _ _ _ HKL.out HT.out (by omega)).mono ?_; rintro e w' ⟨rfl, rfl⟩))
          go_round
          case rel => exact ⟨k + 1, p + (at2 xs m).2, by omega, by go_num, rfl, runF_succ HR.out S0.out S3.out⟩
          case measure => simp [intOf]; omega
      · obtain rfl : k = ord.length := by omega
        go_wp2_with fail
        go_ret2
        exact ⟨by simp [startB, HV.out, HR.out, outV], hb1⟩

theorem specStartRun_any (A D : Option Addr) (c d : Nat) (xs : List (Int × Int)) (ord : List Int) (w : World) (h : Sl w w.heap.size 2 A xs.length (enc2 xs)) (g : Sl w w.heap.size 1 D ord.length (encI ord)) (hm : xs.length ≤ 1048576) (hn : ord.length ≤ 1048576) (hd : ord.length ≤ d) (hd2 : d ≤ maxLen) :
    Calls Try.prog 24 #[.slice A xs.length c, .slice D ord.length d] w fun e w' => e = .returned (outV (startB xs ord)) ∧ Below w.heap.size w w' := by
  unfold maxLen at hd2
  cases h1 : plantB xs
  · go_enter Try.func24, Try.ntmps24
    go_wp2_with fail
    refine (specPlantsValid_any _ _ _ _ h hm).mono ?_
    rintro e w1 ⟨rfl, rfl⟩
    rw [h1]
    go_wp2_with fail
    go_ret2
    exact ⟨by simp [startB, h1, outV], Below.refl _ _⟩
  · have HV := hide h1
    have hl8 := plant_len h1
    go_enter Try.func24, Try.ntmps24
    go_wp2_with fail
    refine (specPlantsValid_any _ _ _ _ h hm).mono ?_
    rintro e w1 ⟨rfl, rfl⟩
    rw [h1]
    clear h1
    go_wp2_with fail
    go_loopw [6, 7] (fun q i wr => ∃ (k : Nat) (p : Int), k ≤ ord.length ∧ i = .int .i64 k ∧ q = .int .i64 p ∧ runF xs ord k = some p ∧ Below w.heap.size w wr) (fun _ i _ => ord.length - (intOf i).toNat)
    case atStart => exact ⟨0, 0, Nat.zero_le _, rfl, rfl, rfl, Below.refl _ _⟩
    case round =>
      obtain ⟨k, p, hk, rfl, rfl, hrun, hbl⟩ := hrel
      obtain ⟨p0, p1⟩ := runF_in HV.out k p hrun
      have HR := hide hrun
      clear hrun
      have h' := h.below hbl
      have g' := g.to hbl
      by_cases hlt : k < ord.length
      · obtain ⟨b, off, rfl, hb, hc⟩ := g'.int k hlt
        have HT := hide (g'.take k (by omega))
        have hkl : (ord.take k).length = k := by simp; omega
        have HKL := hide hkl
        clear hkl
        have i0 : (0 : Int) ≤ k := by omega
        have i1 : (k : Int) ≤ d := by omega
        have i2 : (k : Int) < ord.length := by omega
        have HB := hide hbl
        clear hbl
        rcases step_cases xs ord k p with ⟨s1, s2, s3⟩ | ⟨_, s1, s2, s3⟩ | ⟨m, s0, s1, s2, s4, s3⟩ | ⟨m, s0, s1, s2, s4, s5, s3⟩ | ⟨m, s0, s1, s2, s4, s5, s3⟩
        · have S3 := hide s3
          clear s3
          go_wp2_with fail
          go_quiet (first | (go_at_call 62; exact quiet_left (l1In_any _ _ _ _)) | (go_at_call 68; exact quiet_left (l1Has_any _ _ _ _ _ _ HKL.out HT.out (by omega))))
          go_wp2_with fail
          go_ret2
          exact ⟨by rw [startB_none hlt HR.out S3.out]; rfl, below_drewN HB.out _⟩
        · have S3 := hide s3
          clear s3
          go_wp2_with fail
          go_quiet (first | (go_at_call 62; exact quiet_left (l1In_any _ _ _ _)) | (go_at_call 68; exact quiet_left (l1Has_any _ _ _ _ _ _ HKL.out HT.out (by omega))))
          go_wp2_with fail
          go_ret2
          exact ⟨by rw [startB_none hlt HR.out S3.out]; rfl, below_drewN HB.out _⟩
        · have S3 := hide s3
          have S0 := hide s0
          rw [s0] at hc
          clear s3 s0
          go_wp2_with fail
          go_quiet (first | (go_at_call 62; exact quiet_left (l1In_any _ _ _ _)) | (go_at_call 68; exact quiet_left (l1Has_any _ _ _ _ _ _ HKL.out HT.out (by omega))))
          go_wp2_with fail
          go_ret2
          exact ⟨by rw [startB_none hlt HR.out S3.out]; rfl, below_drewN HB.out _⟩
        · have S3 := hide s3
          have S0 := hide s0
          rw [s0] at hc
          clear s3 s0
          obtain ⟨b2, off2, rfl, hb2, hc2, hd3⟩ := h'.two m s1
          have i3 : (0 : Int) ≤ m := by omega
          have i4 : (m : Int) < xs.length := by omega
          go_wp2_with fail
          go_quiet (first | (go_at_call 62; exact quiet_left (l1In_any _ _ _ _)) | (go_at_call 68; exact quiet_left (l1Has_any _ _ _ _ _ _ HKL.out HT.out (by omega))))
          go_wp2_with fail
          go_ret2
          exact ⟨by rw [startB_none hlt HR.out S3.out]; rfl, below_drewN HB.out _⟩
        · have S3 := hide s3
          have S0 := hide s0
          rw [s0] at hc
          clear s3 s0
          obtain ⟨b2, off2, rfl, hb2, hc2, hd3⟩ := h'.two m s1
          obtain ⟨_, u1, u2⟩ := plant_at HV.out m s1
          have i3 : (0 : Int) ≤ m := by omega
          have i4 : (m : Int) < xs.length := by omega
          go_wp2_with fail
          go_quiet (first | (go_at_call 62; exact quiet_left (l1In_any _ _ _ _)) | (go_at_call 68; exact quiet_left (l1Has_any _ _ _ _ _ _ HKL.out HT.out (by omega))))
          go_wp2_with fail
          go_roundw
          case rel => exact ⟨k + 1, p + (at2 xs m).2, by omega, by go_num, rfl, runF_succ HR.out S0.out S3.out, below_drewN HB.out _⟩
          case measure => simp [intOf]; omega
      · obtain rfl : k = ord.length := by omega
        go_wp2_with fail
        go_ret2
        exact ⟨by simp [startB, HV.out, HR.out, outV], hbl⟩

theorem fnExactStartRun_walk (A0 : Option Addr) (c0 : Nat) (x0 : List (Int × Int)) (A1 : Option Addr) (c1 : Nat) (x1 : List Int) (w : World) (l0 : x0.length ≤ c0) (m0 : c0 ≤ maxLen) (s0 : Sl w w.heap.size 2 A0 x0.length (enc2 x0)) (i0 : ∀ p ∈ x0, I64 p.1 ∧ I64 p.2) (l1 : x1.length ≤ c1) (m1 : c1 ≤ maxLen) (s1 : Sl w w.heap.size 1 A1 x1.length (encI x1)) (i1 : ∀ n ∈ x1, I64 n) :
    Calls Try.prog 5 #[.slice A0 x0.length c0, .slice A1 x1.length c1] w fun e w' => e = .returned (.bool true) ∧ Below w.heap.size w w' := by
  unfold maxLen at m0 m1
  by_cases hn : x1.length ≤ 1048576
  · by_cases hm : x0.length ≤ 1048576
    · have hsz : szOf x0.length 1048576 = 1048576 - x0.length := by unfold szOf; rw [if_neg (by omega)]
      obtain ⟨v, hv, hcase⟩ : ∃ v, v = outV (startB x0 x1) ∧ ((∃ p : Int, v = .tuple #[.int .i64 p, .bool true]) ∨ v = .tuple #[.int .i64 (-1), .bool false]) := by
        refine ⟨_, rfl, ?_⟩
        cases startB x0 x1 with
        | none => exact .inr rfl
        | some p => exact .inl ⟨p, rfl⟩
      have HV := hide hv
      clear hv
      rcases hcase with ⟨p, rfl⟩ | rfl
      all_goals
        go_enter Try.func5, Try.ntmps5
        go_wp2_with fail
        refine (szPlantS_any _ _ _ _ _ (by omega) (by omega) (by omega)).mono ?_
        rintro e w' ⟨rfl, rfl⟩
        rw [hsz]
        clear hsz
        go_wp2_with fail
        refine (toPlantS_any _ _ _ _ s0 hm).mono ?_
        rintro e w1 ⟨D1, d1, rfl, ho1, hb1⟩
        go_wp2_with fail
        refine (toIntS_any _ _ _ _ (s1.to hb1) hn).mono ?_
        rintro e w2 ⟨D2, d2, rfl, ho2, hb2⟩
        obtain ⟨_, _, hv2, hc2, hc2'⟩ := own_slice ho2
        cases hv2
        go_wp2_with fail
        refine (specStartRun_any _ _ _ _ _ _ _ ((Sl.of_own ho1).to hb2) (Sl.of_own ho2) hm hn hc2 hc2').mono ?_
        rintro e w3 ⟨rfl, hb3⟩
        rw [← HV.out]
        go_wp2_with fail
        refine (toPlantS_any _ _ _ _ (((s0.to hb1).to hb2).to hb3) hm).mono ?_
        rintro e w4 ⟨D4, d4, rfl, ho4, hb4⟩
        go_wp2_with fail
        refine (toIntS_any _ _ _ _ ((((s1.to hb1).to hb2).to hb3).to hb4) hn).mono ?_
        rintro e w5 ⟨D5, d5, rfl, ho5, hb5⟩
        obtain ⟨_, _, hv5, hc5, hc5'⟩ := own_slice ho5
        cases hv5
        go_wp2_with fail
        refine (implStartRun_any _ _ _ _ _ _ _ ((Sl.of_own ho4).to hb5) (Sl.of_own ho5) hm hn hc5 hc5').mono ?_
        rintro e w6 ⟨rfl, hb6⟩
        rw [← HV.out]
        go_wp2_with fail
        refine (toPlantS_any _ _ _ _ ((((((s0.to hb1).to hb2).to hb3).to hb4).to hb5).to hb6) hm).mono ?_
        rintro e w7 ⟨D7, d7, rfl, ho7, hb7⟩
        go_wp2_with fail
        refine (eqPlantS_any _ _ _ _ _ _ _ ((((Sl.of_own ho4).to hb5).to hb6).to hb7) (Sl.of_own ho7) hm).mono ?_
        rintro e w8 ⟨rfl, hb8⟩
        rw [eq2_self]
        go_wp2_with fail
        refine (toIntS_any _ _ _ _ ((((((((s1.to hb1).to hb2).to hb3).to hb4).to hb5).to hb6).to hb7).to hb8) hn).mono ?_
        rintro e w9 ⟨D9, d9, rfl, ho9, hb9⟩
        go_wp2_with fail
        refine (eqIntS_any _ _ _ _ _ _ _ (((((Sl.of_own ho5).to hb6).to hb7).to hb8).to hb9) (Sl.of_own ho9) hn).mono ?_
        rintro e w10 ⟨rfl, hb10⟩
        rw [eqI_self]
        go_wp2_with fail
        go_ret
        exact ⟨rfl, hb1.then hb2 |>.then hb3 |>.then hb4 |>.then hb5 |>.then hb6 |>.then hb7 |>.then hb8 |>.then hb9 |>.then hb10⟩
    · have hsz : szOf x0.length 1048576 = -1 := by unfold szOf; rw [if_pos (by omega)]
      go_enter Try.func5, Try.ntmps5
      go_wp2_with fail
      refine (szPlantS_any _ _ _ _ _ (by omega) (by omega) (by omega)).mono ?_
      rintro e w' ⟨rfl, rfl⟩
      rw [hsz]
      clear hsz
      go_wp2_with fail
      go_ret
      exact ⟨rfl, Below.refl _ _⟩
  · go_enter Try.func5, Try.ntmps5
    go_wp2_with fail
    go_ret
    exact ⟨rfl, Below.refl _ _⟩

end Go.Proofs.Ytdfjmfonkdkcgaa
