/-
  Chapter 33 (starts): what the program's functions and the reference's compute, and the walks of the laws on them.
-/
import Derived.Test.YtjecbapmdgnglaaDoorValid
namespace Go.Proofs.YtjecbapmdgnglaaDoor
open Go.RowKit
set_option linter.unusedVariables false

/-- The plant at place k of an order can be started when those before it give p. -/
def stepOk (xs : List (Int × Int)) (ord : List Int) (k : Nat) (p : Int) : Bool :=
  inB (at_ ord k) 0 ((xs.length : Int) - 1) && !hasB (ord.take k) (at_ ord k) && decide ((at2 xs (at_ ord k).toNat).1 ≤ p)
/-- What the first k plants of an order give, if they can be started. -/
def runF (xs : List (Int × Int)) (ord : List Int) : Nat → Option Int
  | 0 => some 0
  | k + 1 => (runF xs ord k).bind fun p => if stepOk xs ord k p then some (p + (at2 xs (at_ ord k).toNat).2) else none
def startB (xs : List (Int × Int)) (ord : List Int) : Option Int := if plantB xs then runF xs ord ord.length else none
/-- A power and whether there is one, as two results. -/
def outV (o : Option Int) : Value := match o with
  | some p => .tuple #[.int .i64 p, .bool true]
  | none => .tuple #[.int .i64 (-1), .bool false]

theorem runF_none {xs : List (Int × Int)} {ord : List Int} (k d : Nat) (h : runF xs ord k = none) : runF xs ord (k + d) = none := by
  induction d with
  | zero => exact h
  | succ d ih => rw [show k + (d + 1) = (k + d) + 1 from rfl]; simp [runF, ih]
theorem startB_none {xs : List (Int × Int)} {ord : List Int} {k : Nat} {p : Int} (hk : k < ord.length) (hp : runF xs ord k = some p) (h : stepOk xs ord k p = false) : startB xs ord = none := by
  have h1 : runF xs ord (k + 1) = none := by simp [runF, hp, h]
  have h2 := runF_none (k + 1) (ord.length - (k + 1)) h1
  rw [show k + 1 + (ord.length - (k + 1)) = ord.length from by omega] at h2
  simp [startB, h2]
theorem plant_at {xs : List (Int × Int)} (h : plantB xs = true) (k : Nat) (hk : k < xs.length) : (0 ≤ (at2 xs k).1 ∧ (at2 xs k).1 ≤ 999) ∧ (0 ≤ (at2 xs k).2 ∧ (at2 xs k).2 ≤ 999) := by
  simp [plantB] at h
  have := h.2 (at2 xs k).1 (at2 xs k).2 (by rw [at2_eq xs k hk]; exact List.getElem_mem hk)
  exact ⟨inB_true this.1, inB_true this.2⟩
theorem plant_len {xs : List (Int × Int)} (h : plantB xs = true) : xs.length ≤ 8 := by
  simp [plantB] at h
  exact h.1
theorem runF_in {xs : List (Int × Int)} {ord : List Int} (h : plantB xs = true) (k : Nat) (p : Int) (hp : runF xs ord k = some p) : 0 ≤ p ∧ p ≤ 999 * k := by
  induction k generalizing p with
  | zero => simp [runF] at hp; omega
  | succ k ih =>
    simp only [runF, Option.bind_eq_some_iff] at hp
    obtain ⟨q, hq, hp⟩ := hp
    have h1 := ih q hq
    cases hs : stepOk xs ord k q
    · simp [hs] at hp
    · simp only [hs, if_true, Option.some.injEq] at hp
      have : inB (at_ ord k) 0 ((xs.length : Int) - 1) = true := by simp [stepOk] at hs; exact hs.1.1
      have := inB_true this
      have := plant_at h (at_ ord k).toNat (by omega)
      omega
/-- The ways through the tests of one plant. -/
theorem step_cases (xs : List (Int × Int)) (ord : List Int) (k : Nat) (p : Int) :
    (at_ ord k < 0 ∧ inB (at_ ord k) 0 ((xs.length : Int) - 1) = false ∧ stepOk xs ord k p = false) ∨ (0 ≤ at_ ord k ∧ (xs.length : Int) ≤ at_ ord k ∧ inB (at_ ord k) 0 ((xs.length : Int) - 1) = false ∧ stepOk xs ord k p = false) ∨
    (∃ m : Nat, at_ ord k = m ∧ m < xs.length ∧ inB (m : Int) 0 ((xs.length : Int) - 1) = true ∧ hasB (ord.take k) m = true ∧ stepOk xs ord k p = false) ∨
    (∃ m : Nat, at_ ord k = m ∧ m < xs.length ∧ inB (m : Int) 0 ((xs.length : Int) - 1) = true ∧ hasB (ord.take k) m = false ∧ p < (at2 xs m).1 ∧ stepOk xs ord k p = false) ∨
    (∃ m : Nat, at_ ord k = m ∧ m < xs.length ∧ inB (m : Int) 0 ((xs.length : Int) - 1) = true ∧ hasB (ord.take k) m = false ∧ (at2 xs m).1 ≤ p ∧ stepOk xs ord k p = true) := by
  by_cases h0 : at_ ord k < 0
  · have : inB (at_ ord k) 0 ((xs.length : Int) - 1) = false := inB_no (.inl h0)
    exact .inl ⟨h0, this, by simp [stepOk, this]⟩
  · by_cases h1 : (xs.length : Int) ≤ at_ ord k
    · have : inB (at_ ord k) 0 ((xs.length : Int) - 1) = false := inB_no (.inr (by omega))
      exact .inr (.inl ⟨by omega, h1, this, by simp [stepOk, this]⟩)
    · obtain ⟨m, hm⟩ := Int.eq_ofNat_of_zero_le (show 0 ≤ at_ ord k by omega)
      have hin : inB (m : Int) 0 ((xs.length : Int) - 1) = true := inB_mk (by omega) (by omega)
      have ht : (at_ ord k).toNat = m := by rw [hm]; rfl
      cases h2 : hasB (ord.take k) m
      · by_cases h3 : p < (at2 xs m).1
        · exact .inr (.inr (.inr (.inl ⟨m, hm, by omega, hin, h2, h3, by simp only [stepOk, ht]; rw [hm, hin, h2]; simp; omega⟩)))
        · exact .inr (.inr (.inr (.inr ⟨m, hm, by omega, hin, h2, by omega, by simp only [stepOk, ht]; rw [hm, hin, h2]; simp; omega⟩)))
      · exact .inr (.inr (.inl ⟨m, hm, by omega, hin, h2, by simp only [stepOk, ht]; rw [hm, hin, h2]; simp⟩))
theorem runF_succ {xs : List (Int × Int)} {ord : List Int} {k m : Nat} {p : Int} (hp : runF xs ord k = some p) (hm : at_ ord k = m) (h : stepOk xs ord k p = true) : runF xs ord (k + 1) = some (p + (at2 xs m).2) := by
  have ht : (at_ ord k).toNat = m := by rw [hm]; rfl
  simp [runF, hp, h, ht]

theorem implStartRun_any (A D : Option Addr) (c d : Nat) (xs : List (Int × Int)) (ord : List Int) (w : World) (h : Sl w w.heap.size 2 A xs.length (enc2 xs)) (g : Sl w w.heap.size 1 D ord.length (encI ord)) (hm : xs.length ≤ 1048576) (hn : ord.length ≤ 1048576) (hd : ord.length ≤ d) (hd2 : d ≤ maxLen) :
    Calls Tryd.prog 35 #[.slice A xs.length c, .slice D ord.length d] w fun e w' => e = .returned (outV (startB xs ord)) ∧ Below w.heap.size w w' := by
  unfold maxLen at hd2
  cases h1 : plantB xs
  · go_enter Tryd.func35, Tryd.ntmps35
    go_wp2_with fail
    refine (implPlantsValid_any _ _ _ _ h hm).mono ?_
    rintro e w1 ⟨rfl, hb1⟩
    rw [h1]
    go_wp2_with fail
    go_ret2
    exact ⟨by simp [startB, h1, outV], hb1⟩
  · have HV := hide h1
    have hl8 := plant_len h1
    go_enter Tryd.func35, Tryd.ntmps35
    go_wp2_with fail
    refine (implPlantsValid_any _ _ _ _ h hm).mono ?_
    rintro e w1 ⟨rfl, hb1⟩
    rw [h1]
    clear h1
    have h' := h.below hb1
    have g' := g.to hb1
    clear h g
    go_wp2_with fail
    go_loop [6, 14] (fun q i => ∃ (k : Nat) (p : Int), k ≤ ord.length ∧ i = .int .i64 k ∧ q = .int .i64 p ∧ runF xs ord k = some p) (fun _ i => ord.length - (intOf i).toNat)
    case atStart => exact ⟨0, 0, Nat.zero_le _, rfl, rfl, rfl⟩
    case round =>
      obtain ⟨k, p, hk, rfl, rfl, hrun⟩ := hrel
      obtain ⟨p0, p1⟩ := runF_in HV.out k p hrun
      have HR := hide hrun
      clear hrun
      by_cases hlt : k < ord.length
      · obtain ⟨b, off, rfl, hb, hc⟩ := g'.int k hlt
        have HT := hide (g'.take k (by omega))
        have hkl : (ord.take k).length = k := by simp; omega
        have HKL := hide hkl
        clear hkl
        have i0 : (0 : Int) ≤ k := by omega
        have i1 : (k : Int) ≤ d := by omega
        have HB := hide hb1
        clear hb1
        rcases step_cases xs ord k p with ⟨s1, _, s3⟩ | ⟨s1, s2, _, s3⟩ | ⟨m, s0, s1, _, s4, s3⟩ | ⟨m, s0, s1, _, s4, s5, s3⟩ | ⟨m, s0, s1, _, s4, s5, s3⟩
        · have S3 := hide s3
          clear s3
          go_wp2_with fail
          go_ret2
          exact ⟨by rw [startB_none hlt HR.out S3.out]; rfl, HB.out⟩
        · have S3 := hide s3
          clear s3
          go_wp2_with fail
          go_ret2
          exact ⟨by rw [startB_none hlt HR.out S3.out]; rfl, HB.out⟩
        · have S3 := hide s3
          have S0 := hide s0
          rw [s0] at hc
          clear s3 s0
          go_wp2_with ((go_at_call 84; refine (slicesContains_any _ _ _ _ _ _ HKL.out HT.out (by omega)).mono ?_; rintro e w' ⟨rfl, rfl⟩))
          go_ret2
          exact ⟨by rw [startB_none hlt HR.out S3.out]; rfl, HB.out⟩
        · have S3 := hide s3
          have S0 := hide s0
          rw [s0] at hc
          clear s3 s0
          obtain ⟨b2, off2, rfl, hb2, hc2, hd3⟩ := h'.two m s1
          go_wp2_with ((go_at_call 84; refine (slicesContains_any _ _ _ _ _ _ HKL.out HT.out (by omega)).mono ?_; rintro e w' ⟨rfl, rfl⟩))
          go_ret2
          exact ⟨by rw [startB_none hlt HR.out S3.out]; rfl, HB.out⟩
        · have S3 := hide s3
          have S0 := hide s0
          rw [s0] at hc
          clear s3 s0
          obtain ⟨b2, off2, rfl, hb2, hc2, hd3⟩ := h'.two m s1
          obtain ⟨_, u1, u2⟩ := plant_at HV.out m s1
          go_wp2_with ((go_at_call 84; refine (slicesContains_any _ _ _ _ _ _ HKL.out HT.out (by omega)).mono ?_; rintro e w' ⟨rfl, rfl⟩))
          go_round
          case rel => exact ⟨k + 1, p + (at2 xs m).2, by omega, by go_num, rfl, runF_succ HR.out S0.out S3.out⟩
          case measure => simp [intOf]; omega
      · obtain rfl : k = ord.length := by omega
        go_wp2_with fail
        go_ret2
        exact ⟨by simp [startB, HV.out, HR.out, outV], hb1⟩

theorem specStartRun_any (A D : Option Addr) (c d : Nat) (xs : List (Int × Int)) (ord : List Int) (w : World) (h : Sl w w.heap.size 2 A xs.length (enc2 xs)) (g : Sl w w.heap.size 1 D ord.length (encI ord)) (hm : xs.length ≤ 1048576) (hn : ord.length ≤ 1048576) (hd : ord.length ≤ d) (hd2 : d ≤ maxLen) :
    Calls Tryd.prog 38 #[.slice A xs.length c, .slice D ord.length d] w fun e w' => e = .returned (outV (startB xs ord)) ∧ Below w.heap.size w w' := by
  unfold maxLen at hd2
  cases h1 : plantB xs
  · go_enter Tryd.func38, Tryd.ntmps38
    go_wp2_with fail
    refine (specPlantsValid_any _ _ _ _ h hm).mono ?_
    rintro e w1 ⟨rfl, rfl⟩
    rw [h1]
    go_wp2_with fail
    go_ret2
    exact ⟨by simp [startB, h1, outV], Below.refl _ _⟩
  · have HV := hide h1
    have hl8 := plant_len h1
    go_enter Tryd.func38, Tryd.ntmps38
    go_wp2_with fail
    refine (specPlantsValid_any _ _ _ _ h hm).mono ?_
    rintro e w1 ⟨rfl, rfl⟩
    rw [h1]
    clear h1
    go_wp2_with fail
    go_loopw [6, 7] (fun q i wr => ∃ (k : Nat) (p : Int), k ≤ ord.length ∧ i = .int .i64 k ∧ q = .int .i64 p ∧ runF xs ord k = some p ∧ Below w.heap.size w wr) (fun _ i _ => ord.length - (intOf i).toNat)
    case atStart => exact ⟨0, 0, Nat.zero_le _, rfl, rfl, rfl, Below.refl _ _⟩
    case round =>
      obtain ⟨k, p, hk, rfl, rfl, hrun, hbl⟩ := hrel
      obtain ⟨p0, p1⟩ := runF_in HV.out k p hrun
      have HR := hide hrun
      clear hrun
      have h' := h.below hbl
      have g' := g.to hbl
      by_cases hlt : k < ord.length
      · obtain ⟨b, off, rfl, hb, hc⟩ := g'.int k hlt
        have HT := hide (g'.take k (by omega))
        have hkl : (ord.take k).length = k := by simp; omega
        have HKL := hide hkl
        clear hkl
        have i0 : (0 : Int) ≤ k := by omega
        have i1 : (k : Int) ≤ d := by omega
        have i2 : (k : Int) < ord.length := by omega
        have HB := hide hbl
        clear hbl
        rcases step_cases xs ord k p with ⟨s1, s2, s3⟩ | ⟨_, s1, s2, s3⟩ | ⟨m, s0, s1, s2, s4, s3⟩ | ⟨m, s0, s1, s2, s4, s5, s3⟩ | ⟨m, s0, s1, s2, s4, s5, s3⟩
        · have S3 := hide s3
          clear s3
          go_wp2_with fail
          go_quiet (first | (go_at_call 70; exact quiet_left (l1In_any _ _ _ _)) | (go_at_call 83; exact quiet_left (l1Has_any _ _ _ _ _ _ HKL.out HT.out (by omega))))
          go_wp2_with fail
          go_ret2
          exact ⟨by rw [startB_none hlt HR.out S3.out]; rfl, below_drewN HB.out _⟩
        · have S3 := hide s3
          clear s3
          go_wp2_with fail
          go_quiet (first | (go_at_call 70; exact quiet_left (l1In_any _ _ _ _)) | (go_at_call 83; exact quiet_left (l1Has_any _ _ _ _ _ _ HKL.out HT.out (by omega))))
          go_wp2_with fail
          go_ret2
          exact ⟨by rw [startB_none hlt HR.out S3.out]; rfl, below_drewN HB.out _⟩
        · have S3 := hide s3
          have S0 := hide s0
          rw [s0] at hc
          clear s3 s0
          go_wp2_with fail
          go_quiet (first | (go_at_call 70; exact quiet_left (l1In_any _ _ _ _)) | (go_at_call 83; exact quiet_left (l1Has_any _ _ _ _ _ _ HKL.out HT.out (by omega))))
          go_wp2_with fail
          go_ret2
          exact ⟨by rw [startB_none hlt HR.out S3.out]; rfl, below_drewN HB.out _⟩
        · have S3 := hide s3
          have S0 := hide s0
          rw [s0] at hc
          clear s3 s0
          obtain ⟨b2, off2, rfl, hb2, hc2, hd3⟩ := h'.two m s1
          have i3 : (0 : Int) ≤ m := by omega
          have i4 : (m : Int) < xs.length := by omega
          go_wp2_with fail
          go_quiet (first | (go_at_call 70; exact quiet_left (l1In_any _ _ _ _)) | (go_at_call 83; exact quiet_left (l1Has_any _ _ _ _ _ _ HKL.out HT.out (by omega))))
          go_wp2_with fail
          go_ret2
          exact ⟨by rw [startB_none hlt HR.out S3.out]; rfl, below_drewN HB.out _⟩
        · have S3 := hide s3
          have S0 := hide s0
          rw [s0] at hc
          clear s3 s0
          obtain ⟨b2, off2, rfl, hb2, hc2, hd3⟩ := h'.two m s1
          obtain ⟨_, u1, u2⟩ := plant_at HV.out m s1
          have i3 : (0 : Int) ≤ m := by omega
          have i4 : (m : Int) < xs.length := by omega
          go_wp2_with fail
          go_quiet (first | (go_at_call 70; exact quiet_left (l1In_any _ _ _ _)) | (go_at_call 83; exact quiet_left (l1Has_any _ _ _ _ _ _ HKL.out HT.out (by omega))))
          go_wp2_with fail
          go_roundw
          case rel => exact ⟨k + 1, p + (at2 xs m).2, by omega, by go_num, rfl, runF_succ HR.out S0.out S3.out, below_drewN HB.out _⟩
          case measure => simp [intOf]; omega
      · obtain rfl : k = ord.length := by omega
        go_wp2_with fail
        go_ret2
        exact ⟨by simp [startB, HV.out, HR.out, outV], hbl⟩

end Go.Proofs.YtjecbapmdgnglaaDoor
