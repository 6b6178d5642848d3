/-
  Chapters 37 and 38, the parts without lists: meters and synchronism.
-/
import Derived.Test.YtfnilchegccmeaaLeaf
import Derived.Test.YtfnilchegccmeaaOpen
import Derived.Deep.RegionHeld3
namespace Go.Proofs.Ytfnilchegccmeaa
open Go.RowKit
set_option linter.unusedVariables false

/-- The reading behind a use. -/
def mAdd (a b : Int) : Int := if inB a 0 9999 && inB b 0 9999 then (a + b) % 10000 else -1
/-- The use between two readings. -/
def mUse (a b : Int) : Int := if inB a 0 9999 && inB b 0 9999 then (b - a + 10000) % 10000 else -1

theorem specMeterAdd_any (a b : Int) (w : World) :
    Calls Try.prog 15 #[.int .i64 a, .int .i64 b] w fun e w' => e = .returned (.int .i64 (mAdd a b)) ∧ w = w' := by
  by_cases h1 : inB a 0 9999 = true
  · by_cases h2 : inB b 0 9999 = true
    · have h1' := inB_true h1
      have h2' := inB_true h2
      go_enter Try.func15, Try.ntmps15
      go_wp2_with ((go_at_call 54; refine (l1In_any _ _ _ _).mono ?_; rintro e w' ⟨rfl, rfl⟩))
      go_ret
      exact ⟨ret_int (by simp [mAdd, h1, h2]), rfl⟩
    · have h2' : inB b 0 9999 = false := by simpa using h2
      clear h2
      go_enter Try.func15, Try.ntmps15
      go_wp2_with ((go_at_call 54; refine (l1In_any _ _ _ _).mono ?_; rintro e w' ⟨rfl, rfl⟩))
      go_ret
      exact ⟨ret_int (by simp [mAdd, h2']), rfl⟩
  · have h1' : inB a 0 9999 = false := by simpa using h1
    clear h1
    go_enter Try.func15, Try.ntmps15
    go_wp2_with ((go_at_call 54; refine (l1In_any _ _ _ _).mono ?_; rintro e w' ⟨rfl, rfl⟩))
    go_ret
    exact ⟨ret_int (by simp [mAdd, h1']), rfl⟩

theorem implMeterAdd_any (a b : Int) (w : World) :
    Calls Try.prog 16 #[.int .i64 a, .int .i64 b] w fun e w' => e = .returned (.int .i64 (mAdd a b)) ∧ w = w' := by
  by_cases h1 : inB a 0 9999 = true
  · by_cases h2 : inB b 0 9999 = true
    · have h1' := inB_true h1
      have h2' := inB_true h2
      go_enter Try.func16, Try.ntmps16
      go_wp2_with ((go_at_call 55; refine (readingValid_any _ _).mono ?_; rintro e w' ⟨rfl, rfl⟩))
      go_ret
      exact ⟨ret_int (by simp [mAdd, h1, h2]), rfl⟩
    · have h2' : inB b 0 9999 = false := by simpa using h2
      clear h2
      go_enter Try.func16, Try.ntmps16
      go_wp2_with ((go_at_call 55; refine (readingValid_any _ _).mono ?_; rintro e w' ⟨rfl, rfl⟩))
      go_ret
      exact ⟨ret_int (by simp [mAdd, h2']), rfl⟩
  · have h1' : inB a 0 9999 = false := by simpa using h1
    clear h1
    go_enter Try.func16, Try.ntmps16
    go_wp2_with ((go_at_call 55; refine (readingValid_any _ _).mono ?_; rintro e w' ⟨rfl, rfl⟩))
    go_ret
    exact ⟨ret_int (by simp [mAdd, h1']), rfl⟩

theorem specMeterUse_any (a b : Int) (w : World) :
    Calls Try.prog 17 #[.int .i64 a, .int .i64 b] w fun e w' => e = .returned (.int .i64 (mUse a b)) ∧ w = w' := by
  by_cases h1 : inB a 0 9999 = true
  · by_cases h2 : inB b 0 9999 = true
    · have h1' := inB_true h1
      have h2' := inB_true h2
      go_enter Try.func17, Try.ntmps17
      go_wp2_with ((go_at_call 54; refine (l1In_any _ _ _ _).mono ?_; rintro e w' ⟨rfl, rfl⟩))
      go_ret
      exact ⟨ret_int (by simp [mUse, h1, h2]), rfl⟩
    · have h2' : inB b 0 9999 = false := by simpa using h2
      clear h2
      go_enter Try.func17, Try.ntmps17
      go_wp2_with ((go_at_call 54; refine (l1In_any _ _ _ _).mono ?_; rintro e w' ⟨rfl, rfl⟩))
      go_ret
      exact ⟨ret_int (by simp [mUse, h2']), rfl⟩
  · have h1' : inB a 0 9999 = false := by simpa using h1
    clear h1
    go_enter Try.func17, Try.ntmps17
    go_wp2_with ((go_at_call 54; refine (l1In_any _ _ _ _).mono ?_; rintro e w' ⟨rfl, rfl⟩))
    go_ret
    exact ⟨ret_int (by simp [mUse, h1']), rfl⟩

theorem implMeterUse_any (a b : Int) (w : World) :
    Calls Try.prog 18 #[.int .i64 a, .int .i64 b] w fun e w' => e = .returned (.int .i64 (mUse a b)) ∧ w = w' := by
  by_cases h1 : inB a 0 9999 = true
  · by_cases h2 : inB b 0 9999 = true
    · have h1' := inB_true h1
      have h2' := inB_true h2
      go_enter Try.func18, Try.ntmps18
      go_wp2_with ((go_at_call 55; refine (readingValid_any _ _).mono ?_; rintro e w' ⟨rfl, rfl⟩))
      go_ret
      exact ⟨ret_int (by simp [mUse, h1, h2]), rfl⟩
    · have h2' : inB b 0 9999 = false := by simpa using h2
      clear h2
      go_enter Try.func18, Try.ntmps18
      go_wp2_with ((go_at_call 55; refine (readingValid_any _ _).mono ?_; rintro e w' ⟨rfl, rfl⟩))
      go_ret
      exact ⟨ret_int (by simp [mUse, h2']), rfl⟩
  · have h1' : inB a 0 9999 = false := by simpa using h1
    clear h1
    go_enter Try.func18, Try.ntmps18
    go_wp2_with ((go_at_call 55; refine (readingValid_any _ _).mono ?_; rintro e w' ⟨rfl, rfl⟩))
    go_ret
    exact ⟨ret_int (by simp [mUse, h1']), rfl⟩

theorem fnExactMeterAdd_walk (a0 : Int) (a1 : Int) (w : World) (i0 : I64 a0) (i1 : I64 a1) :
    Calls Try.prog 3 #[.int .i64 a0, .int .i64 a1] w fun e w' => e = .returned (.bool true) ∧ Below w.heap.size w w' := by
  go_enter Try.func3, Try.ntmps3
  go_wp2_with (first | (go_at_call 15; refine (specMeterAdd_any _ _ _).mono ?_; rintro e w' ⟨rfl, rfl⟩) | (go_at_call 16; refine (implMeterAdd_any _ _ _).mono ?_; rintro e w' ⟨rfl, rfl⟩))
  go_ret
  exact ⟨rfl, Below.refl _ _⟩

theorem fnExactMeterUse_walk (a0 : Int) (a1 : Int) (w : World) (i0 : I64 a0) (i1 : I64 a1) :
    Calls Try.prog 4 #[.int .i64 a0, .int .i64 a1] w fun e w' => e = .returned (.bool true) ∧ Below w.heap.size w w' := by
  go_enter Try.func4, Try.ntmps4
  go_wp2_with (first | (go_at_call 17; refine (specMeterUse_any _ _ _).mono ?_; rintro e w' ⟨rfl, rfl⟩) | (go_at_call 18; refine (implMeterUse_any _ _ _).mono ?_; rintro e w' ⟨rfl, rfl⟩))
  go_ret
  exact ⟨rfl, Below.refl _ _⟩

/-! ### synchronism -/
/-- A speed in 0..999, a mass in 1..99. -/
def turnB (a b : Int) : Bool := inB a 0 999 && inB b 1 99

theorem toTurning_any (a b : Int) (w : World) :
    Calls Try.prog 20 #[.agg #[.int .i64 a, .int .i64 b]] w fun e w' => e = .returned (.agg #[.int .i64 a, .int .i64 b]) ∧ Below w.heap.size w w' := by
  go_enter Try.func20, Try.ntmps20
  go_wp2
  refine bodyPost_ret (v := .agg #[.int .i64 a, .int .i64 b]) (by simp [results, Try.results20, go_sem]) rfl ⟨rfl, ?_⟩
  repeat (first | exact Below.refl _ _ | (refine Below.alloc ?_ (by simp <;> omega) _))

theorem specTurningValid_any (a b : Int) (w : World) :
    Calls Try.prog 19 #[.agg #[.int .i64 a, .int .i64 b]] w fun e w' => e = .returned (.bool (turnB a b)) ∧ Below w.heap.size w w' := by
  cases h1 : inB a 0 999 <;> cases h2 : inB b 1 99
  all_goals
    go_enter Try.func19, Try.ntmps19
    go_wp2_with ((go_at_call 54; refine (l1In_any _ _ _ _).mono ?_; rintro e w' ⟨rfl, rfl⟩))
    go_ret
    refine ⟨ret_bool (by simp [turnB, h1, h2]), ?_⟩
    repeat (first | exact Below.refl _ _ | (refine Below.alloc ?_ (by simp <;> omega) _))

theorem implTurningValid_any (a b : Int) (w : World) :
    Calls Try.prog 21 #[.agg #[.int .i64 a, .int .i64 b]] w fun e w' => e = .returned (.bool (turnB a b)) ∧ Below w.heap.size w w' := by
  cases h1 : inB a 0 999
  · go_enter Try.func21, Try.ntmps21
    go_wp2_with ((go_at_call 56; refine (powerValid_any _ _).mono ?_; rintro e w' ⟨rfl, rfl⟩))
    go_ret
    refine ⟨ret_bool (by simp [turnB, h1]), ?_⟩
    repeat (first | exact Below.refl _ _ | (refine Below.alloc ?_ (by simp <;> omega) _))
  · by_cases h2 : 1 ≤ b
    · by_cases h3 : b ≤ 99
      all_goals
        go_enter Try.func21, Try.ntmps21
        go_wp2_with ((go_at_call 56; refine (powerValid_any _ _).mono ?_; rintro e w' ⟨rfl, rfl⟩))
        go_ret
        refine ⟨ret_bool (by unfold turnB; rw [h1]; simp [inB]; omega), ?_⟩
        repeat (first | exact Below.refl _ _ | (refine Below.alloc ?_ (by simp <;> omega) _))
    · go_enter Try.func21, Try.ntmps21
      go_wp2_with ((go_at_call 56; refine (powerValid_any _ _).mono ?_; rintro e w' ⟨rfl, rfl⟩))
      go_ret
      refine ⟨ret_bool (by unfold turnB; rw [h1]; simp [inB]; omega), ?_⟩
      repeat (first | exact Below.refl _ _ | (refine Below.alloc ?_ (by simp <;> omega) _))

theorem fnExactTurningValid_walk (a0 b0 : Int) (w : World) (i0 : I64 a0) (j0 : I64 b0) :
    Calls Try.prog 5 #[.agg #[.int .i64 a0, .int .i64 b0]] w fun e w' => e = .returned (.bool true) ∧ Below w.heap.size w w' := by
  have B0 := Blk.new w 25 #[.int .i64 a0, .int .i64 b0]
  go_enter Try.func5, Try.ntmps5
  go_wp2_with fail
  refine (toTurning_any _ _ _).mono ?_
  rintro e w1 ⟨rfl, hb1⟩
  go_wp2_with fail
  refine (specTurningValid_any _ _ _).mono ?_
  rintro e w2 ⟨rfl, hb2⟩
  have B2 := (B0.to hb1).to hb2
  obtain ⟨c0, c1⟩ := B2.two
  go_wp2_with fail
  refine (toTurning_any _ _ _).mono ?_
  rintro e w3 ⟨rfl, hb3⟩
  go_wp2_with fail
  refine (implTurningValid_any _ _ _).mono ?_
  rintro e w4 ⟨rfl, hb4⟩
  go_wp2_with fail
  go_ret
  have z1 := hb1.size
  have z2 := hb2.size
  have z3 := hb3.size
  simp at z1
  exact ⟨rfl, ((((((Below.refl _ w).alloc (Nat.le_refl _) _).trans (hb1.mono (by simp))).trans (hb2.mono (by omega))).trans (hb3.mono (by omega))).trans (hb4.mono (by omega)))⟩

/-- The greater one of the two differences. -/
def dist (a b : Int) : Int := if a ≤ b then b - a else a - b

theorem distance_any (a b : Int) (w : World) (ha : 0 ≤ a ∧ a ≤ 999) (hb : 0 ≤ b ∧ b ≤ 999) :
    Calls Try.prog 57 #[.int .i64 a, .int .i64 b] w fun e w' => e = .returned (.int .i64 (dist a b)) ∧ w = w' := by
  obtain ⟨ha0, ha1⟩ := ha
  obtain ⟨hb0, hb1⟩ := hb
  go_enter Try.func57, Try.ntmps57
  go_wp2
  all_goals
    go_ret
    exact ⟨ret_int (by unfold dist; split <;> omega), rfl⟩

/-- Whether two islands may be joined. -/
def syncB (a b c d band : Int) : Bool := turnB a b && turnB c d && decide (b + d ≤ 99) && decide (dist a c ≤ band)

theorem implSyncMay_any (a b c d band : Int) (w : World) :
    Calls Try.prog 23 #[.agg #[.int .i64 a, .int .i64 b], .agg #[.int .i64 c, .int .i64 d], .int .i64 band] w fun e w' => e = .returned (.bool (syncB a b c d band)) ∧ Below w.heap.size w w' := by
  have B0 := (Blk.new w 27 #[.int .i64 a, .int .i64 b]).alloc (.cells #[.int .i64 c, .int .i64 d] 27)
  have B1 := Blk.new (w.alloc (.cells #[.int .i64 a, .int .i64 b] 27)) 27 #[.int .i64 c, .int .i64 d]
  cases h1 : turnB a b
  · go_enter Try.func23, Try.ntmps23
    go_wp2_with fail
    refine (implTurningValid_any _ _ _).mono ?_
    rintro e w1 ⟨rfl, hb1⟩
    go_wp2_with fail
    go_ret
    exact ⟨ret_bool (by simp [syncB, h1]), ((((Below.refl _ w).alloc (Nat.le_refl _) _).alloc (by simp) _).trans (hb1.mono (by simp; omega)))⟩
  · cases h2 : turnB c d
    · go_enter Try.func23, Try.ntmps23
      go_wp2_with fail
      refine (implTurningValid_any _ _ _).mono ?_
      rintro e w1 ⟨rfl, hb1⟩
      obtain ⟨c2, c3⟩ := (B1.to hb1).two
      simp at c2 c3
      go_wp2_with fail
      refine (implTurningValid_any _ _ _).mono ?_
      rintro e w2 ⟨rfl, hb2⟩
      go_wp2_with fail
      go_ret
      have z1 := hb1.size
      simp at z1
      exact ⟨ret_bool (by simp [syncB, h2]), ((((Below.refl _ w).alloc (Nat.le_refl _) _).alloc (by simp) _).trans (hb1.mono (by simp; omega))).trans (hb2.mono (by omega))⟩
    · have t1 : inB a 0 999 = true ∧ inB b 1 99 = true := by simpa [turnB] using h1
      have t2 : inB c 0 999 = true ∧ inB d 1 99 = true := by simpa [turnB] using h2
      have u1 := inB_true t1.1
      have u2 := inB_true t1.2
      have u3 := inB_true t2.1
      have u4 := inB_true t2.2
      clear t1 t2
      by_cases h3 : dist a c ≤ band
      · by_cases h4 : b + d ≤ 99
        all_goals
          go_enter Try.func23, Try.ntmps23
          go_wp2_with fail
          refine (implTurningValid_any _ _ _).mono ?_
          rintro e w1 ⟨rfl, hb1⟩
          obtain ⟨c2, c3⟩ := (B1.to hb1).two
          simp at c2 c3
          go_wp2_with fail
          refine (implTurningValid_any _ _ _).mono ?_
          rintro e w2 ⟨rfl, hb2⟩
          obtain ⟨c0, c1⟩ := ((B0.to hb1).to hb2).two
          obtain ⟨c4, c5⟩ := ((B1.to hb1).to hb2).two
          simp at c4 c5
          go_wp2_with fail
          refine (distance_any _ _ _ u1 u3).mono ?_
          rintro e w3 ⟨rfl, rfl⟩
          go_wp2_with fail
          go_ret
          have z1 := hb1.size
          simp at z1
          exact ⟨ret_bool (by simp [syncB, h1, h2, h3] <;> omega), ((((Below.refl _ w).alloc (Nat.le_refl _) _).alloc (by simp) _).trans (hb1.mono (by simp; omega))).trans (hb2.mono (by omega))⟩
      · go_enter Try.func23, Try.ntmps23
        go_wp2_with fail
        refine (implTurningValid_any _ _ _).mono ?_
        rintro e w1 ⟨rfl, hb1⟩
        obtain ⟨c2, c3⟩ := (B1.to hb1).two
        simp at c2 c3
        go_wp2_with fail
        refine (implTurningValid_any _ _ _).mono ?_
        rintro e w2 ⟨rfl, hb2⟩
        obtain ⟨c0, c1⟩ := ((B0.to hb1).to hb2).two
        obtain ⟨c4, c5⟩ := ((B1.to hb1).to hb2).two
        simp at c4 c5
        go_wp2_with fail
        refine (distance_any _ _ _ u1 u3).mono ?_
        rintro e w3 ⟨rfl, rfl⟩
        go_wp2_with fail
        go_ret
        have z1 := hb1.size
        simp at z1
        exact ⟨ret_bool (by simp [syncB, h3]), ((((Below.refl _ w).alloc (Nat.le_refl _) _).alloc (by simp) _).trans (hb1.mono (by simp; omega))).trans (hb2.mono (by omega))⟩

theorem dist_le (a c band : Int) : dist a c ≤ band ↔ a - c ≤ band ∧ c - a ≤ band := by
  unfold dist
  split <;> omega

theorem syncB_iff {a b c d band : Int} (h1 : turnB a b = true) (h2 : turnB c d = true) : syncB a b c d band = decide (b + d ≤ 99 ∧ a - c ≤ band ∧ c - a ≤ band) := by
  simp [syncB, h1, h2, dist_le]

theorem specSyncMay_any (a b c d band : Int) (w : World) :
    Calls Try.prog 22 #[.agg #[.int .i64 a, .int .i64 b], .agg #[.int .i64 c, .int .i64 d], .int .i64 band] w fun e w' => e = .returned (.bool (syncB a b c d band)) ∧ Below w.heap.size w w' := by
  have B0 := (Blk.new w 27 #[.int .i64 a, .int .i64 b]).alloc (.cells #[.int .i64 c, .int .i64 d] 27)
  have B1 := Blk.new (w.alloc (.cells #[.int .i64 a, .int .i64 b] 27)) 27 #[.int .i64 c, .int .i64 d]
  cases h1 : turnB a b
  · go_enter Try.func22, Try.ntmps22
    go_wp2_with fail
    refine (specTurningValid_any _ _ _).mono ?_
    rintro e w1 ⟨rfl, hb1⟩
    go_wp2_with fail
    go_ret
    exact ⟨ret_bool (by simp [syncB, h1]), ((((Below.refl _ w).alloc (Nat.le_refl _) _).alloc (by simp) _).trans (hb1.mono (by simp; omega)))⟩
  · cases h2 : turnB c d
    · go_enter Try.func22, Try.ntmps22
      go_wp2_with fail
      refine (specTurningValid_any _ _ _).mono ?_
      rintro e w1 ⟨rfl, hb1⟩
      obtain ⟨c2, c3⟩ := (B1.to hb1).two
      simp at c2 c3
      go_wp2_with fail
      refine (specTurningValid_any _ _ _).mono ?_
      rintro e w2 ⟨rfl, hb2⟩
      go_wp2_with fail
      go_ret
      have z1 := hb1.size
      simp at z1
      exact ⟨ret_bool (by simp [syncB, h2]), ((((Below.refl _ w).alloc (Nat.le_refl _) _).alloc (by simp) _).trans (hb1.mono (by simp; omega))).trans (hb2.mono (by omega))⟩
    · have t1 : inB a 0 999 = true ∧ inB b 1 99 = true := by simpa [turnB] using h1
      have t2 : inB c 0 999 = true ∧ inB d 1 99 = true := by simpa [turnB] using h2
      obtain ⟨u1, u1'⟩ := inB_true t1.1
      obtain ⟨u2, u2'⟩ := inB_true t1.2
      obtain ⟨u3, u3'⟩ := inB_true t2.1
      obtain ⟨u4, u4'⟩ := inB_true t2.2
      clear t1 t2
      have hcase : b + d ≤ 99 ∧ a - c ≤ band ∧ c - a ≤ band ∨ b + d ≤ 99 ∧ a - c ≤ band ∧ ¬ c - a ≤ band ∨ b + d ≤ 99 ∧ ¬ a - c ≤ band ∨ ¬ b + d ≤ 99 := by omega
      rcases hcase with ⟨h3, h4, h5⟩ | ⟨h3, h4, h5⟩ | ⟨h3, h4⟩ | h3
      all_goals
        go_enter Try.func22, Try.ntmps22
        go_wp2_with fail
        refine (specTurningValid_any _ _ _).mono ?_
        rintro e w1 ⟨rfl, hb1⟩
        obtain ⟨c2, c3⟩ := (B1.to hb1).two
        simp at c2 c3
        go_wp2_with fail
        refine (specTurningValid_any _ _ _).mono ?_
        rintro e w2 ⟨rfl, hb2⟩
        obtain ⟨c0, c1⟩ := ((B0.to hb1).to hb2).two
        obtain ⟨c4, c5⟩ := ((B1.to hb1).to hb2).two
        simp at c4 c5
        go_wp2_with fail
        go_ret
        have z1 := hb1.size
        simp at z1
        exact ⟨ret_bool (by rw [syncB_iff h1 h2]; symm; first | (rw [decide_eq_decide]; omega) | (apply decide_eq_true; omega) | (apply decide_eq_false; omega)), ((((Below.refl _ w).alloc (Nat.le_refl _) _).alloc (by simp) _).trans (hb1.mono (by simp; omega))).trans (hb2.mono (by omega))⟩

theorem fnExactSyncMay_walk (a0 b0 : Int) (a1 b1 : Int) (a2 : Int) (w : World) (i0 : I64 a0) (j0 : I64 b0) (i1 : I64 a1) (j1 : I64 b1) (i2 : I64 a2) :
    Calls Try.prog 6 #[.agg #[.int .i64 a0, .int .i64 b0], .agg #[.int .i64 a1, .int .i64 b1], .int .i64 a2] w fun e w' => e = .returned (.bool true) ∧ Below w.heap.size w w' := by
  have B0 := (Blk.new w 25 #[.int .i64 a0, .int .i64 b0]).alloc (.cells #[.int .i64 a1, .int .i64 b1] 25)
  have B1 := Blk.new (w.alloc (.cells #[.int .i64 a0, .int .i64 b0] 25)) 25 #[.int .i64 a1, .int .i64 b1]
  obtain ⟨c0, c1⟩ := B0.two
  obtain ⟨c2, c3⟩ := B1.two
  simp at c2 c3
  go_enter Try.func6, Try.ntmps6
  go_wp2_with fail
  go_region_held3 (fun w' => w'.cell? ⟨w.heap.size, 0, none⟩ = some (.int .i64 a0) ∧ w'.cell? ⟨w.heap.size, 1, none⟩ = some (.int .i64 b0) ∧ w'.cell? ⟨w.heap.size + 1, 0, none⟩ = some (.int .i64 a1) ∧ w'.cell? ⟨w.heap.size + 1, 1, none⟩ = some (.int .i64 b1))
    (first | go_keep | (refine ⟨cellk hb1 ?_, cellk hb1 ?_, cellk hb1 ?_, cellk hb1 ?_⟩ <;> go_keep))
    (first | (go_at_call 20; refine (toTurning_any _ _ _).mono ?_; rintro e w1 ⟨rfl, hb1⟩) | (go_at_call 22; refine (specSyncMay_any _ _ _ _ _ _).mono ?_; rintro e w1 ⟨rfl, hb1⟩))
  rename_i wa ha wb hb hs
  obtain ⟨d0, d1, d2, d3⟩ := hs
  have z1 := ha.size
  have z2 := hb.size
  have z3 := hb1.size
  simp at z1
  have HB := hide ((((((Below.refl _ w).alloc (Nat.le_refl _) _).alloc (by simp) _).drew.trans (ha.mono (by simp; omega))).trans (hb.mono (by omega))).trans (hb1.mono (by omega)))
  clear ha hb hb1
  go_wp2_with fail
  go_region_held3 (fun w' => w'.cell? ⟨w.heap.size, 0, none⟩ = some (.int .i64 a0) ∧ w'.cell? ⟨w.heap.size, 1, none⟩ = some (.int .i64 b0) ∧ w'.cell? ⟨w.heap.size + 1, 0, none⟩ = some (.int .i64 a1) ∧ w'.cell? ⟨w.heap.size + 1, 1, none⟩ = some (.int .i64 b1))
    (first | go_keep | (refine ⟨cellk hb2 ?_, cellk hb2 ?_, cellk hb2 ?_, cellk hb2 ?_⟩ <;> go_keep))
    (first | (go_at_call 20; refine (toTurning_any _ _ _).mono ?_; rintro e w2 ⟨rfl, hb2⟩) | (go_at_call 23; refine (implSyncMay_any _ _ _ _ _ _).mono ?_; rintro e w2 ⟨rfl, hb2⟩))
  rename_i wc hc wd hd hs
  go_wp2_with fail
  go_ret
  have y1 := hc.size
  have y2 := hd.size
  simp at y1
  exact ⟨rfl, ((HB.out.drew.trans (hc.mono (by simp; omega))).trans (hd.mono (by omega))).trans (hb2.mono (by omega))⟩

end Go.Proofs.Ytfnilchegccmeaa
