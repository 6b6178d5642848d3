/-
  Chapters 37 and 38, the parts without lists: meters and synchronism.
-/
import Derived.Test.YtfbdfiepnepgpaaDoorLeaf
import Derived.Test.YtfbdfiepnepgpaaDoorOpen
import Derived.Deep.RegionHeld3
namespace Go.Proofs.YtfbdfiepnepgpaaDoor
open Go.RowKit
set_option linter.unusedVariables false

/-- The reading behind a use. -/
def mAdd (a b : Int) : Int := if inB a 0 9999 && inB b 0 9999 then (a + b) % 10000 else -1
/-- The use between two readings. -/
def mUse (a b : Int) : Int := if inB a 0 9999 && inB b 0 9999 then (b - a + 10000) % 10000 else -1

theorem specMeterAdd_any (a b : Int) (w : World) :
    Calls Tryd.prog 17 #[.int .i64 a, .int .i64 b] w fun e w' => e = .returned (.int .i64 (mAdd a b)) ∧ w = w' := by
  by_cases h1 : inB a 0 9999 = true
  · by_cases h2 : inB b 0 9999 = true
    · have h1' := inB_true h1
      have h2' := inB_true h2
      go_enter Tryd.func17, Tryd.ntmps17
      go_wp2_with ((go_at_call 57; refine (l1In_any _ _ _ _).mono ?_; rintro e w' ⟨rfl, rfl⟩))
      go_ret
      exact ⟨ret_int (by simp [mAdd, h1, h2]), rfl⟩
    · have h2' : inB b 0 9999 = false := by simpa using h2
      clear h2
      go_enter Tryd.func17, Tryd.ntmps17
      go_wp2_with ((go_at_call 57; refine (l1In_any _ _ _ _).mono ?_; rintro e w' ⟨rfl, rfl⟩))
      go_ret
      exact ⟨ret_int (by simp [mAdd, h2']), rfl⟩
  · have h1' : inB a 0 9999 = false := by simpa using h1
    clear h1
    go_enter Tryd.func17, Tryd.ntmps17
    go_wp2_with ((go_at_call 57; refine (l1In_any _ _ _ _).mono ?_; rintro e w' ⟨rfl, rfl⟩))
    go_ret
    exact ⟨ret_int (by simp [mAdd, h1']), rfl⟩

theorem implMeterAdd_any (a b : Int) (w : World) :
    Calls Tryd.prog 16 #[.int .i64 a, .int .i64 b] w fun e w' => e = .returned (.int .i64 (mAdd a b)) ∧ w = w' := by
  by_cases h1 : inB a 0 9999 = true
  · by_cases h2 : inB b 0 9999 = true
    · have h1' := inB_true h1
      have h2' := inB_true h2
      go_enter Tryd.func16, Tryd.ntmps16
      go_wp2_with ((go_at_call 56; refine (readingValid_any _ _).mono ?_; rintro e w' ⟨rfl, rfl⟩))
      go_ret
      exact ⟨ret_int (by simp [mAdd, h1, h2]), rfl⟩
    · have h2' : inB b 0 9999 = false := by simpa using h2
      clear h2
      go_enter Tryd.func16, Tryd.ntmps16
      go_wp2_with ((go_at_call 56; refine (readingValid_any _ _).mono ?_; rintro e w' ⟨rfl, rfl⟩))
      go_ret
      exact ⟨ret_int (by simp [mAdd, h2']), rfl⟩
  · have h1' : inB a 0 9999 = false := by simpa using h1
    clear h1
    go_enter Tryd.func16, Tryd.ntmps16
    go_wp2_with ((go_at_call 56; refine (readingValid_any _ _).mono ?_; rintro e w' ⟨rfl, rfl⟩))
    go_ret
    exact ⟨ret_int (by simp [mAdd, h1']), rfl⟩

theorem specMeterUse_any (a b : Int) (w : World) :
    Calls Tryd.prog 21 #[.int .i64 a, .int .i64 b] w fun e w' => e = .returned (.int .i64 (mUse a b)) ∧ w = w' := by
  by_cases h1 : inB a 0 9999 = true
  · by_cases h2 : inB b 0 9999 = true
    · have h1' := inB_true h1
      have h2' := inB_true h2
      go_enter Tryd.func21, Tryd.ntmps21
      go_wp2_with ((go_at_call 57; refine (l1In_any _ _ _ _).mono ?_; rintro e w' ⟨rfl, rfl⟩))
      go_ret
      exact ⟨ret_int (by simp [mUse, h1, h2]), rfl⟩
    · have h2' : inB b 0 9999 = false := by simpa using h2
      clear h2
      go_enter Tryd.func21, Tryd.ntmps21
      go_wp2_with ((go_at_call 57; refine (l1In_any _ _ _ _).mono ?_; rintro e w' ⟨rfl, rfl⟩))
      go_ret
      exact ⟨ret_int (by simp [mUse, h2']), rfl⟩
  · have h1' : inB a 0 9999 = false := by simpa using h1
    clear h1
    go_enter Tryd.func21, Tryd.ntmps21
    go_wp2_with ((go_at_call 57; refine (l1In_any _ _ _ _).mono ?_; rintro e w' ⟨rfl, rfl⟩))
    go_ret
    exact ⟨ret_int (by simp [mUse, h1']), rfl⟩

theorem implMeterUse_any (a b : Int) (w : World) :
    Calls Tryd.prog 19 #[.int .i64 a, .int .i64 b] w fun e w' => e = .returned (.int .i64 (mUse a b)) ∧ w = w' := by
  by_cases h1 : inB a 0 9999 = true
  · by_cases h2 : inB b 0 9999 = true
    · have h1' := inB_true h1
      have h2' := inB_true h2
      go_enter Tryd.func19, Tryd.ntmps19
      go_wp2_with ((go_at_call 56; refine (readingValid_any _ _).mono ?_; rintro e w' ⟨rfl, rfl⟩))
      go_ret
      exact ⟨ret_int (by simp [mUse, h1, h2]), rfl⟩
    · have h2' : inB b 0 9999 = false := by simpa using h2
      clear h2
      go_enter Tryd.func19, Tryd.ntmps19
      go_wp2_with ((go_at_call 56; refine (readingValid_any _ _).mono ?_; rintro e w' ⟨rfl, rfl⟩))
      go_ret
      exact ⟨ret_int (by simp [mUse, h2']), rfl⟩
  · have h1' : inB a 0 9999 = false := by simpa using h1
    clear h1
    go_enter Tryd.func19, Tryd.ntmps19
    go_wp2_with ((go_at_call 56; refine (readingValid_any _ _).mono ?_; rintro e w' ⟨rfl, rfl⟩))
    go_ret
    exact ⟨ret_int (by simp [mUse, h1']), rfl⟩

/-! ### synchronism -/
/-- A speed in 0..999, a mass in 1..99. -/
def turnB (a b : Int) : Bool := inB a 0 999 && inB b 1 99

/-- The greater one of the two differences. -/
def dist (a b : Int) : Int := if a ≤ b then b - a else a - b

/-- Whether two islands may be joined. -/
def syncB (a b c d band : Int) : Bool := turnB a b && turnB c d && decide (b + d ≤ 99) && decide (dist a c ≤ band)

theorem dist_le (a c band : Int) : dist a c ≤ band ↔ a - c ≤ band ∧ c - a ≤ band := by
  unfold dist
  split <;> omega

theorem syncB_iff {a b c d band : Int} (h1 : turnB a b = true) (h2 : turnB c d = true) : syncB a b c d band = decide (b + d ≤ 99 ∧ a - c ≤ band ∧ c - a ≤ band) := by
  simp [syncB, h1, h2, dist_le]

end Go.Proofs.YtfbdfiepnepgpaaDoor
