/-
  Chapter 32 (rooms): what the program's functions and the reference's compute, and the walks of the laws on them.
-/
import Derived.Test.YtgkgdbmmhcdohaaDoorPairs
namespace Go.Proofs.YtgkgdbmmhcdohaaDoor
open Go.RowKit
set_option linter.unusedVariables false

/-- The epoch of a station fits those of the rooms. -/
def epOk (a b e : Int) : Bool := decide (0 ≤ e) && (if e % 2 = 0 then decide (e ≤ a) else decide (e ≤ b))
def headB (a b : Int) : Bool := inB a 0 99 && inB b 0 99 && decide (a % 2 = 0) && decide (b % 2 = 1)
def roomsB (a b : Int) (xs : List Int) : Bool := headB a b && decide (1 ≤ xs.length) && decide (xs.length ≤ 5) && xs.all (epOk a b)

theorem roomsB_head {a b : Int} {xs : List Int} (h : headB a b = false) : roomsB a b xs = false := by simp [roomsB, h]
theorem roomsB_len {a b : Int} {xs : List Int} (h : ¬ (1 ≤ xs.length ∧ xs.length ≤ 5)) : roomsB a b xs = false := by
  unfold roomsB
  by_cases h1 : 1 ≤ xs.length
  · have h2 : ¬ xs.length ≤ 5 := fun h2 => h ⟨h1, h2⟩
    simp [h2]
  · simp [h1]
theorem roomsB_no {a b : Int} {xs : List Int} (k : Nat) (hk : k < xs.length) (h : epOk a b (at_ xs k) = false) : roomsB a b xs = false := by
  unfold roomsB
  rw [all_no _ _ k hk (by rw [← at_eq xs k hk]; exact h)]
  simp
theorem roomsB_yes {a b : Int} {xs : List Int} (h : headB a b = true) (h1 : 1 ≤ xs.length) (h2 : xs.length ≤ 5) (h3 : ∀ j, j < xs.length → epOk a b (at_ xs j) = true) : roomsB a b xs = true := by
  unfold roomsB
  rw [h]
  simp only [h1, h2, decide_true, Bool.and_self, Bool.true_and, List.all_eq_true]
  intro x hx
  obtain ⟨j, hj, rfl⟩ := List.getElem_of_mem hx
  rw [← at_eq xs j hj]
  exact h3 j hj
/-- The ways through the test of the two rooms' own epochs. -/
theorem head_cases (a b : Int) : (inB a 0 99 = false ∧ headB a b = false) ∨ (inB a 0 99 = true ∧ inB b 0 99 = false ∧ headB a b = false) ∨
    (inB a 0 99 = true ∧ inB b 0 99 = true ∧ (a % 2 != 0) = true ∧ headB a b = false) ∨ (inB a 0 99 = true ∧ inB b 0 99 = true ∧ (a % 2 != 0) = false ∧ (b % 2 != 1) = true ∧ headB a b = false) ∨
    (inB a 0 99 = true ∧ inB b 0 99 = true ∧ (a % 2 != 0) = false ∧ (b % 2 != 1) = false ∧ headB a b = true) := by
  cases h1 : inB a 0 99
  · exact .inl ⟨rfl, by simp [headB, h1]⟩
  · cases h2 : inB b 0 99
    · exact .inr (.inl ⟨rfl, rfl, by simp [headB, h2]⟩)
    · by_cases h3 : a % 2 = 0
      · by_cases h4 : b % 2 = 1
        · exact .inr (.inr (.inr (.inr ⟨rfl, rfl, by simp [h3], by simp [h4], by simp [headB, h1, h2, h3, h4]⟩)))
        · exact .inr (.inr (.inr (.inl ⟨rfl, rfl, by simp [h3], by simp [h4], by simp [headB, h4]⟩)))
      · exact .inr (.inr (.inl ⟨rfl, rfl, by simp [h3], by simp [headB, h3]⟩))
/-- The ways through the test of a station's epoch. -/
theorem ep_cases (a b e : Int) : (e < 0 ∧ epOk a b e = false) ∨ (0 ≤ e ∧ (e % 2 == 0) = true ∧ (e % 2 == 1) = false ∧ e % 2 = 0 ∧ a < e ∧ epOk a b e = false) ∨ (0 ≤ e ∧ (e % 2 == 0) = true ∧ (e % 2 == 1) = false ∧ e % 2 = 0 ∧ e ≤ a ∧ epOk a b e = true) ∨
    (0 ≤ e ∧ (e % 2 == 0) = false ∧ (e % 2 == 1) = true ∧ e % 2 = 1 ∧ b < e ∧ epOk a b e = false) ∨ (0 ≤ e ∧ (e % 2 == 0) = false ∧ (e % 2 == 1) = true ∧ e % 2 = 1 ∧ e ≤ b ∧ epOk a b e = true) := by
  by_cases h0 : 0 ≤ e
  · by_cases h1 : e % 2 = 0
    · by_cases h2 : e ≤ a
      · exact .inr (.inr (.inl ⟨h0, by simp [h1], by simp [h1], h1, h2, by simp [epOk, h0, h1, h2]⟩))
      · exact .inr (.inl ⟨h0, by simp [h1], by simp [h1], h1, by omega, by simp [epOk, h1, h2]⟩)
    · have h1' : e % 2 = 1 := by omega
      by_cases h2 : e ≤ b
      · exact .inr (.inr (.inr (.inr ⟨h0, by simp [h1'], by simp [h1'], h1', h2, by simp [epOk, h0, h1', h2]⟩)))
      · exact .inr (.inr (.inr (.inl ⟨h0, by simp [h1'], by simp [h1'], h1', by omega, by simp [epOk, h1', h2]⟩)))
  · exact .inl ⟨by omega, by simp [epOk, h0]⟩

set_option maxHeartbeats 1000000 in
theorem specRoomsValid_any (a b : Int) (A : Option Addr) (c : Nat) (xs : List Int) (w : World) (h : Sl w w.heap.size 1 A xs.length (encI xs)) (hm : xs.length ≤ 1048576) :
    Calls Tryd.prog 10 #[.agg #[.int .i64 a, .int .i64 b, .slice A xs.length c]] w fun e w' => e = .returned (.bool (roomsB a b xs)) ∧ Below w.heap.size w w' := by
  rcases head_cases a b with ⟨h1, hd⟩ | ⟨h1, h2, hd⟩ | ⟨h1, h2, h3, hd⟩ | ⟨h1, h2, h3, h4, hd⟩ | ⟨h1, h2, h3, h4, hd⟩
  case inr.inr.inr.inr =>
    obtain ⟨v1, v1'⟩ := inB_true h1
    obtain ⟨v2, v2'⟩ := inB_true h2
    have HD := hide hd
    clear hd
    have B0 := Blk.new w 25 #[.int .i64 a, .int .i64 b, .slice A xs.length c]
    go_enter Tryd.func10, Tryd.ntmps10
    go_wp2_with ((go_at_call 34; refine (l1In_any _ _ _ _).mono ?_; rintro e w' ⟨rfl, rfl⟩))
    go_loop [3] (fun i => ∃ k : Nat, k ≤ xs.length ∧ i = .int .i64 k ∧ ∀ j, j < k → epOk a b (at_ xs j) = true) (fun i => xs.length - (intOf i).toNat)
    case atStart => exact ⟨0, Nat.zero_le _, rfl, fun j hj => absurd hj (by omega)⟩
    case round =>
      obtain ⟨k, hk, rfl, hall⟩ := hrel
      have H := hide hall
      clear hall
      by_cases hlt : k < xs.length
      · obtain ⟨bb, off, rfl, hb, hc⟩ := h.int k hlt
        have hc' := (World.cell?_alloc_lt w (.cells #[.int .i64 a, .int .i64 b, .slice (some ⟨bb, off, none⟩) xs.length c] 25) ⟨bb, off + k, none⟩ hb).trans hc
        have HS : Hid (epOk a b (at_ xs k) = true → ∀ j, j < k + 1 → epOk a b (at_ xs j) = true) := fun hh j hj => by
          by_cases hjk : j = k
          · subst hjk; exact hh
          · exact H.out j (by omega)
        clear hc B0
        rcases ep_cases a b (at_ xs k) with ⟨e1, e2⟩ | ⟨e1, e2, e3, e4, e5, e6⟩ | ⟨e1, e2, e3, e4, e5, e6⟩ | ⟨e1, e2, e3, e4, e5, e6⟩ | ⟨e1, e2, e3, e4, e5, e6⟩
        · have E := hide e2
          clear e2
          go_wp2
          go_ret
          exact ⟨ret_bool (roomsB_no k hlt E.out).symm, (Below.refl _ _).alloc (Nat.le_refl _) _⟩
        · have E := hide e6
          clear e6 e4
          go_wp2
          go_ret
          exact ⟨ret_bool (roomsB_no k hlt E.out).symm, (Below.refl _ _).alloc (Nat.le_refl _) _⟩
        · have E := hide e6
          clear e6 e4
          go_wp2
          go_round
          case rel => exact ⟨k + 1, by omega, by go_num, HS.out E.out⟩
          case measure => simp [intOf]; omega
        · have E := hide e6
          clear e6 e4
          go_wp2
          go_ret
          exact ⟨ret_bool (roomsB_no k hlt E.out).symm, (Below.refl _ _).alloc (Nat.le_refl _) _⟩
        · have E := hide e6
          clear e6 e4
          go_wp2
          go_round
          case rel => exact ⟨k + 1, by omega, by go_num, HS.out E.out⟩
          case measure => simp [intOf]; omega
      · cases h6 : inB xs.length 1 5
        · have := inB_false h6
          go_wp2_with ((go_at_call 34; refine (l1In_any _ _ _ _).mono ?_; rintro e w' ⟨rfl, rfl⟩))
          go_ret
          exact ⟨ret_bool (roomsB_len (by omega)).symm, (Below.refl _ _).alloc (Nat.le_refl _) _⟩
        · have := inB_true h6
          go_wp2_with ((go_at_call 34; refine (l1In_any _ _ _ _).mono ?_; rintro e w' ⟨rfl, rfl⟩))
          go_ret
          exact ⟨ret_bool (roomsB_yes HD.out (by omega) (by omega) fun j hj => H.out j (by omega)).symm, (Below.refl _ _).alloc (Nat.le_refl _) _⟩
  case inl =>
    have HD := hide (roomsB_head (xs := xs) hd)
    clear hd
    go_enter Tryd.func10, Tryd.ntmps10
    go_wp2_with ((go_at_call 34; refine (l1In_any _ _ _ _).mono ?_; rintro e w' ⟨rfl, rfl⟩))
    go_ret
    exact ⟨ret_bool HD.out.symm, (Below.refl _ _).alloc (Nat.le_refl _) _⟩
  case inr.inl =>
    have HD := hide (roomsB_head (xs := xs) hd)
    clear hd
    obtain ⟨v1, v1'⟩ := inB_true h1
    go_enter Tryd.func10, Tryd.ntmps10
    go_wp2_with ((go_at_call 34; refine (l1In_any _ _ _ _).mono ?_; rintro e w' ⟨rfl, rfl⟩))
    go_ret
    exact ⟨ret_bool HD.out.symm, (Below.refl _ _).alloc (Nat.le_refl _) _⟩
  case inr.inr.inl =>
    have HD := hide (roomsB_head (xs := xs) hd)
    clear hd
    obtain ⟨v1, v1'⟩ := inB_true h1
    obtain ⟨v2, v2'⟩ := inB_true h2
    go_enter Tryd.func10, Tryd.ntmps10
    go_wp2_with ((go_at_call 34; refine (l1In_any _ _ _ _).mono ?_; rintro e w' ⟨rfl, rfl⟩))
    go_ret
    exact ⟨ret_bool HD.out.symm, (Below.refl _ _).alloc (Nat.le_refl _) _⟩
  case inr.inr.inr.inl =>
    have HD := hide (roomsB_head (xs := xs) hd)
    clear hd
    obtain ⟨v1, v1'⟩ := inB_true h1
    obtain ⟨v2, v2'⟩ := inB_true h2
    go_enter Tryd.func10, Tryd.ntmps10
    go_wp2_with ((go_at_call 34; refine (l1In_any _ _ _ _).mono ?_; rintro e w' ⟨rfl, rfl⟩))
    go_ret
    exact ⟨ret_bool HD.out.symm, (Below.refl _ _).alloc (Nat.le_refl _) _⟩

theorem epoch0 (g : Nat) (w : World) (x : Value) (hc : w.cell? ⟨g, 0, none⟩ = some x) :
    Calls Tryd.prog 33 #[.pointer (some ⟨g, 0, none⟩), .int .i64 0] w fun e w' => e = .returned (.pointer (some ⟨g, 0, none⟩)) ∧ w = w' := by
  go_enter Tryd.func33, Tryd.ntmps33
  go_wp2
  go_ret
  exact ⟨rfl, rfl⟩

theorem epoch1 (g : Nat) (w : World) (n : Int) (hn : (n == 0) = false) (x : Value) (hc : w.cell? ⟨g, 1, none⟩ = some x) :
    Calls Tryd.prog 33 #[.pointer (some ⟨g, 0, none⟩), .int .i64 n] w fun e w' => e = .returned (.pointer (some ⟨g, 1, none⟩)) ∧ w = w' := by
  go_enter Tryd.func33, Tryd.ntmps33
  go_wp2
  go_ret
  exact ⟨rfl, rfl⟩

/-- The ways through the test of the number of stations. -/
theorem len_cases (xs : List Int) : xs.length < 1 ∨ 1 ≤ xs.length ∧ 5 < xs.length ∨ 1 ≤ xs.length ∧ xs.length ≤ 5 := by omega

set_option maxHeartbeats 1000000 in
theorem implRoomsValid_any (a b : Int) (A : Option Addr) (c : Nat) (xs : List Int) (w : World) (h : Sl w w.heap.size 1 A xs.length (encI xs)) (hm : xs.length ≤ 1048576) :
    Calls Tryd.prog 9 #[.agg #[.int .i64 a, .int .i64 b, .slice A xs.length c]] w fun e w' => e = .returned (.bool (roomsB a b xs)) ∧ Below w.heap.size w w' := by
  rcases head_cases a b with ⟨h1, hd⟩ | ⟨h1, h2, hd⟩ | ⟨h1, h2, h3, hd⟩ | ⟨h1, h2, h3, h4, hd⟩ | ⟨h1, h2, h3, h4, hd⟩
  case inr.inr.inr.inr =>
    obtain ⟨v1, v1'⟩ := inB_true h1
    obtain ⟨v2, v2'⟩ := inB_true h2
    have HD := hide hd
    clear hd
    rcases len_cases xs with h5 | ⟨h5, h6⟩ | ⟨h5, h6⟩
    · go_enter Tryd.func9, Tryd.ntmps9
      go_wp2_with ((go_at_call 32; refine (epochValid_any _ _).mono ?_; rintro e w' ⟨rfl, rfl⟩))
      go_ret
      exact ⟨ret_bool (roomsB_len (by omega)).symm, (Below.refl _ _).alloc (Nat.le_refl _) _⟩
    · go_enter Tryd.func9, Tryd.ntmps9
      go_wp2_with ((go_at_call 32; refine (epochValid_any _ _).mono ?_; rintro e w' ⟨rfl, rfl⟩))
      go_ret
      exact ⟨ret_bool (roomsB_len (by omega)).symm, (Below.refl _ _).alloc (Nat.le_refl _) _⟩
    · obtain ⟨bb, off, rfl, hb, _⟩ := h.int 0 (by omega)
      have B0 := Blk.new w 25 #[.int .i64 a, .int .i64 b, .slice (some ⟨bb, off, none⟩) xs.length c]
      obtain ⟨g0, g1, _⟩ := B0.three
      go_enter Tryd.func9, Tryd.ntmps9
      go_wp2_with ((go_at_call 32; refine (epochValid_any _ _).mono ?_; rintro e w' ⟨rfl, rfl⟩))
      go_loop [42] (fun i => ∃ k : Nat, k ≤ xs.length ∧ i = .int .i64 k ∧ ∀ j, j < k → epOk a b (at_ xs j) = true) (fun i => xs.length - (intOf i).toNat)
      case atStart => exact ⟨0, Nat.zero_le _, rfl, fun j hj => absurd hj (by omega)⟩
      case round =>
        obtain ⟨k, hk, rfl, hall⟩ := hrel
        have H := hide hall
        clear hall
        by_cases hlt : k < xs.length
        · obtain ⟨b', off', hA, hb', hc⟩ := h.int k hlt
          simp at hA
          obtain ⟨rfl, rfl⟩ := hA
          have hc' := (World.cell?_alloc_lt w (.cells #[.int .i64 a, .int .i64 b, .slice (some ⟨bb, off, none⟩) xs.length c] 25) ⟨bb, off + k, none⟩ hb).trans hc
          have HS : Hid (epOk a b (at_ xs k) = true → ∀ j, j < k + 1 → epOk a b (at_ xs j) = true) := fun hh j hj => by
            by_cases hjk : j = k
            · subst hjk; exact hh
            · exact H.out j (by omega)
          clear hc B0
          rcases ep_cases a b (at_ xs k) with ⟨e1, e2⟩ | ⟨e1, e2, e3, e4, e5, e6⟩ | ⟨e1, e2, e3, e4, e5, e6⟩ | ⟨e1, e2, e3, e4, e5, e6⟩ | ⟨e1, e2, e3, e4, e5, e6⟩
          · have E := hide e2
            clear e2
            go_wp2_with fail
            go_ret
            exact ⟨ret_bool (roomsB_no k hlt E.out).symm, (Below.refl _ _).alloc (Nat.le_refl _) _⟩
          · have E := hide e6
            have E4 := hide e4
            clear e6 e4
            go_wp2_with ((go_at_call 33; rw [E4.out]; refine (epoch0 _ _ _ g0).mono ?_; rintro e w' ⟨rfl, rfl⟩))
            go_ret
            exact ⟨ret_bool (roomsB_no k hlt E.out).symm, (Below.refl _ _).alloc (Nat.le_refl _) _⟩
          · have E := hide e6
            have E4 := hide e4
            clear e6 e4
            go_wp2_with ((go_at_call 33; rw [E4.out]; refine (epoch0 _ _ _ g0).mono ?_; rintro e w' ⟨rfl, rfl⟩))
            go_round
            case rel => exact ⟨k + 1, by omega, by go_num, HS.out E.out⟩
            case measure => simp [intOf]; omega
          · have E := hide e6
            clear e6 e4
            go_wp2_with ((go_at_call 33; refine (epoch1 _ _ _ e2 _ g1).mono ?_; rintro e w' ⟨rfl, rfl⟩))
            go_ret
            exact ⟨ret_bool (roomsB_no k hlt E.out).symm, (Below.refl _ _).alloc (Nat.le_refl _) _⟩
          · have E := hide e6
            clear e6 e4
            go_wp2_with ((go_at_call 33; refine (epoch1 _ _ _ e2 _ g1).mono ?_; rintro e w' ⟨rfl, rfl⟩))
            go_round
            case rel => exact ⟨k + 1, by omega, by go_num, HS.out E.out⟩
            case measure => simp [intOf]; omega
        · go_wp2
          go_ret
          exact ⟨ret_bool (roomsB_yes HD.out (by omega) (by omega) fun j hj => H.out j (by omega)).symm, (Below.refl _ _).alloc (Nat.le_refl _) _⟩
  case inl =>
    have HD := hide (roomsB_head (xs := xs) hd)
    clear hd
    go_enter Tryd.func9, Tryd.ntmps9
    go_wp2_with ((go_at_call 32; refine (epochValid_any _ _).mono ?_; rintro e w' ⟨rfl, rfl⟩))
    go_ret
    exact ⟨ret_bool HD.out.symm, (Below.refl _ _).alloc (Nat.le_refl _) _⟩
  case inr.inl =>
    have HD := hide (roomsB_head (xs := xs) hd)
    clear hd
    obtain ⟨v1, v1'⟩ := inB_true h1
    go_enter Tryd.func9, Tryd.ntmps9
    go_wp2_with ((go_at_call 32; refine (epochValid_any _ _).mono ?_; rintro e w' ⟨rfl, rfl⟩))
    go_ret
    exact ⟨ret_bool HD.out.symm, (Below.refl _ _).alloc (Nat.le_refl _) _⟩
  case inr.inr.inl =>
    have HD := hide (roomsB_head (xs := xs) hd)
    clear hd
    obtain ⟨v1, v1'⟩ := inB_true h1
    obtain ⟨v2, v2'⟩ := inB_true h2
    go_enter Tryd.func9, Tryd.ntmps9
    go_wp2_with ((go_at_call 32; refine (epochValid_any _ _).mono ?_; rintro e w' ⟨rfl, rfl⟩))
    go_ret
    exact ⟨ret_bool HD.out.symm, (Below.refl _ _).alloc (Nat.le_refl _) _⟩
  case inr.inr.inr.inl =>
    have HD := hide (roomsB_head (xs := xs) hd)
    clear hd
    obtain ⟨v1, v1'⟩ := inB_true h1
    obtain ⟨v2, v2'⟩ := inB_true h2
    go_enter Tryd.func9, Tryd.ntmps9
    go_wp2_with ((go_at_call 32; refine (epochValid_any _ _).mono ?_; rintro e w' ⟨rfl, rfl⟩))
    go_ret
    exact ⟨ret_bool HD.out.symm, (Below.refl _ _).alloc (Nat.le_refl _) _⟩

/-- Rooms that the call has made: their numbers, and a slice of the call's own. -/
def MadeRooms (a b : Int) (xs : List Int) (w : World) (e : Ending) (w' : World) : Prop :=
  ∃ D d, e = .returned (.agg #[.int .i64 a, .int .i64 b, .slice D xs.length d]) ∧ w'.ownsRow w.heap.size 3 1 (.slice D xs.length d) xs.length (encI xs) ∧ Below w.heap.size w w'

def eqR (a b : Int) (xs : List Int) (c d : Int) (ys : List Int) : Bool := a == c && b == d && eqI xs ys
theorem eqR_self (a b : Int) (xs : List Int) : eqR a b xs a b xs = true := by simp [eqR, eqI_self]

/-! ### which room may command -/
def epOf (a b room : Int) : Int := if room = 0 then a else b
/-- How many of the first k stations have an epoch. -/
def cntF (xs : List Int) (e : Int) : Nat → Int
  | 0 => 0
  | k + 1 => cntF xs e k + if at_ xs k = e then 1 else 0
theorem cntF_in (xs : List Int) (e : Int) (k : Nat) : 0 ≤ cntF xs e k ∧ cntF xs e k ≤ k := by
  induction k with
  | zero => simp [cntF]
  | succ k ih => unfold cntF; split <;> omega
theorem cntF_yes {xs : List Int} {e : Int} {k : Nat} (h : at_ xs k = e) : cntF xs e (k + 1) = cntF xs e k + 1 := by
  show cntF xs e k + (if at_ xs k = e then 1 else 0) = _
  rw [if_pos h]
theorem cntF_no {xs : List Int} {e : Int} {k : Nat} (h : at_ xs k ≠ e) : cntF xs e (k + 1) = cntF xs e k := by
  show cntF xs e k + (if at_ xs k = e then 1 else 0) = _
  rw [if_neg h]
  omega
def mayB (a b : Int) (xs : List Int) (room : Int) : Bool := roomsB a b xs && inB room 0 1 && decide ((xs.length : Int) < 2 * cntF xs (epOf a b room) xs.length)
theorem roomsB_len5 {a b : Int} {xs : List Int} (h : roomsB a b xs = true) : 1 ≤ xs.length ∧ xs.length ≤ 5 := by
  simp [roomsB] at h
  exact ⟨h.1.1.2, h.1.2⟩

theorem l32Epoch_any (a b room : Int) (v : Value) (hv : ∃ A n c, v = .slice A n c) (w : World) :
    Calls Tryd.prog 39 #[.agg #[.int .i64 a, .int .i64 b, v], .int .i64 room] w fun e w' => e = .returned (.int .i64 (epOf a b room)) ∧ Below w.heap.size w w' := by
  obtain ⟨A, n, c, rfl⟩ := hv
  by_cases h : room = 0
  · have h' : (room == 0) = true := by simp [h]
    have H := hide h
    clear h
    go_enter Tryd.func39, Tryd.ntmps39
    go_wp2
    go_ret
    exact ⟨ret_int (by simp [epOf, H.out]), (Below.refl _ _).alloc (Nat.le_refl _) _⟩
  · have h' : (room == 0) = false := by simp [h]
    have H := hide h
    clear h
    go_enter Tryd.func39, Tryd.ntmps39
    go_wp2
    go_ret
    exact ⟨ret_int (by simp [epOf, H.out]), (Below.refl _ _).alloc (Nat.le_refl _) _⟩

theorem specRoomMay_any (a b : Int) (A : Option Addr) (c : Nat) (xs : List Int) (room : Int) (w : World) (h : Sl w w.heap.size 1 A xs.length (encI xs)) (hm : xs.length ≤ 1048576) :
    Calls Tryd.prog 14 #[.agg #[.int .i64 a, .int .i64 b, .slice A xs.length c], .int .i64 room] w fun e w' => e = .returned (.bool (mayB a b xs room)) ∧ Below w.heap.size w w' := by
  have bw := (Below.refl _ w).alloc (Nat.le_refl _) (.cells #[.int .i64 a, .int .i64 b, .slice A xs.length c] 25)
  have B0 := Blk.new w 25 #[.int .i64 a, .int .i64 b, .slice A xs.length c]
  cases h1 : roomsB a b xs
  · go_enter Tryd.func14, Tryd.ntmps14
    go_wp2_with fail
    refine (specRoomsValid_any _ _ _ _ _ _ (h.to bw) hm).mono ?_
    rintro e w1 ⟨rfl, hb1⟩
    rw [h1]
    go_wp2_with fail
    go_ret
    exact ⟨ret_bool (by simp [mayB, h1]), bw.then hb1⟩
  · obtain ⟨l1, l2⟩ := roomsB_len5 h1
    cases h2 : inB room 0 1
    · go_enter Tryd.func14, Tryd.ntmps14
      go_wp2_with fail
      refine (specRoomsValid_any _ _ _ _ _ _ (h.to bw) hm).mono ?_
      rintro e w1 ⟨rfl, hb1⟩
      rw [h1]
      go_wp2_with ((go_at_call 34; refine (l1In_any _ _ _ _).mono ?_; rintro e w' ⟨rfl, rfl⟩))
      go_ret
      exact ⟨ret_bool (by simp [mayB, h2]), bw.then hb1⟩
    · have HQ := hide (show mayB a b xs room = decide ((xs.length : Int) < 2 * cntF xs (epOf a b room) xs.length) by simp [mayB, h1, h2])
      go_enter Tryd.func14, Tryd.ntmps14
      go_wp2_with fail
      refine (specRoomsValid_any _ _ _ _ _ _ (h.to bw) hm).mono ?_
      rintro e w1 ⟨rfl, hb1⟩
      rw [h1]
      have HK := hide (bw.then hb1)
      have HB := hide (B0.to hb1)
      clear bw hb1 B0
      go_wp2_with ((go_at_call 34; refine (l1In_any _ _ _ _).mono ?_; rintro e w' ⟨rfl, rfl⟩))
      clear h1 h2
      go_loopw [5, 6] (fun q i wr => ∃ k : Nat, k ≤ xs.length ∧ i = .int .i64 k ∧ q = .int .i64 (cntF xs (epOf a b room) k) ∧ Blk wr w.heap.size 25 #[.int .i64 a, .int .i64 b, .slice A xs.length c] ∧ Below w.heap.size w wr) (fun _ i _ => xs.length - (intOf i).toNat)
      case atStart => exact ⟨0, Nat.zero_le _, rfl, rfl, HB.out, HK.out⟩
      case round =>
        obtain ⟨k, hk, rfl, rfl, hbk, hbl⟩ := hrel
        obtain ⟨u1, u2⟩ := cntF_in xs (epOf a b room) k
        obtain ⟨g0, g1, g2⟩ := hbk.three
        by_cases hlt : k < xs.length
        · obtain ⟨b0, off, rfl, hb, hc⟩ := h.int k hlt
          have hc' := (hbl.cell (p := ⟨b0, off + k, none⟩) hb).trans hc
          have i0 : (0 : Int) ≤ k := by omega
          have i1 : (k : Int) < xs.length := by omega
          have HBK := hide hbk
          have HBL := hide hbl
          clear hc hbk hbl
          by_cases he : at_ xs k = epOf a b room
          · have he' : (at_ xs k == epOf a b room) = true := by simp [he]
            have HE := hide he
            clear he
            go_wp2_with fail
            go_region_held3 (fun w' => w'.cell? ⟨w.heap.size, 0, none⟩ = some (.int .i64 a) ∧ w'.cell? ⟨w.heap.size, 1, none⟩ = some (.int .i64 b) ∧ w'.cell? ⟨w.heap.size, 2, none⟩ = some (.slice (some ⟨b0, off, none⟩) xs.length c) ∧ w'.cell? ⟨b0, off + k, none⟩ = some (.int .i64 (at_ xs k)))
              (first | go_keep | (refine ⟨cellk hb2 ?_, cellk hb2 ?_, cellk hb2 ?_, cellk hb2 ?_⟩ <;> go_keep))
              (first | (go_at_call 39; refine (l32Epoch_any _ _ _ _ ⟨_, _, _, rfl⟩ _).mono ?_; rintro e w2 ⟨rfl, hb2⟩))
            have HB2 := hide hb2
            clear hb2
            go_wp2_with fail
            go_roundw
            case rel => exact ⟨k + 1, by omega, by go_num, vint (cntF_yes HE.out).symm, Blk.below (w := wr.drew) HBK.out HB2.out HBK.out.lt, HBL.out.drew.trans (HB2.out.mono HBL.out.drew.size)⟩
            case measure => simp [intOf]; omega
          · have he' : (at_ xs k == epOf a b room) = false := by simp [he]
            have HE := hide he
            clear he
            go_wp2_with fail
            go_region_held3 (fun w' => w'.cell? ⟨w.heap.size, 0, none⟩ = some (.int .i64 a) ∧ w'.cell? ⟨w.heap.size, 1, none⟩ = some (.int .i64 b) ∧ w'.cell? ⟨w.heap.size, 2, none⟩ = some (.slice (some ⟨b0, off, none⟩) xs.length c) ∧ w'.cell? ⟨b0, off + k, none⟩ = some (.int .i64 (at_ xs k)))
              (first | go_keep | (refine ⟨cellk hb2 ?_, cellk hb2 ?_, cellk hb2 ?_, cellk hb2 ?_⟩ <;> go_keep))
              (first | (go_at_call 39; refine (l32Epoch_any _ _ _ _ ⟨_, _, _, rfl⟩ _).mono ?_; rintro e w2 ⟨rfl, hb2⟩))
            have HB2 := hide hb2
            clear hb2
            go_wp2_with fail
            go_roundw
            case rel => exact ⟨k + 1, by omega, by go_num, vint (cntF_no HE.out).symm, Blk.below (w := wr.drew) HBK.out HB2.out HBK.out.lt, HBL.out.drew.trans (HB2.out.mono HBL.out.drew.size)⟩
            case measure => simp [intOf]; omega
        · obtain rfl : k = xs.length := by omega
          have HBL := hide hbl
          clear hbl
          go_wp2_with fail
          all_goals
            go_ret
            exact ⟨ret_bool (by rw [HQ.out] <;> first | (symm; apply decide_eq_true; omega) | (symm; apply decide_eq_false; omega)), HBL.out⟩

theorem implRoomMay_any (a b : Int) (A : Option Addr) (c : Nat) (xs : List Int) (room : Int) (w : World) (h : Sl w w.heap.size 1 A xs.length (encI xs)) (hm : xs.length ≤ 1048576) :
    Calls Tryd.prog 13 #[.agg #[.int .i64 a, .int .i64 b, .slice A xs.length c], .int .i64 room] w fun e w' => e = .returned (.bool (mayB a b xs room)) ∧ Below w.heap.size w w' := by
  have bw := (Below.refl _ w).alloc (Nat.le_refl _) (.cells #[.int .i64 a, .int .i64 b, .slice A xs.length c] 25)
  have B0 := Blk.new w 25 #[.int .i64 a, .int .i64 b, .slice A xs.length c]
  cases h1 : roomsB a b xs
  · go_enter Tryd.func13, Tryd.ntmps13
    go_wp2_with fail
    refine (implRoomsValid_any _ _ _ _ _ _ (h.to bw) hm).mono ?_
    rintro e w1 ⟨rfl, hb1⟩
    rw [h1]
    go_wp2_with fail
    go_ret
    exact ⟨ret_bool (by simp [mayB, h1]), bw.then hb1⟩
  · obtain ⟨l1, l2⟩ := roomsB_len5 h1
    cases h2 : inB room 0 1
    · go_enter Tryd.func13, Tryd.ntmps13
      go_wp2_with fail
      refine (implRoomsValid_any _ _ _ _ _ _ (h.to bw) hm).mono ?_
      rintro e w1 ⟨rfl, hb1⟩
      rw [h1]
      go_wp2_with ((go_at_call 38; refine (bitValid_any _ _).mono ?_; rintro e w' ⟨rfl, rfl⟩))
      go_ret
      exact ⟨ret_bool (by simp [mayB, h2]), bw.then hb1⟩
    · have HQ := hide (show mayB a b xs room = decide ((xs.length : Int) < 2 * cntF xs (epOf a b room) xs.length) by simp [mayB, h1, h2])
      have hr01 : room = 0 ∨ (room == 0) = false := by
        by_cases hr : room = 0
        · exact .inl hr
        · exact .inr (by simp [hr])
      go_enter Tryd.func13, Tryd.ntmps13
      go_wp2_with fail
      refine (implRoomsValid_any _ _ _ _ _ _ (h.to bw) hm).mono ?_
      rintro e w1 ⟨rfl, hb1⟩
      rw [h1]
      have HK := hide (bw.then hb1)
      have hbk := B0.to hb1
      obtain ⟨g0, g1, g2⟩ := hbk.three
      have h' := h.to (bw.then hb1)
      clear bw hb1 B0 hbk
      go_wp2_with ((go_at_call 38; refine (bitValid_any _ _).mono ?_; rintro e w' ⟨rfl, rfl⟩))
      clear h1 h2
      rcases hr01 with rfl | hr
      · have HE0 := hide (show epOf a b 0 = a from rfl)
        go_loop [5, 19] (fun q i => ∃ k : Nat, k ≤ xs.length ∧ i = .int .i64 k ∧ q = .int .i64 (cntF xs a k)) (fun _ i => xs.length - (intOf i).toNat)
        case atStart => exact ⟨0, Nat.zero_le _, rfl, rfl⟩
        case round =>
          obtain ⟨k, hk, rfl, rfl⟩ := hrel
          obtain ⟨u1, u2⟩ := cntF_in xs a k
          by_cases hlt : k < xs.length
          · obtain ⟨b0, off, rfl, hb, hc⟩ := h'.int k hlt
            by_cases he : at_ xs k = a
            · have he' : (at_ xs k == a) = true := by simp [he]
              have HE := hide he
              clear he
              go_wp2_with ((go_at_call 33; refine (epoch0 _ _ _ g0).mono ?_; rintro e w' ⟨rfl, rfl⟩))
              go_round
              case rel => exact ⟨k + 1, by omega, by go_num, vint (cntF_yes HE.out).symm⟩
              case measure => simp [intOf]; omega
            · have he' : (at_ xs k == a) = false := by simp [he]
              have HE := hide he
              clear he
              go_wp2_with ((go_at_call 33; refine (epoch0 _ _ _ g0).mono ?_; rintro e w' ⟨rfl, rfl⟩))
              go_round
              case rel => exact ⟨k + 1, by omega, by go_num, vint (cntF_no HE.out).symm⟩
              case measure => simp [intOf]; omega
          · obtain rfl : k = xs.length := by omega
            go_wp2_with fail
            all_goals
              go_ret
              exact ⟨ret_bool (by rw [HQ.out, HE0.out] <;> first | (symm; apply decide_eq_true; omega) | (symm; apply decide_eq_false; omega)), HK.out⟩
      · have HE0 := hide (show epOf a b room = b by simp at hr; simp [epOf, hr])
        go_loop [5, 19] (fun q i => ∃ k : Nat, k ≤ xs.length ∧ i = .int .i64 k ∧ q = .int .i64 (cntF xs b k)) (fun _ i => xs.length - (intOf i).toNat)
        case atStart => exact ⟨0, Nat.zero_le _, rfl, rfl⟩
        case round =>
          obtain ⟨k, hk, rfl, rfl⟩ := hrel
          obtain ⟨u1, u2⟩ := cntF_in xs b k
          by_cases hlt : k < xs.length
          · obtain ⟨b0, off, rfl, hb, hc⟩ := h'.int k hlt
            by_cases he : at_ xs k = b
            · have he' : (at_ xs k == b) = true := by simp [he]
              have HE := hide he
              clear he
              go_wp2_with ((go_at_call 33; refine (epoch1 _ _ _ hr _ g1).mono ?_; rintro e w' ⟨rfl, rfl⟩))
              go_round
              case rel => exact ⟨k + 1, by omega, by go_num, vint (cntF_yes HE.out).symm⟩
              case measure => simp [intOf]; omega
            · have he' : (at_ xs k == b) = false := by simp [he]
              have HE := hide he
              clear he
              go_wp2_with ((go_at_call 33; refine (epoch1 _ _ _ hr _ g1).mono ?_; rintro e w' ⟨rfl, rfl⟩))
              go_round
              case rel => exact ⟨k + 1, by omega, by go_num, vint (cntF_no HE.out).symm⟩
              case measure => simp [intOf]; omega
          · obtain rfl : k = xs.length := by omega
            go_wp2_with fail
            all_goals
              go_ret
              exact ⟨ret_bool (by rw [HQ.out, HE0.out] <;> first | (symm; apply decide_eq_true; omega) | (symm; apply decide_eq_false; omega)), HK.out⟩

end Go.Proofs.YtgkgdbmmhcdohaaDoor
