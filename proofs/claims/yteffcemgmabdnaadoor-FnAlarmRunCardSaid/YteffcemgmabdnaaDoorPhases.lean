/-
  Chapter 36 (phases): what the program's functions and the reference's compute, and the walks of the laws on them.
-/
import Derived.Test.YteffcemgmabdnaaDoorLeaf
import Derived.Test.YteffcemgmabdnaaDoorOpen
namespace Go.Proofs.YteffcemgmabdnaaDoor
open Go.RowKit
set_option linter.unusedVariables false

/-- At most six loads, each in 0..999. -/
def tapsB (xs : List Int) : Bool := decide (xs.length ≤ 6) && xs.all fun x => inB x 0 999

theorem specTapsValid_any (A : Option Addr) (c : Nat) (xs : List Int) (w : World) (h : Sl w w.heap.size 1 A xs.length (encI xs)) (hm : xs.length ≤ 1048576) :
    Calls Tryd.prog 35 #[.slice A xs.length c] w fun e w' => e = .returned (.bool (tapsB xs)) ∧ w = w' := by
  go_enter Tryd.func35, Tryd.ntmps35
  go_wp2
  go_loop [3] (fun i => ∃ k : Nat, k ≤ xs.length ∧ i = .int .i64 k ∧ (xs.take k).all (fun x => inB x 0 999) = true) (fun i => xs.length - (intOf i).toNat)
  case atStart => exact ⟨0, Nat.zero_le _, rfl, by simp⟩
  case round =>
    obtain ⟨k, hk, rfl, hall⟩ := hrel
    have H := Lib.hid hall; clear hall
    by_cases hlt : k < xs.length
    · obtain ⟨b, off, rfl, hb, hc⟩ := h.int k hlt
      by_cases hin : inB (at_ xs k) 0 999 = true
      · go_wp2_with ((go_at_call 45; refine (l1In_any _ _ _ _).mono ?_; rintro e w' ⟨rfl, rfl⟩))
        go_round
        case rel => exact ⟨k + 1, by omega, by go_num, all_take _ _ _ hlt H.out (by rw [← at_eq xs k hlt]; exact hin)⟩
        case measure => simp [intOf]; omega
      · have hin' : inB (at_ xs k) 0 999 = false := by simpa using hin
        clear hin
        go_wp2_with ((go_at_call 45; refine (l1In_any _ _ _ _).mono ?_; rintro e w' ⟨rfl, rfl⟩))
        go_ret
        exact ⟨ret_bool (by unfold tapsB; rw [all_no _ _ _ hlt (by rw [← at_eq xs k hlt]; exact hin')]; simp), rfl⟩
    · by_cases h6 : xs.length ≤ 6
      all_goals
        go_wp2
        go_ret
        exact ⟨ret_bool (by unfold tapsB; rw [all_end _ _ _ (by omega) H.out]; simp [h6]; omega), rfl⟩

theorem implTapsValid_any (A : Option Addr) (c : Nat) (xs : List Int) (w : World) (h : Sl w w.heap.size 1 A xs.length (encI xs)) (hm : xs.length ≤ 1048576) :
    Calls Tryd.prog 59 #[.slice A xs.length c] w fun e w' => e = .returned (.bool (tapsB xs)) ∧ w = w' := by
  by_cases h6 : xs.length ≤ 6
  · go_enter Tryd.func59, Tryd.ntmps59
    go_wp2
    go_loop [10] (fun i => ∃ k : Nat, k ≤ xs.length ∧ i = .int .i64 k ∧ (xs.take k).all (fun x => inB x 0 999) = true) (fun i => xs.length - (intOf i).toNat)
    case atStart => exact ⟨0, Nat.zero_le _, rfl, by simp⟩
    case round =>
      obtain ⟨k, hk, rfl, hall⟩ := hrel
      have H := Lib.hid hall; clear hall
      by_cases hlt : k < xs.length
      · obtain ⟨b, off, rfl, hb, hc⟩ := h.int k hlt
        by_cases hin : inB (at_ xs k) 0 999 = true
        · go_wp2_with ((go_at_call 54; refine (powerValid_any _ _).mono ?_; rintro e w' ⟨rfl, rfl⟩))
          go_round
          case rel => exact ⟨k + 1, by omega, by go_num, all_take _ _ _ hlt H.out (by rw [← at_eq xs k hlt]; exact hin)⟩
          case measure => simp [intOf]; omega
        · have hin' : inB (at_ xs k) 0 999 = false := by simpa using hin
          clear hin
          go_wp2_with ((go_at_call 54; refine (powerValid_any _ _).mono ?_; rintro e w' ⟨rfl, rfl⟩))
          go_ret
          exact ⟨ret_bool (by unfold tapsB; rw [all_no _ _ _ hlt (by rw [← at_eq xs k hlt]; exact hin')]; simp), rfl⟩
      · go_wp2
        go_ret
        exact ⟨ret_bool (by unfold tapsB; rw [all_end _ _ _ (by omega) H.out]; simp [h6]), rfl⟩
  · go_enter Tryd.func59, Tryd.ntmps59
    go_wp2
    go_ret
    exact ⟨ret_bool (by unfold tapsB; simp [h6]), rfl⟩

/-! ### the sums of the phases -/
/-- The sum of the first k loads that are on a phase. -/
def phSum (loads phases : List Int) (ph : Int) : Nat → Int
  | 0 => 0
  | k + 1 => phSum loads phases ph k + if at_ phases k = ph then at_ loads k else 0
def phOk (loads phases : List Int) : Bool := tapsB loads && decide (phases.length = loads.length) && phases.all fun x => inB x 0 2
def phaseSumB (loads phases : List Int) (ph : Int) : Int := if phOk loads phases && inB ph 0 2 then phSum loads phases ph loads.length else -1

theorem taps_at {xs : List Int} (h : tapsB xs = true) (k : Nat) (hk : k < xs.length) : 0 ≤ at_ xs k ∧ at_ xs k ≤ 999 := by
  simp [tapsB] at h
  exact inB_true (by rw [at_eq xs k hk]; exact h.2 _ (List.getElem_mem hk))
theorem taps_len {xs : List Int} (h : tapsB xs = true) : xs.length ≤ 6 := by
  simp [tapsB] at h
  exact h.1
theorem phSum_in {loads phases : List Int} (h : tapsB loads = true) (ph : Int) (k : Nat) (hk : k ≤ loads.length) : 0 ≤ phSum loads phases ph k ∧ phSum loads phases ph k ≤ 999 * k := by
  induction k with
  | zero => simp [phSum]
  | succ k ih =>
    have := ih (by omega)
    have := taps_at h k (by omega)
    unfold phSum
    split <;> omega
theorem phOk_taps {loads phases : List Int} (h : tapsB loads = false) : phOk loads phases = false := by simp [phOk, h]
theorem phOk_len {loads phases : List Int} (h : phases.length ≠ loads.length) : phOk loads phases = false := by simp [phOk, h]
theorem phOk_no {loads phases : List Int} (k : Nat) (hk : k < phases.length) (h : inB (at_ phases k) 0 2 = false) : phOk loads phases = false := by
  unfold phOk
  rw [all_no _ _ k hk (by rw [← at_eq phases k hk]; exact h)]
  simp
theorem phOk_yes {loads phases : List Int} (h1 : tapsB loads = true) (h2 : phases.length = loads.length) (h3 : ∀ j, j < phases.length → inB (at_ phases j) 0 2 = true) : phOk loads phases = true := by
  unfold phOk
  rw [h1, h2]
  simp only [decide_true, Bool.and_self, Bool.true_and, List.all_eq_true]
  intro x hx
  obtain ⟨j, hj, rfl⟩ := List.getElem_of_mem hx
  rw [← at_eq phases j hj]
  exact h3 j hj

theorem specPhaseSum_any (A D : Option Addr) (c d : Nat) (xs ys : List Int) (ph : Int) (w : World) (h : Sl w w.heap.size 1 A xs.length (encI xs)) (g : Sl w w.heap.size 1 D ys.length (encI ys)) (hm : xs.length ≤ 1048576) (hn : ys.length ≤ 1048576) :
    Calls Tryd.prog 58 #[.slice A xs.length c, .slice D ys.length d, .int .i64 ph] w fun e w' => e = .returned (.int .i64 (phaseSumB xs ys ph)) ∧ w = w' := by
  cases h1 : tapsB xs
  · go_enter Tryd.func58, Tryd.ntmps58
    go_wp2_with ((go_at_call 35; refine (specTapsValid_any _ _ _ _ h hm).mono ?_; rintro e w' ⟨rfl, rfl⟩))
    go_ret
    exact ⟨ret_int (by simp [phaseSumB, phOk_taps h1]), rfl⟩
  · by_cases h2 : ys.length = xs.length
    · have b2 : ((ys.length : Int) != xs.length) = false := by simp [h2]
      have H2 := hide h2
      have h2' : xs.length ≤ ys.length := by omega
      clear h2
      cases h3 : inB ph 0 2
      · go_enter Tryd.func58, Tryd.ntmps58
        go_wp2_with (first | (go_at_call 35; refine (specTapsValid_any _ _ _ _ h hm).mono ?_; rintro e w' ⟨rfl, rfl⟩) | (go_at_call 45; refine (l1In_any _ _ _ _).mono ?_; rintro e w' ⟨rfl, rfl⟩))
        go_ret
        exact ⟨ret_int (by simp [phaseSumB, h3]), rfl⟩
      · go_enter Tryd.func58, Tryd.ntmps58
        go_wp2_with (first | (go_at_call 35; refine (specTapsValid_any _ _ _ _ h hm).mono ?_; rintro e w' ⟨rfl, rfl⟩) | (go_at_call 45; refine (l1In_any _ _ _ _).mono ?_; rintro e w' ⟨rfl, rfl⟩))
        have H1 := hide h1
        have H3 := hide h3
        clear h1 h3
        go_loop [7, 8] (fun s i => ∃ k : Nat, k ≤ xs.length ∧ i = .int .i64 k ∧ s = .int .i64 (phSum xs ys ph k) ∧ ∀ j, j < k → inB (at_ ys j) 0 2 = true) (fun _ i => xs.length - (intOf i).toNat)
        case atStart => exact ⟨0, Nat.zero_le _, rfl, rfl, fun j hj => absurd hj (by omega)⟩
        case round =>
          obtain ⟨k, hk, rfl, rfl, hall⟩ := hrel
          have H := hide hall
          clear hall
          by_cases hlt : k < xs.length
          · obtain ⟨b, off, rfl, hb, hc⟩ := h.int k hlt
            obtain ⟨b2, off2, rfl, hb2, hc2⟩ := g.int k (by omega)
            have i2 : (k : Int) < ys.length := by omega
            have u1 := phSum_in (phases := ys) H1.out ph k hk
            have u2 := taps_at H1.out k hlt
            have u3 := taps_len H1.out
            obtain ⟨u1, u1'⟩ := u1
            obtain ⟨u2, u2'⟩ := u2
            cases h4 : inB (at_ ys k) 0 2
            · go_wp2_with ((go_at_call 45; refine (l1In_any _ _ _ _).mono ?_; rintro e w' ⟨rfl, rfl⟩))
              go_ret
              exact ⟨ret_int (by simp [phaseSumB, phOk_no (loads := xs) k (by omega) h4]), rfl⟩
            · have HS : Hid (∀ j, j < k + 1 → inB (at_ ys j) 0 2 = true) := fun j hj => by
                by_cases hjk : j = k
                · subst hjk; exact h4
                · exact H.out j (by omega)
              by_cases h5 : at_ ys k = ph
              · have b5 : (at_ ys k == ph) = true := by simp [h5]
                have H5 := hide h5
                clear h5
                go_wp2_with ((go_at_call 45; refine (l1In_any _ _ _ _).mono ?_; rintro e w' ⟨rfl, rfl⟩))
                go_round
                case rel => exact ⟨k + 1, by omega, by go_num, by simp [phSum, H5.out], HS.out⟩
                case measure => simp [intOf]; omega
              · have b5 : (at_ ys k == ph) = false := by simp [h5]
                have H5 := hide h5
                clear h5
                go_wp2_with ((go_at_call 45; refine (l1In_any _ _ _ _).mono ?_; rintro e w' ⟨rfl, rfl⟩))
                go_round
                case rel => exact ⟨k + 1, by omega, by go_num, by simp [phSum, H5.out], HS.out⟩
                case measure => simp [intOf]; omega
          · obtain rfl : k = xs.length := by omega
            go_wp2
            go_ret
            have := phOk_yes H1.out H2.out (fun j hj => H.out j (by have := H2.out; omega))
            exact ⟨ret_int (by simp [phaseSumB, this, H3.out]), rfl⟩
    · have b2 : ((ys.length : Int) != xs.length) = true := by simp; omega
      have H2 := hide h2
      clear h2
      go_enter Tryd.func58, Tryd.ntmps58
      go_wp2_with ((go_at_call 35; refine (specTapsValid_any _ _ _ _ h hm).mono ?_; rintro e w' ⟨rfl, rfl⟩))
      go_ret
      exact ⟨ret_int (by simp [phaseSumB, phOk_len H2.out]), rfl⟩

/-- What phaseSums returns: the three sums, and whether everything is valid. -/
def SumsPost (xs ys : List Int) (w : World) (e : Ending) (w' : World) : Prop :=
  ∃ s0 s1 s2 : Int, e = .returned (.tuple #[.agg #[.int .i64 s0, .int .i64 s1, .int .i64 s2], .bool (phOk xs ys)]) ∧ (phOk xs ys = true → s0 = phSum xs ys 0 xs.length ∧ s1 = phSum xs ys 1 xs.length ∧ s2 = phSum xs ys 2 xs.length) ∧ Below w.heap.size w w'

theorem phaseSums_any (A D : Option Addr) (c d : Nat) (xs ys : List Int) (w : World) (h : Sl w w.heap.size 1 A xs.length (encI xs)) (g : Sl w w.heap.size 1 D ys.length (encI ys)) (hm : xs.length ≤ 1048576) (hn : ys.length ≤ 1048576) :
    Calls Tryd.prog 56 #[.slice A xs.length c, .slice D ys.length d] w (SumsPost xs ys w) := by
  have hW : Sl ((w.alloc (.cells #[.int .i64 0, .int .i64 0, .int .i64 0] 74)).alloc (.cells #[.int .i64 0, .int .i64 0, .int .i64 0] 74)) ((w.alloc (.cells #[.int .i64 0, .int .i64 0, .int .i64 0] 74)).alloc (.cells #[.int .i64 0, .int .i64 0, .int .i64 0] 74)).heap.size 1 A xs.length (encI xs) :=
    h.to (((Below.refl _ _).alloc (Nat.le_refl _) _).alloc (by simp) _)
  have B0 := (Blk.new w 74 #[.int .i64 0, .int .i64 0, .int .i64 0]).alloc (.cells #[.int .i64 0, .int .i64 0, .int .i64 0] 74)
  have B1 := Blk.new (w.alloc (.cells #[.int .i64 0, .int .i64 0, .int .i64 0] 74)) 74 #[.int .i64 0, .int .i64 0, .int .i64 0]
  simp only [World.size_alloc] at B1
  cases h1 : tapsB xs
  · go_enter Tryd.func56, Tryd.ntmps56
    go_wp2_with fail
    refine (implTapsValid_any _ _ _ _ hW hm).mono ?_
    rintro e w' ⟨rfl, rfl⟩
    go_wp2_with fail
    refine bodyPost_ret (v := .tuple #[.agg #[.int .i64 0, .int .i64 0, .int .i64 0], .bool false]) (by simp [results, Tryd.results56, go_sem]) rfl ⟨0, 0, 0, by rw [phOk_taps h1], by rw [phOk_taps h1]; simp, ?_⟩
    repeat (first | exact Below.refl _ _ | (refine Below.alloc ?_ (by simp <;> omega) _))
  · by_cases h2 : ys.length = xs.length
    · have b2 : ((ys.length : Int) != xs.length) = false := by simp [h2]
      have H2 := hide h2
      have h2' : ys.length ≤ xs.length := by omega
      clear h2
      go_enter Tryd.func56, Tryd.ntmps56
      go_wp2_with fail
      refine (implTapsValid_any _ _ _ _ hW hm).mono ?_
      rintro e w' ⟨rfl, rfl⟩
      go_wp2_with fail
      have H1 := hide h1
      clear h1
      go_loopw [22] (fun i wr => ∃ k : Nat, k ≤ ys.length ∧ i = .int .i64 k ∧ (∀ j, j < k → inB (at_ ys j) 0 2 = true) ∧ Blk wr w.heap.size 74 #[.int .i64 0, .int .i64 0, .int .i64 0] ∧ Blk wr (w.heap.size + 1) 74 #[.int .i64 (phSum xs ys 0 k), .int .i64 (phSum xs ys 1 k), .int .i64 (phSum xs ys 2 k)] ∧ Below w.heap.size w wr) (fun i _ => ys.length - (intOf i).toNat)
      case atStart => exact ⟨0, Nat.zero_le _, rfl, fun j hj => absurd hj (by omega), B0, B1, ((Below.refl _ _).alloc (Nat.le_refl _) _).alloc (by simp) _⟩
      case round =>
        obtain ⟨k, hk, rfl, hall, b0, b1, hbl⟩ := hrel
        have H := hide hall
        clear hall B0 B1 hW
        by_cases hlt : k < ys.length
        · obtain ⟨b, off, rfl, hb, hc⟩ := h.int k (by omega)
          obtain ⟨b2, off2, rfl, hb2, hc2⟩ := g.int k hlt
          have hc' := (hbl.cell (p := ⟨b, off + k, none⟩) hb).trans hc
          have hc2' := (hbl.cell (p := ⟨b2, off2 + k, none⟩) hb2).trans hc2
          clear hc hc2
          have u1 := phSum_in (phases := ys) H1.out 0 k (by omega)
          have u2 := phSum_in (phases := ys) H1.out 1 k (by omega)
          have u3 := phSum_in (phases := ys) H1.out 2 k (by omega)
          have u4 := taps_at H1.out k (by omega)
          have u5 := taps_len H1.out
          obtain ⟨u1, u1'⟩ := u1
          obtain ⟨u2, u2'⟩ := u2
          obtain ⟨u3, u3'⟩ := u3
          obtain ⟨u4, u4'⟩ := u4
          have i0 : (0 : Int) ≤ (k : Int) := by omega
          have i1 : (k : Int) < (xs.length : Int) := by omega
          obtain ⟨e0, e1, e2⟩ := b1.three
          have f0 := b1.frozen 0
          have f1 := b1.frozen 1
          have f2 := b1.frozen 2
          obtain ⟨q0, q1, q2⟩ := b0.three
          have q3 := b0.frozen 0
          have q4 := b0.frozen 1
          have q5 := b0.frozen 2
          cases h4 : inB (at_ ys k) 0 2
          · have hcase : at_ ys k < 0 ∨ 3 ≤ at_ ys k := by have := inB_false h4; omega
            have HP := hide (phOk_no (loads := xs) k hlt h4)
            have HB := hide hbl
            clear h4 hbl b0 b1
            rcases hcase with h5 | h5
            all_goals
              go_wp2
              refine bodyPost_ret (v := .tuple #[.agg #[.int .i64 (phSum xs ys 0 k), .int .i64 (phSum xs ys 1 k), .int .i64 (phSum xs ys 2 k)], .bool false]) (by simp [results, Tryd.results56, go_sem, q0, q1, q2]) rfl ⟨_, _, _, by rw [HP.out], by rw [HP.out]; simp, ?_⟩
              exact ((HB.out.setCell (Nat.le_refl _) _).setCell (Nat.le_refl _) _).setCell (Nat.le_refl _) _
          · have HS : Hid (∀ j, j < k + 1 → inB (at_ ys j) 0 2 = true) := fun j hj => by
              by_cases hjk : j = k
              · subst hjk; exact h4
              · exact H.out j (by omega)
            have hcase : at_ ys k = 0 ∨ at_ ys k = 1 ∨ at_ ys k = 2 := by have := inB_true h4; omega
            have HB := hide hbl
            have HB0 := hide b0
            have HB1 := hide b1
            clear h4 hbl b0 b1
            rcases hcase with h5 | h5 | h5
            all_goals
              have p0 := hide (show phSum xs ys 0 (k + 1) = phSum xs ys 0 k + if at_ ys k = 0 then at_ xs k else 0 from rfl)
              have p1 := hide (show phSum xs ys 1 (k + 1) = phSum xs ys 1 k + if at_ ys k = 1 then at_ xs k else 0 from rfl)
              have p2 := hide (show phSum xs ys 2 (k + 1) = phSum xs ys 2 k + if at_ ys k = 2 then at_ xs k else 0 from rfl)
              rw [h5] at hc2' p0 p1 p2
              clear h5
              go_wp2
              go_region
              go_wp2
              refine ⟨⟨k + 1, by omega, by go_num, HS.out, HB0.out.far (by simp) _, ?_, (HB.out.setCell (by simp) _).drew⟩, by simp [intOf]; omega⟩
              rw [p0.out, p1.out, p2.out]
              simp
              exact HB1.out.set_ _ _
        · obtain rfl : k = ys.length := by omega
          obtain ⟨e0, e1, e2⟩ := b1.three
          obtain ⟨q0, q1, q2⟩ := b0.three
          have q3 := b0.frozen 0
          have q4 := b0.frozen 1
          have q5 := b0.frozen 2
          have HP := hide (phOk_yes H1.out H2.out H.out)
          have HB := hide hbl
          clear hbl b0 b1
          go_wp2
          refine bodyPost_ret (v := .tuple #[.agg #[.int .i64 (phSum xs ys 0 ys.length), .int .i64 (phSum xs ys 1 ys.length), .int .i64 (phSum xs ys 2 ys.length)], .bool true]) (by simp [results, Tryd.results56, go_sem, q0, q1, q2]) rfl ⟨_, _, _, by rw [HP.out], fun _ => by rw [H2.out]; exact ⟨rfl, rfl, rfl⟩, ?_⟩
          exact ((HB.out.setCell (Nat.le_refl _) _).setCell (Nat.le_refl _) _).setCell (Nat.le_refl _) _
    · have b2 : ((ys.length : Int) != xs.length) = true := by simp; omega
      have H2 := hide h2
      clear h2
      go_enter Tryd.func56, Tryd.ntmps56
      go_wp2_with fail
      refine (implTapsValid_any _ _ _ _ hW hm).mono ?_
      rintro e w' ⟨rfl, rfl⟩
      go_wp2_with fail
      refine bodyPost_ret (v := .tuple #[.agg #[.int .i64 0, .int .i64 0, .int .i64 0], .bool false]) (by simp [results, Tryd.results56, go_sem]) rfl ⟨0, 0, 0, by rw [phOk_len H2.out], by rw [phOk_len H2.out]; simp, ?_⟩
      repeat (first | exact Below.refl _ _ | (refine Below.alloc ?_ (by simp <;> omega) _))

/-- The greatest one of three less the least one. -/
def imb (a b c : Int) : Int := max a (max b c) - min a (min b c)

theorem imbalanceOf_any (a b c : Int) (w : World) (ha : 0 ≤ a ∧ a ≤ 5994) (hb : 0 ≤ b ∧ b ≤ 5994) (hc : 0 ≤ c ∧ c ≤ 5994) :
    Calls Tryd.prog 57 #[.agg #[.int .i64 a, .int .i64 b, .int .i64 c]] w fun e w' => e = .returned (.int .i64 (imb a b c)) ∧ Below w.heap.size w w' := by
  obtain ⟨a0, a1⟩ := ha
  obtain ⟨b0, b1⟩ := hb
  obtain ⟨c0, c1⟩ := hc
  go_enter Tryd.func57, Tryd.ntmps57
  go_wp2
  all_goals
    go_ret
    exact ⟨ret_int (by unfold imb; omega), (Below.refl _ _).alloc (Nat.le_refl _) _⟩

def imbB (xs ys : List Int) : Int := if phOk xs ys then imb (phSum xs ys 0 xs.length) (phSum xs ys 1 xs.length) (phSum xs ys 2 xs.length) else -1
theorem phOk_tapsB {xs ys : List Int} (h : phOk xs ys = true) : tapsB xs = true := by
  simp [phOk] at h
  exact h.1.1
theorem phSum_le {xs ys : List Int} (h : phOk xs ys = true) (ph : Int) : 0 ≤ phSum xs ys ph xs.length ∧ phSum xs ys ph xs.length ≤ 5994 := by
  have h1 := phSum_in (phases := ys) (phOk_tapsB h) ph xs.length (Nat.le_refl _)
  have h2 := taps_len (phOk_tapsB h)
  omega

theorem implImbalance_any (A D : Option Addr) (c d : Nat) (xs ys : List Int) (w : World) (h : Sl w w.heap.size 1 A xs.length (encI xs)) (g : Sl w w.heap.size 1 D ys.length (encI ys)) (hm : xs.length ≤ 1048576) (hn : ys.length ≤ 1048576) :
    Calls Tryd.prog 26 #[.slice A xs.length c, .slice D ys.length d] w fun e w' => e = .returned (.int .i64 (imbB xs ys)) ∧ Below w.heap.size w w' := by
  cases h1 : phOk xs ys
  · go_enter Tryd.func26, Tryd.ntmps26
    go_wp2_with fail
    refine (phaseSums_any _ _ _ _ _ _ _ h g hm hn).mono ?_
    rintro e w1 ⟨s0, s1, s2, rfl, _, hb1⟩
    rw [h1]
    go_wp2_with fail
    go_ret
    exact ⟨ret_int (by simp [imbB, h1]), hb1.alloc hb1.size _⟩
  · go_enter Tryd.func26, Tryd.ntmps26
    go_wp2_with fail
    refine (phaseSums_any _ _ _ _ _ _ _ h g hm hn).mono ?_
    rintro e w1 ⟨s0, s1, s2, rfl, hs, hb1⟩
    obtain ⟨rfl, rfl, rfl⟩ := hs h1
    rw [h1]
    clear hs
    go_wp2_with fail
    refine (imbalanceOf_any _ _ _ _ (phSum_le h1 0) (phSum_le h1 1) (phSum_le h1 2)).mono ?_
    rintro e w2 ⟨rfl, hb2⟩
    go_wp2_with fail
    go_ret
    exact ⟨ret_int (by simp [imbB, h1]), (hb1.alloc hb1.size _).trans (hb2.mono (by have := hb1.size; simp; omega))⟩

theorem specImbalance_any (A D : Option Addr) (c d : Nat) (xs ys : List Int) (w : World) (h : Sl w w.heap.size 1 A xs.length (encI xs)) (g : Sl w w.heap.size 1 D ys.length (encI ys)) (hm : xs.length ≤ 1048576) (hn : ys.length ≤ 1048576) :
    Calls Tryd.prog 27 #[.slice A xs.length c, .slice D ys.length d] w fun e w' => e = .returned (.int .i64 (imbB xs ys)) ∧ w = w' := by
  cases h1 : phOk xs ys
  · have p : ∀ ph, phaseSumB xs ys ph = -1 := fun ph => by simp [phaseSumB, h1]
    have P := hide p
    clear p
    go_enter Tryd.func27, Tryd.ntmps27
    go_wp2_with ((go_at_call 58; refine (specPhaseSum_any _ _ _ _ _ _ _ _ h g hm hn).mono ?_; rintro e w' ⟨rfl, rfl⟩; rw [P.out]))
    go_ret
    exact ⟨ret_int (by simp [imbB, h1]), rfl⟩
  · obtain ⟨a0, a1⟩ := phSum_le h1 0
    obtain ⟨b0, b1⟩ := phSum_le h1 1
    obtain ⟨c0, c1⟩ := phSum_le h1 2
    have P0 := hide (show phaseSumB xs ys 0 = phSum xs ys 0 xs.length by simp [phaseSumB, h1, inB])
    have P1 := hide (show phaseSumB xs ys 1 = phSum xs ys 1 xs.length by simp [phaseSumB, h1, inB])
    have P2 := hide (show phaseSumB xs ys 2 = phSum xs ys 2 xs.length by simp [phaseSumB, h1, inB])
    go_enter Tryd.func27, Tryd.ntmps27
    go_wp2_with ((go_at_call 58; refine (specPhaseSum_any _ _ _ _ _ _ _ _ h g hm hn).mono ?_; rintro e w' ⟨rfl, rfl⟩; first | rw [P0.out] | rw [P1.out] | rw [P2.out]))
    all_goals
      go_ret
      exact ⟨ret_int (by unfold imbB; rw [if_pos h1]; unfold imb; omega), rfl⟩

/-! ### where a further load goes -/
def phNext (a b c : Int) : Int := if b < a then (if c < b then 2 else 1) else (if c < a then 2 else 0)
def phNextB (xs ys : List Int) : Int := if phOk xs ys then phNext (phSum xs ys 0 xs.length) (phSum xs ys 1 xs.length) (phSum xs ys 2 xs.length) else -1
/-- The best one of the first k phases. -/
def phBest (a b c : Int) : Nat → Int
  | 0 => 0
  | 1 => 0
  | 2 => if b < a then 1 else 0
  | _ => phNext a b c

end Go.Proofs.YteffcemgmabdnaaDoor
