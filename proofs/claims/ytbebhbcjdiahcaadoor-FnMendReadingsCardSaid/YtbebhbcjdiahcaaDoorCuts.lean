/-
  Chapters 1, 2, 18 and 34: networks, states, zones and cuts; what the program's functions and the reference's compute.
-/
import Derived.Test.YtbebhbcjdiahcaaDoorNets
namespace Go.Proofs.YtbebhbcjdiahcaaDoor
open Go.RowKit
set_option linter.unusedVariables false

theorem most_cases (b : Int) (x : Int × Int × Int) : (inB x.1 0 (b - 1) = false ∧ lineOk b x = false) ∨ (inB x.1 0 (b - 1) = true ∧ inB x.2.1 0 (b - 1) = false ∧ lineOk b x = false) ∨
    (inB x.1 0 (b - 1) = true ∧ inB x.2.1 0 (b - 1) = true ∧ (x.1 == x.2.1) = true ∧ lineOk b x = false) ∨ (inB x.1 0 (b - 1) = true ∧ inB x.2.1 0 (b - 1) = true ∧ (x.1 == x.2.1) = false ∧ inB x.2.2 1 999 = false ∧ lineOk b x = false) ∨
    (inB x.1 0 (b - 1) = true ∧ inB x.2.1 0 (b - 1) = true ∧ (x.1 == x.2.1) = false ∧ inB x.2.2 1 999 = true ∧ lineOk b x = true) := by
  rcases line_cases b x with h | h | h | ⟨h1, h2, h3, h4, h5⟩ | ⟨h1, h2, h3, h4, h5, h6⟩ | ⟨h1, h2, h3, h4, h5, h6⟩
  · exact .inl h
  · exact .inr (.inl h)
  · exact .inr (.inr (.inl h))
  · exact .inr (.inr (.inr (.inl ⟨h1, h2, h3, inB_no (.inl h4), h5⟩)))
  · exact .inr (.inr (.inr (.inl ⟨h1, h2, h3, inB_no (.inr h5), h6⟩)))
  · exact .inr (.inr (.inr (.inr ⟨h1, h2, h3, inB_mk h4 h5, h6⟩)))

theorem specNetValid_any (b : Int) (A : Option Addr) (c : Nat) (ls : List (Int × Int × Int)) (w : World) (h : Sl w w.heap.size 3 A ls.length (enc3 ls)) (hm : ls.length ≤ 1048576) :
    Calls Tryd.prog 53 #[.agg #[.int .i64 b, .slice A ls.length c]] w fun e w' => e = .returned (.bool (netB b ls)) ∧ Below w.heap.size w w' := by
  have bw := (Below.refl _ w).alloc (Nat.le_refl _) (.cells #[.int .i64 b, .slice A ls.length c] 25)
  have B0 := Blk.new w 25 #[.int .i64 b, .slice A ls.length c]
  cases h1 : inB b 1 8
  · go_enter Tryd.func53, Tryd.ntmps53
    go_wp2_with ((go_at_call 52; refine (l1In_any _ _ _ _).mono ?_; rintro e w' ⟨rfl, rfl⟩))
    go_ret
    exact ⟨ret_bool (by unfold netB; rw [h1]; rfl), bw⟩
  · obtain ⟨u1, u2⟩ := inB_true h1
    by_cases h3 : ls.length ≤ 10
    · have HI := hide h1
      have HB0 := hide B0
      have HBW := hide bw
      clear B0 bw
      go_enter Tryd.func53, Tryd.ntmps53
      go_wp2_with ((go_at_call 52; refine (l1In_any _ _ _ _).mono ?_; rintro e w' ⟨rfl, rfl⟩))
      clear h1
      go_loopw [3] (fun i wr => ∃ k : Nat, k ≤ ls.length ∧ i = .int .i64 k ∧ (∀ j, j < k → lineOk b (at3 ls j) = true) ∧ Blk wr w.heap.size 25 #[.int .i64 b, .slice A ls.length c] ∧ Below w.heap.size w wr) (fun i _ => ls.length - (intOf i).toNat)
      case atStart => exact ⟨0, Nat.zero_le _, rfl, fun j hj => absurd hj (by omega), HB0.out, HBW.out⟩
      case round =>
        obtain ⟨k, hk, rfl, hall, hbk, hbl⟩ := hrel
        have H := hide hall
        clear hall
        obtain ⟨g0, g1⟩ := hbk.two
        have hz := hbk.lt
        by_cases hlt : k < ls.length
        · obtain ⟨b0, off, rfl, hb, hc0, hc1, hc2⟩ := h.three k hlt
          have d0 := (hbl.cell (p := ⟨b0, off + k * 3, none⟩) hb).trans hc0
          have d1 := (hbl.cell (p := ⟨b0, off + k * 3 + 1, none⟩) hb).trans hc1
          have d2 := (hbl.cell (p := ⟨b0, off + k * 3 + 2, none⟩) hb).trans hc2
          have hb2 : b0 < wr.heap.size := Nat.lt_of_lt_of_le hb hbl.size
          clear hc0 hc1 hc2
          have hal := (Below.refl _ wr).alloc (Nat.le_refl _) (.cells #[.int .i64 (at3 ls k).1, .int .i64 (at3 ls k).2.1, .int .i64 (at3 ls k).2.2] 60)
          have N0 := hide (hbk.to hal)
          have K0 := hide (hbl.trans (hal.mono hbl.size))
          clear hbk hbl hal
          have HS : Hid (lineOk b (at3 ls k) = true → ∀ j, j < k + 1 → lineOk b (at3 ls j) = true) := fun hh j hj => by
            by_cases hjk : j = k
            · subst hjk; exact hh
            · exact H.out j (by omega)
          rcases most_cases b (at3 ls k) with ⟨q1, q⟩ | ⟨q1, q2, q⟩ | ⟨q1, q2, q3, q⟩ | ⟨q1, q2, q3, q4, q⟩ | ⟨q1, q2, q3, q4, q⟩
          all_goals
            have Q := hide q
            clear q
            go_wp2_with ((go_at_call 52; refine (l1In_any _ _ _ _).mono ?_; rintro e w' ⟨rfl, rfl⟩))
            first
              | (go_ret; exact ⟨ret_bool (netB_no k hlt Q.out).symm, K0.out⟩)
              | (go_roundw
                 case rel => exact ⟨k + 1, by omega, by go_num, HS.out Q.out, N0.out, K0.out⟩
                 case measure => simp [intOf]; omega)
        · go_wp2_with fail
          go_ret
          exact ⟨ret_bool (netB_yes HI.out h3 fun j hj => H.out j (by omega)).symm, hbl⟩
    · have HQ := hide (show netB b ls = false by simp [netB, h3])
      have h4 : 10 < ls.length := by omega
      clear h3
      go_enter Tryd.func53, Tryd.ntmps53
      go_wp2_with ((go_at_call 52; refine (l1In_any _ _ _ _).mono ?_; rintro e w' ⟨rfl, rfl⟩))
      go_ret
      exact ⟨ret_bool HQ.out.symm, bw⟩

/-- A network and a state of n lines. -/
def stB (b : Int) (ls : List (Int × Int × Int)) (n : Nat) : Bool := netB b ls && decide (n = ls.length)
theorem stB_no {b : Int} {ls : List (Int × Int × Int)} {n : Nat} (h : netB b ls = false) : stB b ls n = false := by simp [stB, h]
theorem stB_yes {b : Int} {ls : List (Int × Int × Int)} {n : Nat} (h : netB b ls = true) : stB b ls n = decide (n = ls.length) := by simp [stB, h]
theorem net_len {b : Int} {ls : List (Int × Int × Int)} (h : netB b ls = true) : (1 ≤ b ∧ b ≤ 8) ∧ ls.length ≤ 10 := by
  simp only [netB, Bool.and_eq_true, decide_eq_true_eq] at h
  exact ⟨inB_true h.1.1, h.1.2⟩
theorem net_at {b : Int} {ls : List (Int × Int × Int)} (h : netB b ls = true) (k : Nat) (hk : k < ls.length) : (0 ≤ (at3 ls k).1 ∧ (at3 ls k).1 < b) ∧ (0 ≤ (at3 ls k).2.1 ∧ (at3 ls k).2.1 < b) ∧ (at3 ls k).1 ≠ (at3 ls k).2.1 ∧ (1 ≤ (at3 ls k).2.2 ∧ (at3 ls k).2.2 ≤ 999) := by
  simp only [netB, Bool.and_eq_true, List.all_eq_true] at h
  have := h.2 (at3 ls k) (by rw [at3_eq ls k hk]; exact List.getElem_mem hk)
  simp only [lineOk, Bool.and_eq_true, decide_eq_true_eq] at this
  have h1 := inB_true this.1.1.1
  have h2 := inB_true this.1.1.2
  exact ⟨by omega, by omega, this.1.2, inB_true this.2⟩

theorem implStateValid_any (b : Int) (A D : Option Addr) (c d n : Nat) (ls : List (Int × Int × Int)) (w : World) (h : Sl w w.heap.size 3 A ls.length (enc3 ls)) (hm : ls.length ≤ 1048576) :
    Calls Tryd.prog 70 #[.agg #[.int .i64 b, .slice A ls.length c], .slice D n d] w fun e w' => e = .returned (.bool (stB b ls n)) ∧ Below w.heap.size w w' := by
  have bw := (Below.refl _ w).alloc (Nat.le_refl _) (.cells #[.int .i64 b, .slice A ls.length c] 25)
  have B0 := Blk.new w 25 #[.int .i64 b, .slice A ls.length c]
  cases h1 : netB b ls
  · have HQ := hide (stB_no (n := n) h1)
    go_enter Tryd.func70, Tryd.ntmps70
    go_wp2_with fail
    refine (implNetValid_any _ _ _ _ _ (h.to bw) hm).mono ?_
    rintro e w1 ⟨rfl, hb1⟩
    rw [h1]
    go_wp2_with fail
    go_ret
    exact ⟨ret_bool HQ.out.symm, bw.then hb1⟩
  · have HQ := hide (stB_yes (n := n) h1)
    go_enter Tryd.func70, Tryd.ntmps70
    go_wp2_with fail
    refine (implNetValid_any _ _ _ _ _ (h.to bw) hm).mono ?_
    rintro e w1 ⟨rfl, hb1⟩
    rw [h1]
    obtain ⟨g0, g1⟩ := (B0.to hb1).two
    have HB := hide (bw.then hb1)
    clear hb1 bw B0 h1
    go_wp2_with fail
    go_ret
    refine ⟨ret_bool ?_, HB.out⟩
    rw [HQ.out]
    by_cases hh : n = ls.length
    · simp [hh]
    · rw [decide_eq_false hh, beq_eq_false_iff_ne]
      omega

theorem specStateValid_any (b : Int) (A D : Option Addr) (c d n : Nat) (ls : List (Int × Int × Int)) (w : World) (h : Sl w w.heap.size 3 A ls.length (enc3 ls)) (hm : ls.length ≤ 1048576) :
    Calls Tryd.prog 54 #[.agg #[.int .i64 b, .slice A ls.length c], .slice D n d] w fun e w' => e = .returned (.bool (stB b ls n)) ∧ Below w.heap.size w w' := by
  have bw := (Below.refl _ w).alloc (Nat.le_refl _) (.cells #[.int .i64 b, .slice A ls.length c] 25)
  have B0 := Blk.new w 25 #[.int .i64 b, .slice A ls.length c]
  cases h1 : netB b ls
  · have HQ := hide (stB_no (n := n) h1)
    go_enter Tryd.func54, Tryd.ntmps54
    go_wp2_with fail
    refine (specNetValid_any _ _ _ _ _ (h.to bw) hm).mono ?_
    rintro e w1 ⟨rfl, hb1⟩
    rw [h1]
    go_wp2_with fail
    go_ret
    exact ⟨ret_bool HQ.out.symm, bw.then hb1⟩
  · have HQ := hide (stB_yes (n := n) h1)
    go_enter Tryd.func54, Tryd.ntmps54
    go_wp2_with fail
    refine (specNetValid_any _ _ _ _ _ (h.to bw) hm).mono ?_
    rintro e w1 ⟨rfl, hb1⟩
    rw [h1]
    obtain ⟨g0, g1⟩ := (B0.to hb1).two
    have HB := hide (bw.then hb1)
    clear hb1 bw B0 h1
    go_wp2_with fail
    go_ret
    refine ⟨ret_bool ?_, HB.out⟩
    rw [HQ.out]
    by_cases hh : n = ls.length
    · simp [hh]
    · rw [decide_eq_false hh, beq_eq_false_iff_ne]
      omega

end Go.Proofs.YtbebhbcjdiahcaaDoor
