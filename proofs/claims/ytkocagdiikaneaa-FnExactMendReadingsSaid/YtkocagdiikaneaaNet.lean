/-
  Chapter 1 (lines), the program's side: which networks are valid, the other end of a line; and the fixed answer that the laws ask for ('alive').
-/
import Derived.Test.YtkocagdiikaneaaLeaf
import Derived.Test.YtkocagdiikaneaaOpen
namespace Go.Proofs.Ytkocagdiikaneaa
open Go.RowKit
set_option linter.unusedVariables false

/-- A line of a network with b buses is as it has to be. -/
def lineOk (b : Int) (x : Int × Int × Int) : Bool := inB x.1 0 (b - 1) && inB x.2.1 0 (b - 1) && decide (x.1 ≠ x.2.1) && inB x.2.2 1 999
def netB (b : Int) (ls : List (Int × Int × Int)) : Bool := inB b 1 8 && decide (ls.length ≤ 10) && ls.all (lineOk b)
theorem netB_no {b : Int} {ls : List (Int × Int × Int)} (k : Nat) (hk : k < ls.length) (h : lineOk b (at3 ls k) = false) : netB b ls = false := by
  unfold netB
  rw [all_no _ _ k hk (by rw [← at3_eq ls k hk]; exact h)]
  simp
theorem netB_yes {b : Int} {ls : List (Int × Int × Int)} (h1 : inB b 1 8 = true) (h2 : ls.length ≤ 10) (h3 : ∀ j, j < ls.length → lineOk b (at3 ls j) = true) : netB b ls = true := by
  unfold netB
  rw [h1]
  simp only [h2, decide_true, Bool.and_self, Bool.true_and, List.all_eq_true]
  intro x hx
  obtain ⟨j, hj, rfl⟩ := List.getElem_of_mem hx
  rw [← at3_eq ls j hj]
  exact h3 j hj
theorem line_cases (b : Int) (x : Int × Int × Int) : (inB x.1 0 (b - 1) = false ∧ lineOk b x = false) ∨ (inB x.1 0 (b - 1) = true ∧ inB x.2.1 0 (b - 1) = false ∧ lineOk b x = false) ∨
    (inB x.1 0 (b - 1) = true ∧ inB x.2.1 0 (b - 1) = true ∧ (x.1 == x.2.1) = true ∧ lineOk b x = false) ∨ (inB x.1 0 (b - 1) = true ∧ inB x.2.1 0 (b - 1) = true ∧ (x.1 == x.2.1) = false ∧ x.2.2 < 1 ∧ lineOk b x = false) ∨
    (inB x.1 0 (b - 1) = true ∧ inB x.2.1 0 (b - 1) = true ∧ (x.1 == x.2.1) = false ∧ 1 ≤ x.2.2 ∧ 999 < x.2.2 ∧ lineOk b x = false) ∨ (inB x.1 0 (b - 1) = true ∧ inB x.2.1 0 (b - 1) = true ∧ (x.1 == x.2.1) = false ∧ 1 ≤ x.2.2 ∧ x.2.2 ≤ 999 ∧ lineOk b x = true) := by
  cases h1 : inB x.1 0 (b - 1)
  · exact .inl ⟨rfl, by simp [lineOk, h1]⟩
  · cases h2 : inB x.2.1 0 (b - 1)
    · exact .inr (.inl ⟨rfl, rfl, by simp [lineOk, h2]⟩)
    · by_cases h3 : x.1 = x.2.1
      · exact .inr (.inr (.inl ⟨rfl, rfl, by simp [h3], by simp [lineOk, h3]⟩))
      · by_cases h4 : x.2.2 < 1
        · have : inB x.2.2 1 999 = false := inB_no (.inl h4)
          exact .inr (.inr (.inr (.inl ⟨rfl, rfl, by simp [h3], h4, by simp [lineOk, this]⟩)))
        · by_cases h5 : 999 < x.2.2
          · have : inB x.2.2 1 999 = false := inB_no (.inr h5)
            exact .inr (.inr (.inr (.inr (.inl ⟨rfl, rfl, by simp [h3], by omega, h5, by simp [lineOk, this]⟩))))
          · have : inB x.2.2 1 999 = true := inB_mk (by omega) (by omega)
            exact .inr (.inr (.inr (.inr (.inr ⟨rfl, rfl, by simp [h3], by omega, by omega, by simp [lineOk, this, h1, h2, h3]⟩))))

theorem hasBus_any (b x : Int) (A : Option Addr) (n c : Nat) (w : World) :
    Calls Try.prog 75 #[.agg #[.int .i64 b, .slice A n c], .int .i64 x] w fun e w' => e = .returned (.bool (inB x 0 (b - 1))) ∧ Below w.heap.size w w' := by
  have hc : x < 0 ∨ 0 ≤ x ∧ x < b ∨ 0 ≤ x ∧ b ≤ x := by omega
  rcases hc with h | ⟨h1, h2⟩ | ⟨h1, h2⟩
  all_goals
    go_enter Try.func75, Try.ntmps75
    go_wp2
    go_ret
    exact ⟨ret_bool (by first | (symm; apply inB_mk <;> omega) | (symm; apply inB_no; omega) | (rw [Bool.eq_iff_iff]; simp [inB]; omega)), (Below.refl _ _).alloc (Nat.le_refl _) _⟩

/-- The other end of a line, -1 if it does not end at a bus. -/
def otherF (x : Int × Int × Int) (bus : Int) : Int := if bus = x.1 then x.2.1 else if bus = x.2.1 then x.1 else -1

theorem other_any (x : Int × Int × Int) (bus : Int) (w : World) :
    Calls Try.prog 51 #[.agg #[.int .i64 x.1, .int .i64 x.2.1, .int .i64 x.2.2], .int .i64 bus] w fun e w' => e = .returned (.int .i64 (otherF x bus)) ∧ Below w.heap.size w w' := by
  by_cases h1 : bus = x.1
  · have b1 : (bus == x.1) = true := by simp [h1]
    have b2 : (x.1 == bus) = true := by simp [h1]
    have H1 := hide h1
    clear h1
    go_enter Try.func51, Try.ntmps51
    go_wp2
    go_ret
    exact ⟨ret_int (by unfold otherF; rw [if_pos H1.out]), (Below.refl _ _).alloc (Nat.le_refl _) _⟩
  · have b1 : (bus == x.1) = false := by simp [h1]
    have b2 : (x.1 == bus) = false := by simp; exact fun h => h1 h.symm
    have H1 := hide h1
    clear h1
    by_cases h2 : bus = x.2.1
    · have b3 : (bus == x.2.1) = true := by simp [h2]
      have b4 : (x.2.1 == bus) = true := by simp [h2]
      have H2 := hide h2
      clear h2
      go_enter Try.func51, Try.ntmps51
      go_wp2
      go_ret
      exact ⟨ret_int (by unfold otherF; rw [if_neg H1.out, if_pos H2.out]), (Below.refl _ _).alloc (Nat.le_refl _) _⟩
    · have b3 : (bus == x.2.1) = false := by simp [h2]
      have b4 : (x.2.1 == bus) = false := by simp; exact fun h => h2 h.symm
      have H2 := hide h2
      clear h2
      go_enter Try.func51, Try.ntmps51
      go_wp2
      go_ret
      exact ⟨ret_int (by unfold otherF; rw [if_neg H1.out, if_neg H2.out]), (Below.refl _ _).alloc (Nat.le_refl _) _⟩

set_option maxHeartbeats 1000000 in
theorem implNetValid_any (b : Int) (A : Option Addr) (c : Nat) (ls : List (Int × Int × Int)) (w : World) (h : Sl w w.heap.size 3 A ls.length (enc3 ls)) (hm : ls.length ≤ 1048576) :
    Calls Try.prog 70 #[.agg #[.int .i64 b, .slice A ls.length c]] w fun e w' => e = .returned (.bool (netB b ls)) ∧ Below w.heap.size w w' := by
  have bw := (Below.refl _ w).alloc (Nat.le_refl _) (.cells #[.int .i64 b, .slice A ls.length c] 33)
  have B0 := Blk.new w 33 #[.int .i64 b, .slice A ls.length c]
  have hc : b < 1 ∨ 1 ≤ b ∧ 8 < b ∨ 1 ≤ b ∧ b ≤ 8 ∧ 10 < ls.length ∨ 1 ≤ b ∧ b ≤ 8 ∧ ls.length ≤ 10 := by omega
  rcases hc with h1 | ⟨h1, h2⟩ | ⟨h1, h2, h3⟩ | ⟨h1, h2, h3⟩
  · go_enter Try.func70, Try.ntmps70
    go_wp2
    go_ret
    exact ⟨ret_bool (by unfold netB; rw [inB_no (.inl h1)]; rfl), bw⟩
  · go_enter Try.func70, Try.ntmps70
    go_wp2
    go_ret
    exact ⟨ret_bool (by unfold netB; rw [inB_no (.inr h2)]; rfl), bw⟩
  · have HQ := hide (show netB b ls = false by have : ¬ ls.length ≤ 10 := by omega
                                               simp [netB, this])
    go_enter Try.func70, Try.ntmps70
    go_wp2
    go_ret
    exact ⟨ret_bool HQ.out.symm, bw⟩
  · have HI := hide (inB_mk h1 h2)
    have HB0 := hide B0
    have HBW := hide bw
    clear B0 bw
    go_enter Try.func70, Try.ntmps70
    go_wp2
    go_loopw [22] (fun i wr => ∃ k : Nat, k ≤ ls.length ∧ i = .int .i64 k ∧ (∀ j, j < k → lineOk b (at3 ls j) = true) ∧ Blk wr w.heap.size 33 #[.int .i64 b, .slice A ls.length c] ∧ Below w.heap.size w wr) (fun i _ => ls.length - (intOf i).toNat)
    case atStart => exact ⟨0, Nat.zero_le _, rfl, fun j hj => absurd hj (by omega), HB0.out, HBW.out⟩
    case round =>
      obtain ⟨k, hk, rfl, hall, hbk, hbl⟩ := hrel
      have H := hide hall
      clear hall
      by_cases hlt : k < ls.length
      · obtain ⟨b0, off, rfl, hb, hc0, hc1, hc2⟩ := h.three k hlt
        have d0 := (hbl.cell (p := ⟨b0, off + k * 3, none⟩) hb).trans hc0
        have d1 := (hbl.cell (p := ⟨b0, off + k * 3 + 1, none⟩) hb).trans hc1
        have d2 := (hbl.cell (p := ⟨b0, off + k * 3 + 2, none⟩) hb).trans hc2
        clear hc0 hc1 hc2
        have hal := (Below.refl _ wr).alloc (Nat.le_refl _) (.cells #[.int .i64 (at3 ls k).1, .int .i64 (at3 ls k).2.1, .int .i64 (at3 ls k).2.2] 76)
        have X0 := hide (Blk.new wr 76 #[.int .i64 (at3 ls k).1, .int .i64 (at3 ls k).2.1, .int .i64 (at3 ls k).2.2])
        have N0 := hide (hbk.to hal)
        have K0 := hide (hbl.trans (hal.mono hbl.size))
        obtain ⟨g0, g1⟩ := hbk.two
        have hz := hbk.lt
        clear hbk hbl hal
        have HS : Hid (lineOk b (at3 ls k) = true → ∀ j, j < k + 1 → lineOk b (at3 ls j) = true) := fun hh j hj => by
          by_cases hjk : j = k
          · subst hjk; exact hh
          · exact H.out j (by omega)
        rcases line_cases b (at3 ls k) with ⟨q1, q⟩ | ⟨q1, q2, q⟩ | ⟨q1, q2, q3, q⟩ | ⟨q1, q2, q3, q4, q⟩ | ⟨q1, q2, q3, q4, q5, q⟩ | ⟨q1, q2, q3, q4, q5, q⟩
        case inl =>
          have Q := hide q
          clear q
          go_wp2_with fail
          refine (hasBus_any _ _ _ _ _ _).mono ?_
          rintro e w1 ⟨rfl, hb1⟩
          rw [q1]
          have K1 := hide (K0.out.trans (hb1.mono (by have := K0.out.size; simpa using this)))
          clear hb1
          go_wp2_with fail
          go_ret
          exact ⟨ret_bool (netB_no k hlt Q.out).symm, K1.out⟩
        all_goals
          have Q := hide q
          clear q
          go_wp2_with fail
          refine (hasBus_any _ _ _ _ _ _).mono ?_
          rintro e w1 ⟨rfl, hb1⟩
          rw [q1]
          have X1 := X0.out.to hb1
          have N1 := N0.out.to hb1
          have K1 := hide (K0.out.trans (hb1.mono (by have := K0.out.size; simpa using this)))
          obtain ⟨p0, p1, p2⟩ := X1.three
          obtain ⟨p3, p4⟩ := N1.two
          have HX1 := hide X1
          have HN1 := hide N1
          clear hb1 X1 N1
          go_wp2_with fail
          refine (hasBus_any _ _ _ _ _ _).mono ?_
          rintro e w2 ⟨rfl, hb2⟩
          rw [q2]
          have X2 := HX1.out.to hb2
          have N2 := HN1.out.to hb2
          have K2 := hide (K1.out.trans (hb2.mono K1.out.size))
          obtain ⟨r0, r1, r2⟩ := X2.three
          have HN2 := hide N2
          clear hb2 X2 N2 p0 p1 p2 p3 p4
          go_wp2_with fail
          first
            | (go_ret; exact ⟨ret_bool (netB_no k hlt Q.out).symm, K2.out⟩)
            | (go_roundw
               case rel => exact ⟨k + 1, by omega, by go_num, HS.out Q.out, HN2.out, K2.out⟩
               case measure => simp [intOf]; omega)
      · go_wp2_with fail
        go_ret
        exact ⟨ret_bool (netB_yes HI.out h3 fun j hj => H.out j (by omega)).symm, hbl⟩

end Go.Proofs.Ytkocagdiikaneaa
