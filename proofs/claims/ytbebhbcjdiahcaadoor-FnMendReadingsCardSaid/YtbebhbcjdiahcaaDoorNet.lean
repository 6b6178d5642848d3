/-
  Chapter 1 (lines), the program's side: which networks are valid, the other end of a line; and the fixed answer that the laws ask for ('alive').
-/
import Derived.Test.YtbebhbcjdiahcaaDoorLeaf
import Derived.Test.YtbebhbcjdiahcaaDoorOpen
namespace Go.Proofs.YtbebhbcjdiahcaaDoor
open Go.RowKit
set_option linter.unusedVariables false

/-- A line of a network with b buses is as it has to be. -/
def lineOk (b : Int) (x : Int × Int × Int) : Bool := inB x.1 0 (b - 1) && inB x.2.1 0 (b - 1) && decide (x.1 ≠ x.2.1) && inB x.2.2 1 999
def netB (b : Int) (ls : List (Int × Int × Int)) : Bool := inB b 1 8 && decide (ls.length ≤ 10) && ls.all (lineOk b)
theorem netB_no {b : Int} {ls : List (Int × Int × Int)} (k : Nat) (hk : k < ls.length) (h : lineOk b (at3 ls k) = false) : netB b ls = false := by
  unfold netB
  rw [all_no _ _ k hk (by rw [← at3_eq ls k hk]; exact h)]
  simp
theorem netB_yes {b : Int} {ls : List (Int × Int × Int)} (h1 : inB b 1 8 = true) (h2 : ls.length ≤ 10) (h3 : ∀ j, j < ls.length → lineOk b (at3 ls j) = true) : netB b ls = true := by
  unfold netB
  rw [h1]
  simp only [h2, decide_true, Bool.and_self, Bool.true_and, List.all_eq_true]
  intro x hx
  obtain ⟨j, hj, rfl⟩ := List.getElem_of_mem hx
  rw [← at3_eq ls j hj]
  exact h3 j hj
theorem line_cases (b : Int) (x : Int × Int × Int) : (inB x.1 0 (b - 1) = false ∧ lineOk b x = false) ∨ (inB x.1 0 (b - 1) = true ∧ inB x.2.1 0 (b - 1) = false ∧ lineOk b x = false) ∨
    (inB x.1 0 (b - 1) = true ∧ inB x.2.1 0 (b - 1) = true ∧ (x.1 == x.2.1) = true ∧ lineOk b x = false) ∨ (inB x.1 0 (b - 1) = true ∧ inB x.2.1 0 (b - 1) = true ∧ (x.1 == x.2.1) = false ∧ x.2.2 < 1 ∧ lineOk b x = false) ∨
    (inB x.1 0 (b - 1) = true ∧ inB x.2.1 0 (b - 1) = true ∧ (x.1 == x.2.1) = false ∧ 1 ≤ x.2.2 ∧ 999 < x.2.2 ∧ lineOk b x = false) ∨ (inB x.1 0 (b - 1) = true ∧ inB x.2.1 0 (b - 1) = true ∧ (x.1 == x.2.1) = false ∧ 1 ≤ x.2.2 ∧ x.2.2 ≤ 999 ∧ lineOk b x = true) := by
  cases h1 : inB x.1 0 (b - 1)
  · exact .inl ⟨rfl, by simp [lineOk, h1]⟩
  · cases h2 : inB x.2.1 0 (b - 1)
    · exact .inr (.inl ⟨rfl, rfl, by simp [lineOk, h2]⟩)
    · by_cases h3 : x.1 = x.2.1
      · exact .inr (.inr (.inl ⟨rfl, rfl, by simp [h3], by simp [lineOk, h3]⟩))
      · by_cases h4 : x.2.2 < 1
        · have : inB x.2.2 1 999 = false := inB_no (.inl h4)
          exact .inr (.inr (.inr (.inl ⟨rfl, rfl, by simp [h3], h4, by simp [lineOk, this]⟩)))
        · by_cases h5 : 999 < x.2.2
          · have : inB x.2.2 1 999 = false := inB_no (.inr h5)
            exact .inr (.inr (.inr (.inr (.inl ⟨rfl, rfl, by simp [h3], by omega, h5, by simp [lineOk, this]⟩))))
          · have : inB x.2.2 1 999 = true := inB_mk (by omega) (by omega)
            exact .inr (.inr (.inr (.inr (.inr ⟨rfl, rfl, by simp [h3], by omega, by omega, by simp [lineOk, this, h1, h2, h3]⟩))))

theorem hasBus_any (b x : Int) (A : Option Addr) (n c : Nat) (w : World) :
    Calls Tryd.prog 36 #[.agg #[.int .i64 b, .slice A n c], .int .i64 x] w fun e w' => e = .returned (.bool (inB x 0 (b - 1))) ∧ Below w.heap.size w w' := by
  have hc : x < 0 ∨ 0 ≤ x ∧ x < b ∨ 0 ≤ x ∧ b ≤ x := by omega
  rcases hc with h | ⟨h1, h2⟩ | ⟨h1, h2⟩
  all_goals
    go_enter Tryd.func36, Tryd.ntmps36
    go_wp2
    go_ret
    exact ⟨ret_bool (by first | (symm; apply inB_mk <;> omega) | (symm; apply inB_no; omega) | (rw [Bool.eq_iff_iff]; simp [inB]; omega)), (Below.refl _ _).alloc (Nat.le_refl _) _⟩

theorem hasLine_any (b x : Int) (A : Option Addr) (n c : Nat) (w : World) :
    Calls Tryd.prog 42 #[.agg #[.int .i64 b, .slice A n c], .int .i64 x] w fun e w' => e = .returned (.bool (inB x 0 ((n : Int) - 1))) ∧ Below w.heap.size w w' := by
  have hc : x < 0 ∨ 0 ≤ x ∧ x < n ∨ 0 ≤ x ∧ (n : Int) ≤ x := by omega
  rcases hc with h | ⟨h1, h2⟩ | ⟨h1, h2⟩
  all_goals
    go_enter Tryd.func42, Tryd.ntmps42
    go_wp2
    go_ret
    exact ⟨ret_bool (by first | (symm; apply inB_mk <;> omega) | (symm; apply inB_no; omega) | (rw [Bool.eq_iff_iff]; simp [inB]; omega)), (Below.refl _ _).alloc (Nat.le_refl _) _⟩

/-- The other end of a line, -1 if it does not end at a bus. -/
def otherF (x : Int × Int × Int) (bus : Int) : Int := if bus = x.1 then x.2.1 else if bus = x.2.1 then x.1 else -1

theorem other_any (x : Int × Int × Int) (bus : Int) (w : World) :
    Calls Tryd.prog 51 #[.agg #[.int .i64 x.1, .int .i64 x.2.1, .int .i64 x.2.2], .int .i64 bus] w fun e w' => e = .returned (.int .i64 (otherF x bus)) ∧ Below w.heap.size w w' := by
  by_cases h1 : bus = x.1
  · have b1 : (bus == x.1) = true := by simp [h1]
    have b2 : (x.1 == bus) = true := by simp [h1]
    have H1 := hide h1
    clear h1
    go_enter Tryd.func51, Tryd.ntmps51
    go_wp2
    go_ret
    exact ⟨ret_int (by unfold otherF; rw [if_pos H1.out]), (Below.refl _ _).alloc (Nat.le_refl _) _⟩
  · have b1 : (bus == x.1) = false := by simp [h1]
    have b2 : (x.1 == bus) = false := by simp; exact fun h => h1 h.symm
    have H1 := hide h1
    clear h1
    by_cases h2 : bus = x.2.1
    · have b3 : (bus == x.2.1) = true := by simp [h2]
      have b4 : (x.2.1 == bus) = true := by simp [h2]
      have H2 := hide h2
      clear h2
      go_enter Tryd.func51, Tryd.ntmps51
      go_wp2
      go_ret
      exact ⟨ret_int (by unfold otherF; rw [if_neg H1.out, if_pos H2.out]), (Below.refl _ _).alloc (Nat.le_refl _) _⟩
    · have b3 : (bus == x.2.1) = false := by simp [h2]
      have b4 : (x.2.1 == bus) = false := by simp; exact fun h => h2 h.symm
      have H2 := hide h2
      clear h2
      go_enter Tryd.func51, Tryd.ntmps51
      go_wp2
      go_ret
      exact ⟨ret_int (by unfold otherF; rw [if_neg H1.out, if_neg H2.out]), (Below.refl _ _).alloc (Nat.le_refl _) _⟩

set_option maxHeartbeats 1000000 in
theorem implNetValid_any (b : Int) (A : Option Addr) (c : Nat) (ls : List (Int × Int × Int)) (w : World) (h : Sl w w.heap.size 3 A ls.length (enc3 ls)) (hm : ls.length ≤ 1048576) :
    Calls Tryd.prog 59 #[.agg #[.int .i64 b, .slice A ls.length c]] w fun e w' => e = .returned (.bool (netB b ls)) ∧ Below w.heap.size w w' := by
  have bw := (Below.refl _ w).alloc (Nat.le_refl _) (.cells #[.int .i64 b, .slice A ls.length c] 25)
  have B0 := Blk.new w 25 #[.int .i64 b, .slice A ls.length c]
  have hc : b < 1 ∨ 1 ≤ b ∧ 8 < b ∨ 1 ≤ b ∧ b ≤ 8 ∧ 10 < ls.length ∨ 1 ≤ b ∧ b ≤ 8 ∧ ls.length ≤ 10 := by omega
  rcases hc with h1 | ⟨h1, h2⟩ | ⟨h1, h2, h3⟩ | ⟨h1, h2, h3⟩
  · go_enter Tryd.func59, Tryd.ntmps59
    go_wp2
    go_ret
    exact ⟨ret_bool (by unfold netB; rw [inB_no (.inl h1)]; rfl), bw⟩
  · go_enter Tryd.func59, Tryd.ntmps59
    go_wp2
    go_ret
    exact ⟨ret_bool (by unfold netB; rw [inB_no (.inr h2)]; rfl), bw⟩
  · have HQ := hide (show netB b ls = false by have : ¬ ls.length ≤ 10 := by omega
                                               simp [netB, this])
    go_enter Tryd.func59, Tryd.ntmps59
    go_wp2
    go_ret
    exact ⟨ret_bool HQ.out.symm, bw⟩
  · have HI := hide (inB_mk h1 h2)
    have HB0 := hide B0
    have HBW := hide bw
    clear B0 bw
    go_enter Tryd.func59, Tryd.ntmps59
    go_wp2
    go_loopw [22] (fun i wr => ∃ k : Nat, k ≤ ls.length ∧ i = .int .i64 k ∧ (∀ j, j < k → lineOk b (at3 ls j) = true) ∧ Blk wr w.heap.size 25 #[.int .i64 b, .slice A ls.length c] ∧ Below w.heap.size w wr) (fun i _ => ls.length - (intOf i).toNat)
    case atStart => exact ⟨0, Nat.zero_le _, rfl, fun j hj => absurd hj (by omega), HB0.out, HBW.out⟩
    case round =>
      obtain ⟨k, hk, rfl, hall, hbk, hbl⟩ := hrel
      have H := hide hall
      clear hall
      by_cases hlt : k < ls.length
      · obtain ⟨b0, off, rfl, hb, hc0, hc1, hc2⟩ := h.three k hlt
        have d0 := (hbl.cell (p := ⟨b0, off + k * 3, none⟩) hb).trans hc0
        have d1 := (hbl.cell (p := ⟨b0, off + k * 3 + 1, none⟩) hb).trans hc1
        have d2 := (hbl.cell (p := ⟨b0, off + k * 3 + 2, none⟩) hb).trans hc2
        clear hc0 hc1 hc2
        have hal := (Below.refl _ wr).alloc (Nat.le_refl _) (.cells #[.int .i64 (at3 ls k).1, .int .i64 (at3 ls k).2.1, .int .i64 (at3 ls k).2.2] 60)
        have X0 := hide (Blk.new wr 60 #[.int .i64 (at3 ls k).1, .int .i64 (at3 ls k).2.1, .int .i64 (at3 ls k).2.2])
        have N0 := hide (hbk.to hal)
        have K0 := hide (hbl.trans (hal.mono hbl.size))
        obtain ⟨g0, g1⟩ := hbk.two
        have hz := hbk.lt
        clear hbk hbl hal
        have HS : Hid (lineOk b (at3 ls k) = true → ∀ j, j < k + 1 → lineOk b (at3 ls j) = true) := fun hh j hj => by
          by_cases hjk : j = k
          · subst hjk; exact hh
          · exact H.out j (by omega)
        rcases line_cases b (at3 ls k) with ⟨q1, q⟩ | ⟨q1, q2, q⟩ | ⟨q1, q2, q3, q⟩ | ⟨q1, q2, q3, q4, q⟩ | ⟨q1, q2, q3, q4, q5, q⟩ | ⟨q1, q2, q3, q4, q5, q⟩
        case inl =>
          have Q := hide q
          clear q
          go_wp2_with fail
          refine (hasBus_any _ _ _ _ _ _).mono ?_
          rintro e w1 ⟨rfl, hb1⟩
          rw [q1]
          have K1 := hide (K0.out.trans (hb1.mono (by have := K0.out.size; simpa using this)))
          clear hb1
          go_wp2_with fail
          go_ret
          exact ⟨ret_bool (netB_no k hlt Q.out).symm, K1.out⟩
        all_goals
          have Q := hide q
          clear q
          go_wp2_with fail
          refine (hasBus_any _ _ _ _ _ _).mono ?_
          rintro e w1 ⟨rfl, hb1⟩
          rw [q1]
          have X1 := X0.out.to hb1
          have N1 := N0.out.to hb1
          have K1 := hide (K0.out.trans (hb1.mono (by have := K0.out.size; simpa using this)))
          obtain ⟨p0, p1, p2⟩ := X1.three
          obtain ⟨p3, p4⟩ := N1.two
          have HX1 := hide X1
          have HN1 := hide N1
          clear hb1 X1 N1
          go_wp2_with fail
          refine (hasBus_any _ _ _ _ _ _).mono ?_
          rintro e w2 ⟨rfl, hb2⟩
          rw [q2]
          have X2 := HX1.out.to hb2
          have N2 := HN1.out.to hb2
          have K2 := hide (K1.out.trans (hb2.mono K1.out.size))
          obtain ⟨r0, r1, r2⟩ := X2.three
          have HN2 := hide N2
          clear hb2 X2 N2 p0 p1 p2 p3 p4
          go_wp2_with fail
          first
            | (go_ret; exact ⟨ret_bool (netB_no k hlt Q.out).symm, K2.out⟩)
            | (go_roundw
               case rel => exact ⟨k + 1, by omega, by go_num, HS.out Q.out, HN2.out, K2.out⟩
               case measure => simp [intOf]; omega)
      · go_wp2_with fail
        go_ret
        exact ⟨ret_bool (netB_yes HI.out h3 fun j hj => H.out j (by omega)).symm, hbl⟩

theorem implOtherEnd_any (b : Int) (A : Option Addr) (c : Nat) (ls : List (Int × Int × Int)) (line bus : Int) (w : World) (h : Sl w w.heap.size 3 A ls.length (enc3 ls)) (hm : ls.length ≤ 1048576) :
    Calls Tryd.prog 33 #[.agg #[.int .i64 b, .slice A ls.length c], .int .i64 line, .int .i64 bus] w fun e w' => e = .returned (.int .i64 (if netB b ls && inB line 0 ((ls.length : Int) - 1) then otherF (at3 ls line.toNat) bus else -1)) ∧ Below w.heap.size w w' := by
  have bw := (Below.refl _ w).alloc (Nat.le_refl _) (.cells #[.int .i64 b, .slice A ls.length c] 25)
  have B0 := Blk.new w 25 #[.int .i64 b, .slice A ls.length c]
  cases h1 : netB b ls
  · go_enter Tryd.func33, Tryd.ntmps33
    go_wp2_with fail
    refine (implNetValid_any _ _ _ _ _ (h.to bw) hm).mono ?_
    rintro e w1 ⟨rfl, hb1⟩
    rw [h1]
    have K := hide (bw.then hb1)
    clear bw hb1 B0
    go_wp2_with fail
    go_ret
    exact ⟨rfl, K.out⟩
  · cases h2 : inB line 0 ((ls.length : Int) - 1)
    · go_enter Tryd.func33, Tryd.ntmps33
      go_wp2_with fail
      refine (implNetValid_any _ _ _ _ _ (h.to bw) hm).mono ?_
      rintro e w1 ⟨rfl, hb1⟩
      rw [h1]
      obtain ⟨g0, g1⟩ := (B0.to hb1).two
      have K := bw.then hb1
      clear bw hb1 B0
      go_wp2_with fail
      refine (hasLine_any _ _ _ _ _ _).mono ?_
      rintro e w2 ⟨rfl, hb2⟩
      rw [h2]
      have K2 := hide (K.then hb2)
      clear K hb2
      go_wp2_with fail
      go_ret
      exact ⟨rfl, K2.out⟩
    · have hin := inB_true h2
      obtain ⟨m, rfl⟩ := Int.eq_ofNat_of_zero_le hin.1
      have hml : m < ls.length := by omega
      go_enter Tryd.func33, Tryd.ntmps33
      go_wp2_with fail
      refine (implNetValid_any _ _ _ _ _ (h.to bw) hm).mono ?_
      rintro e w1 ⟨rfl, hb1⟩
      rw [h1]
      have b1 := B0.to hb1
      obtain ⟨g0, g1⟩ := b1.two
      have K := bw.then hb1
      clear bw hb1 B0
      go_wp2_with fail
      refine (hasLine_any _ _ _ _ _ _).mono ?_
      rintro e w2 ⟨rfl, hb2⟩
      rw [h2]
      obtain ⟨p0, p1⟩ := (b1.to hb2).two
      have K2 := K.then hb2
      obtain ⟨b0, off, rfl, hb, hc0, hc1, hc2⟩ := h.three m hml
      have d0 := (K2.cell (p := ⟨b0, off + m * 3, none⟩) hb).trans hc0
      have d1 := (K2.cell (p := ⟨b0, off + m * 3 + 1, none⟩) hb).trans hc1
      have d2 := (K2.cell (p := ⟨b0, off + m * 3 + 2, none⟩) hb).trans hc2
      have HK2 := hide K2
      clear hc0 hc1 hc2 K hb2 b1 K2
      go_wp2_with fail
      refine (other_any _ _ _).mono ?_
      rintro e w3 ⟨rfl, hb3⟩
      have K3 := hide (HK2.out.then hb3)
      clear hb3
      go_wp2_with fail
      go_ret
      exact ⟨rfl, K3.out⟩

/-- The text of the zero network is empty. -/
theorem netText_zero (w : World) : Calls Tryd.prog 34 #[.agg #[.int .i64 0, .slice none 0 0]] w fun e w' => e = .returned (.string ⟨#[]⟩) ∧ Below w.heap.size w w' := by
  have bw := (Below.refl _ w).alloc (Nat.le_refl _) (.cells #[.int .i64 0, .slice none 0 0] 25)
  have h0 : Sl (w.alloc (.cells #[.int .i64 0, .slice none 0 0] 25)) (w.alloc (.cells #[.int .i64 0, .slice none 0 0] 25)).heap.size 3 none (List.length ([] : List (Int × Int × Int))) (enc3 []) := ⟨rfl, fun h => absurd h (by simp)⟩
  have hv : netB 0 [] = false := rfl
  have HC := hide (implNetValid_any 0 none 0 [] _ h0 (by simp))
  rw [hv] at HC
  go_enter Tryd.func34, Tryd.ntmps34
  go_wp2_with fail
  refine HC.out.mono ?_
  rintro e w1 ⟨rfl, hb1⟩
  have K := hide (bw.then hb1)
  clear bw hb1
  go_wp2_with fail
  go_ret
  exact ⟨rfl, K.out⟩

theorem alive_any (w : World) : Calls Tryd.prog 11 #[] w fun e w' => e = .returned (.bool true) ∧ Below w.heap.size w w' := by
  have bw := (Below.refl _ w).alloc (Nat.le_refl _) (.cells #[.int .i64 0, .int .i64 1, .int .i64 1] 60)
  have B0 := Blk.new w 60 #[.int .i64 0, .int .i64 1, .int .i64 1]
  have h0 : Sl (w.alloc (.cells #[.int .i64 0, .int .i64 1, .int .i64 1] 60)) (w.alloc (.cells #[.int .i64 0, .int .i64 1, .int .i64 1] 60)).heap.size 3 (some ⟨w.heap.size, 0, none⟩) (List.length [((0 : Int), (1 : Int), (1 : Int))]) (enc3 [(0, 1, 1)]) := by
    refine ⟨rfl, fun _ => ⟨w.heap.size, 0, rfl, by simp, fun j u hu => ?_⟩⟩
    have e : enc3 [(0, 1, 1)] = [.int .i64 0, .int .i64 1, .int .i64 1] := rfl
    rw [e] at hu
    rw [Nat.zero_add, B0.cell j, ← hu]
    simp
  have HC := hide (implOtherEnd_any 2 (some ⟨w.heap.size, 0, none⟩) 1 [(0, 1, 1)] 0 0 _ h0 (by simp))
  have hv : (if netB 2 [(0, 1, 1)] && inB 0 0 ((([((0 : Int), (1 : Int), (1 : Int))].length : Nat) : Int) - 1) then otherF (at3 [(0, 1, 1)] (0 : Int).toNat) 0 else -1) = 1 := by decide
  rw [hv] at HC
  clear hv h0 B0
  go_enter Tryd.func11, Tryd.ntmps11
  go_wp2_with fail
  refine HC.out.mono ?_
  rintro e w1 ⟨rfl, hb1⟩
  have K := bw.then hb1
  clear bw hb1
  go_wp2_with fail
  refine (netText_zero _).mono ?_
  rintro e w2 ⟨rfl, hb2⟩
  have K2 := hide (K.then hb2)
  clear K hb2
  go_wp2_with fail
  go_ret
  exact ⟨rfl, K2.out⟩

end Go.Proofs.YtbebhbcjdiahcaaDoor
