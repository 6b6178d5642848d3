/-
  Chapter 35, the order in which jobs are done: the library's sort of the program and the selection of the reference come to the same order.
-/
import Derived.Test.YtjecbapmdgnglaaDoorJobs
import Derived.Test.YtjecbapmdgnglaaDoorSort
import Derived.IntWalk
namespace Go.Proofs.YtjecbapmdgnglaaDoor
open Go.RowKit
set_option linter.unusedVariables false

/-- Job a is done before job b. -/
def jobLt (xs : List (Int × Int)) (a b : Int) : Bool := decide ((at2 xs a.toNat).1 * (at2 xs b.toNat).2 < (at2 xs b.toNat).1 * (at2 xs a.toNat).2)

theorem le_trans_ratio {ta la tb lb tc lc : Int} (ha : 1 ≤ ta) (hb : 1 ≤ tb) (hc : 1 ≤ tc) (h1 : ta * lb ≤ tb * la) (h2 : tb * lc ≤ tc * lb) : ta * lc ≤ tc * la := by
  have g1 : tc * (ta * lb) ≤ tc * (tb * la) := Int.mul_le_mul_of_nonneg_left h1 (by omega)
  have g2 : ta * (tb * lc) ≤ ta * (tc * lb) := Int.mul_le_mul_of_nonneg_left h2 (by omega)
  have e1 : tc * (ta * lb) = ta * (tc * lb) := by rw [Int.mul_left_comm]
  have e2 : ta * (tb * lc) = tb * (ta * lc) := by rw [Int.mul_left_comm]
  have e3 : tc * (tb * la) = tb * (tc * la) := by rw [Int.mul_left_comm]
  have g3 : tb * (ta * lc) ≤ tb * (tc * la) := by omega
  exact Int.le_of_mul_le_mul_left g3 (by omega)
theorem lt_trans_ratio {ta la tb lb tc lc : Int} (ha : 1 ≤ ta) (hb : 1 ≤ tb) (hc : 1 ≤ tc) (h1 : ta * lb ≤ tb * la) (h2 : tb * lc ≤ tc * lb) (h : ta * lb < tb * la ∨ tb * lc < tc * lb) : ta * lc < tc * la := by
  have e1 : tc * (ta * lb) = ta * (tc * lb) := by rw [Int.mul_left_comm]
  have e2 : ta * (tb * lc) = tb * (ta * lc) := by rw [Int.mul_left_comm]
  have e3 : tc * (tb * la) = tb * (tc * la) := by rw [Int.mul_left_comm]
  have g1 : tc * (ta * lb) ≤ tc * (tb * la) := Int.mul_le_mul_of_nonneg_left h1 (by omega)
  have g2 : ta * (tb * lc) ≤ ta * (tc * lb) := Int.mul_le_mul_of_nonneg_left h2 (by omega)
  have g3 : tb * (ta * lc) < tb * (tc * la) := by
    rcases h with h | h
    · have : tc * (ta * lb) < tc * (tb * la) := Int.mul_lt_mul_of_pos_left h (by omega)
      omega
    · have : ta * (tb * lc) < ta * (tc * lb) := Int.mul_lt_mul_of_pos_left h (by omega)
      omega
  exact Int.lt_of_mul_lt_mul_left g3 (by omega)
theorem job_rel {xs : List (Int × Int)} {a b : Int} (h : Rel (jobLt xs) xs.length a b) : (at2 xs a.toNat).1 * (at2 xs b.toNat).2 ≤ (at2 xs b.toNat).1 * (at2 xs a.toNat).2 ∧ ((at2 xs a.toNat).1 * (at2 xs b.toNat).2 < (at2 xs b.toNat).1 * (at2 xs a.toNat).2 ∨ a < b) := by
  obtain ⟨_, _, h | ⟨h1, h2⟩⟩ := h
  · have : (at2 xs a.toNat).1 * (at2 xs b.toNat).2 < (at2 xs b.toNat).1 * (at2 xs a.toNat).2 := by simpa [jobLt] using h
    exact ⟨by omega, .inl this⟩
  · have : ¬ (at2 xs b.toNat).1 * (at2 xs a.toNat).2 < (at2 xs a.toNat).1 * (at2 xs b.toNat).2 := by simpa [jobLt] using h1
    exact ⟨by omega, .inr h2⟩
theorem job_tr {xs : List (Int × Int)} (hv : jobB xs = true) (a b c : Int) (h1 : Rel (jobLt xs) xs.length a b) (h2 : Rel (jobLt xs) xs.length b c) : Rel (jobLt xs) xs.length a c := by
  obtain ⟨p1, p2⟩ := job_rel h1
  obtain ⟨q1, q2⟩ := job_rel h2
  have ha := h1.1
  have hb := h1.2.1
  have hc := h2.2.1
  have ta := (job_at hv a.toNat (by omega)).1.1
  have tb := (job_at hv b.toNat (by omega)).1.1
  have tc := (job_at hv c.toNat (by omega)).1.1
  refine ⟨ha, hc, ?_⟩
  have hle := le_trans_ratio ta tb tc p1 q1
  by_cases hs : (at2 xs a.toNat).1 * (at2 xs b.toNat).2 < (at2 xs b.toNat).1 * (at2 xs a.toNat).2 ∨ (at2 xs b.toNat).1 * (at2 xs c.toNat).2 < (at2 xs c.toNat).1 * (at2 xs b.toNat).2
  · left
    have := lt_trans_ratio ta tb tc p1 q1 hs
    simpa [jobLt] using this
  · right
    refine ⟨by simp [jobLt]; omega, ?_⟩
    have h3 : a < b := by
      rcases p2 with p2 | p2
      · exact absurd (.inl p2) hs
      · exact p2
    have h4 : b < c := by
      rcases q2 with q2 | q2
      · exact absurd (.inr q2) hs
      · exact q2
    omega
theorem job_asy {xs : List (Int × Int)} (a b : Int) (h1 : Rel (jobLt xs) xs.length a b) (h2 : Rel (jobLt xs) xs.length b a) : False := by
  obtain ⟨p1, p2⟩ := job_rel h1
  obtain ⟨q1, q2⟩ := job_rel h2
  omega
/-- The order of the jobs; none for jobs that are not valid. -/
def bestJobs (xs : List (Int × Int)) : List Int := if jobB xs then selF (jobLt xs) xs.length xs.length else []
theorem bestJobs_len {xs : List (Int × Int)} (h : jobB xs = true) : (bestJobs xs).length = xs.length := by
  unfold bestJobs
  rw [if_pos h]
  exact (sel_inv (job_tr h) xs.length (Nat.le_refl _)).1
def BJ (xs : List (Int × Int)) (ord : List Int) : Prop := ord = bestJobs xs
theorem BJ_unique {xs : List (Int × Int)} {a b : List Int} (ha : BJ xs a) (hb : BJ xs b) : a = b := by rw [ha, hb]
theorem BJ_len {xs : List (Int × Int)} {a : List Int} (ha : BJ xs a) : a.length ≤ 8 := by
  rw [ha]
  unfold bestJobs
  split
  · next h =>
    rw [(sel_inv (job_tr h) xs.length (Nat.le_refl _)).1]
    exact job_len h
  · simp

/-! ### the library's comparing and sorting -/
def cmpI (a b : Int) : Int := if a < b then -1 else if b < a then 1 else 0

theorem isNaN_any (a : Int) (w : World) : Calls Tryd.prog 106 #[.int .i64 a] w fun e w' => e = .returned (.bool false) ∧ w = w' := by
  go_enter Tryd.func106, Tryd.ntmps106
  go_wp2
  go_ret
  exact ⟨rfl, rfl⟩

theorem cmpCompare_any (a b : Int) (w : World) : Calls Tryd.prog 93 #[.int .i64 a, .int .i64 b] w fun e w' => e = .returned (.int .i64 (cmpI a b)) ∧ w = w' := by
  have hc : a < b ∨ ¬ a < b ∧ b < a ∨ ¬ a < b ∧ ¬ b < a := by omega
  rcases hc with h | ⟨h1, h2⟩ | ⟨h1, h2⟩
  all_goals
    go_enter Tryd.func93, Tryd.ntmps93
    go_wp2_with ((go_at_call 106; refine (isNaN_any _ _).mono ?_; rintro e w' ⟨rfl, rfl⟩))
    go_ret
    exact ⟨ret_int (by unfold cmpI; (repeat' split) <;> omega), rfl⟩

/-- A call that only reads. -/
def Quiet (v : Value) (w : World) (e : Ending) (w' : World) : Prop := e = .returned v ∧ ∃ n, w' = w.drewN n

theorem BestJobs1_any (xs : List (Int × Int)) (q A c) (a b : Nat) (w : World) (hv : jobB xs = true) (hq : w.cell? ⟨q, 0, none⟩ = some (.slice A xs.length c)) (h : Sl w w.heap.size 2 A xs.length (enc2 xs)) (ha : a < xs.length) (hb : b < xs.length) :
    Calls Tryd.prog 92 #[.int .i64 a, .int .i64 b, .pointer (some ⟨q, 0, none⟩)] w (Quiet (.int .i64 (cmpI ((at2 xs a).1 * (at2 xs b).2) ((at2 xs b).1 * (at2 xs a).2))) w) := by
  obtain ⟨bb, off, rfl, hbb, ca, da⟩ := h.two a ha
  obtain ⟨bb', off', hA, _, cb, db⟩ := h.two b hb
  simp at hA
  obtain ⟨rfl, rfl⟩ := hA
  have a0 : (0 : Int) ≤ a := by omega
  have a1 : (a : Int) < xs.length := by omega
  have b0 : (0 : Int) ≤ b := by omega
  have b1 : (b : Int) < xs.length := by omega
  obtain ⟨⟨u1, u2⟩, u3, u4⟩ := job_at hv a ha
  obtain ⟨⟨v1, v2⟩, v3, v4⟩ := job_at hv b hb
  obtain ⟨r1, r2⟩ := mul_in (a := (at2 xs a).1) (b := (at2 xs b).2) (m := 999) (n := 999) (by omega) (by omega) (by omega)
  obtain ⟨s1, s2⟩ := mul_in (a := (at2 xs b).1) (b := (at2 xs a).2) (m := 999) (n := 999) (by omega) (by omega) (by omega)
  go_enter Tryd.func92, Tryd.ntmps92
  go_wp2_with fail
  go_quiet ((go_at_call 93; exact quiet_left (cmpCompare_any _ _ _)))
  go_wp2_with fail
  go_ret
  exact ⟨rfl, _, rfl⟩

theorem quiet_drew {P : Program} {f : FuncId} {args : Array Value} {w : World} {n : Nat} {v : Value} (h : Calls P f args (w.drewN n) (Quiet v (w.drewN n))) : Calls P f args (w.drewN n) fun e w'' => e = .returned v ∧ ∃ m, w'' = w.drewN m :=
  h.mono fun _ _ ⟨he, m, hm⟩ => ⟨he, n + m, by rw [hm, World.drewN_drewN]⟩

theorem jobLt_cmp (xs : List (Int × Int)) (a b : Nat) : jobLt xs a b = decide (cmpI ((at2 xs a).1 * (at2 xs b).2) ((at2 xs b).1 * (at2 xs a).2) < 0) := by
  unfold jobLt cmpI
  simp only [Int.toNat_natCast]
  rw [decide_eq_decide]
  (repeat' split) <;> omega

theorem swapL_at (l : List Int) (j : Nat) (hj : j + 1 < l.length) : ((encI l).set (j + 1) (.int .i64 (at_ l j))).set j (.int .i64 (at_ l (j + 1))) = encI (swapL l (j + 1)) := by
  simp [encI, swapL, List.map_set]
theorem swapL_dom {l : List Int} {P : Int → Prop} {j : Nat} (hj : j + 1 < l.length) (h : ∀ x ∈ l, P x) : ∀ x ∈ swapL l (j + 1), P x := by
  intro x hx
  unfold swapL at hx
  have h1 := List.mem_or_eq_of_mem_set hx
  rcases h1 with h1 | rfl
  · have h2 := List.mem_or_eq_of_mem_set h1
    rcases h2 with h2 | rfl
    · exact h x h2
    · exact h _ (mem_at _ (by simp; omega))
  · exact h _ (mem_at _ hj)

set_option maxHeartbeats 1000000 in
theorem insJobs_any (xs : List (Int × Int)) (l : List Int) (g q : Nat) (A : Option Addr) (c n : Nat) (w : World) (hv : jobB xs = true) (hn : l.length = n) (hn8 : n ≤ 8) (hq : w.cell? ⟨q, 0, none⟩ = some (.slice A xs.length c)) (hqg : q < g) (h : Sl w g 2 A xs.length (enc2 xs))
    (hd : ∀ x ∈ l, 0 ≤ x ∧ x < xs.length) (ho : w.ownsRow g 3 1 (.slice (some ⟨g, 0, none⟩) n n) n (encI l)) :
    Calls Tryd.prog 111 #[.slice (some ⟨g, 0, none⟩) n n, .int .i64 0, .int .i64 n, .func (.func 92) #[] #[.pointer (some ⟨q, 0, none⟩)]] w fun e w' => (∃ v, e = .returned v) ∧ w'.ownsRow g 3 1 (.slice (some ⟨g, 0, none⟩) n n) n (encI (srt (jobLt xs) l (n - 1))) ∧ Below g w w' := by
  have HN := hide hn
  have HO := hide ho
  have HD := hide hd
  clear hn ho hd
  go_enter Tryd.func111, Tryd.ntmps111
  go_wp2_with fail
  go_loopw [8] (fun i wr => ∃ k : Nat, k ≤ n - 1 ∧ i = .int .i64 ((k : Int) + 1) ∧ wr.ownsRow g 3 1 (.slice (some ⟨g, 0, none⟩) n n) n (encI (srt (jobLt xs) l k)) ∧ (∀ x ∈ srt (jobLt xs) l k, 0 ≤ x ∧ x < xs.length) ∧ Below g w wr) (fun i _ => n + 1 - (intOf i).toNat)
  case atStart => exact ⟨0, Nat.zero_le _, rfl, HO.out, HD.out, Below.refl _ _⟩
  case round =>
    obtain ⟨k, hk, rfl, ho, hd, hbl⟩ := hrel
    by_cases hlt : k + 1 < n
    · have HO1 := hide ho
      have HD1 := hide hd
      have HB1 := hide hbl
      clear ho hd hbl
      obtain ⟨wo, rfl⟩ : ∃ wo : World, wo = wr := ⟨_, rfl⟩
      go_wp2_with fail
      go_loopw [9] (fun i wr => ∃ (j : Nat) (d : List Int), j ≤ k + 1 ∧ i = .int .i64 j ∧ d.length = n ∧ inn (jobLt xs) d j = srt (jobLt xs) l (k + 1) ∧ wr.ownsRow g 3 1 (.slice (some ⟨g, 0, none⟩) n n) n (encI d) ∧ (∀ x ∈ d, 0 ≤ x ∧ x < xs.length) ∧ Below g w wr) (fun i _ => (intOf i).toNat)
      case atStart => exact ⟨k + 1, srt (jobLt xs) l k, Nat.le_refl _, by go_num, by rw [srt_len, HN.out], rfl, HO1.out, HD1.out, HB1.out⟩
      case round =>
        obtain ⟨j, d, hj, rfl, hdl, hinn, ho, hd, hbl⟩ := hrel
        have HDL := hide hdl
        have HI := hide hinn
        have HO2 := hide ho
        have HD2 := hide hd
        have HB2 := hide hbl
        clear hdl hinn hd
        cases j with
        | zero =>
          clear ho hbl
          go_wp2_with fail
          go_quiet (fail)
          go_wp2_with fail
          refine ⟨⟨k + 1, by omega, by go_num, ?_, ?_, below_drewN HB2.out _⟩, by simp [intOf]; omega⟩
          · rw [← HI.out]
            exact HO2.out
          · rw [← HI.out]
            exact HD2.out
        | succ j =>
          have hq2 := (hbl.cell (p := ⟨q, 0, none⟩) hqg).trans hq
          have hgs : g ≤ wr.heap.size := by
            have := ho.lt g rfl
            omega
          have S2 := hide ((h.below hbl).more hgs)
          have ca := ho.cellAt (j + 1) (by omega)
          have cb := ho.cellAt j (by omega)
          rw [encI_at d (j + 1) (by rw [HDL.out]; omega)] at ca
          rw [encI_at d j (by rw [HDL.out]; omega)] at cb
          have fa := ho.frozenAt (j + 1)
          have fb := ho.frozenAt j
          have da := HD2.out _ (mem_at (xs := d) (j + 1) (by rw [HDL.out]; omega))
          have db := HD2.out _ (mem_at (xs := d) j (by rw [HDL.out]; omega))
          obtain ⟨a, ea⟩ := Int.eq_ofNat_of_zero_le da.1
          obtain ⟨b, eb⟩ := Int.eq_ofNat_of_zero_le db.1
          have la : a < xs.length := by omega
          have lb : b < xs.length := by omega
          rw [ea] at ca
          rw [eb] at cb
          have EA := hide ea
          have EB := hide eb
          clear ea eb da db ho hbl
          have i0 : (0 : Int) ≤ j := by omega
          have i1 : (j : Int) + 1 < n := by omega
          have i2 : (0 : Int) ≤ (j : Int) + 1 := by omega
          cases hl : jobLt xs a b
          · have hcm : decide (cmpI ((at2 xs a).1 * (at2 xs b).2) ((at2 xs b).1 * (at2 xs a).2) < 0) = false := by rw [← jobLt_cmp]; exact hl
            have HI2 := hide (show inn (jobLt xs) d (j + 1) = d from inn_no (by rw [EA.out, EB.out]; exact hl))
            clear hl
            go_wp2_with fail
            go_quiet ((go_at_call 92; exact quiet_drew (BestJobs1_any xs q A c a b _ hv hq2 S2.out la lb)))
            go_wp2_with fail
            refine ⟨⟨k + 1, by omega, by go_num, ?_, ?_, below_drewN HB2.out _⟩, by simp [intOf]; omega⟩
            · rw [← HI.out, HI2.out]
              exact HO2.out
            · rw [← HI.out, HI2.out]
              exact HD2.out
          · have hcm : decide (cmpI ((at2 xs a).1 * (at2 xs b).2) ((at2 xs b).1 * (at2 xs a).2) < 0) = true := by rw [← jobLt_cmp]; exact hl
            have HI2 := hide (show inn (jobLt xs) d (j + 1) = inn (jobLt xs) (swapL d (j + 1)) j from inn_yes (by rw [EA.out, EB.out]; exact hl))
            clear hl
            go_wp2_with fail
            go_quiet ((go_at_call 92; exact quiet_drew (BestJobs1_any xs q A c a b _ hv hq2 S2.out la lb)))
            go_wp2_with fail
            go_region
            all_goals go_wp2_with fail
            refine ⟨⟨j, swapL d (j + 1), by omega, rfl, by rw [swapL_len, HDL.out], by rw [← HI2.out, HI.out], ?_, swapL_dom (by rw [HDL.out]; omega) HD2.out, ?_⟩, by simp [intOf]⟩
            · have hO : (wr.drewN (nq + 1)).ownsRow g 3 1 (.slice (some ⟨g, 0, none⟩) n n) n (encI d) := HO2.out
              rw [← swapL_at d j (by rw [HDL.out]; omega), EA.out, EB.out]
              exact ((hO.stored (j + 1) _).1.stored j _).1
            · exact ((below_drewN HB2.out _).setCell (Nat.le_refl _) _).setCell (Nat.le_refl _) _
    · go_wp2_with fail
      obtain rfl | hk2 : k = n - 1 ∨ n - 1 ≠ k := by omega
      · go_end0
        exact ⟨⟨_, rfl⟩, ho, hbl⟩
      · omega

theorem stableJobs_any (xs : List (Int × Int)) (l : List Int) (g q : Nat) (A : Option Addr) (c n : Nat) (w : World) (hv : jobB xs = true) (hn : l.length = n) (hn8 : n ≤ 8) (hq : w.cell? ⟨q, 0, none⟩ = some (.slice A xs.length c)) (hqg : q < g) (h : Sl w g 2 A xs.length (enc2 xs))
    (hd : ∀ x ∈ l, 0 ≤ x ∧ x < xs.length) (ho : w.ownsRow g 3 1 (.slice (some ⟨g, 0, none⟩) n n) n (encI l)) :
    Calls Tryd.prog 105 #[.slice (some ⟨g, 0, none⟩) n n, .int .i64 n, .func (.func 92) #[] #[.pointer (some ⟨q, 0, none⟩)]] w fun e w' => (∃ v, e = .returned v) ∧ w'.ownsRow g 3 1 (.slice (some ⟨g, 0, none⟩) n n) n (encI (srt (jobLt xs) l (n - 1))) ∧ Below g w w' := by
  have HC := hide (insJobs_any xs l g q A c n w hv hn hn8 hq hqg h hd ho)
  clear hn hd ho hq h
  go_enter Tryd.func105, Tryd.ntmps105
  go_wp2_with fail
  go_loopw [7, 8] (fun a b wr => a = .int .i64 0 ∧ b = .int .i64 20 ∧ wr = w) (fun _ _ _ => 0)
  case atStart => exact ⟨rfl, rfl, rfl⟩
  case round =>
    obtain ⟨rfl, rfl, rfl⟩ := hrel
    go_wp2_with fail
    refine HC.out.mono ?_
    rintro e w1 ⟨⟨v, rfl⟩, ho1, hb1⟩
    have HO := hide ho1
    have HB := hide hb1
    clear ho1 hb1
    go_wp2_with fail
    go_loopw [6, 7, 8, 9] (fun s a b c wr => s = .int .i64 20 ∧ wr = w1) (fun _ _ _ _ _ => 0)
    case atStart => exact ⟨rfl, rfl⟩
    case round =>
      obtain ⟨rfl, rfl⟩ := hrel
      go_wp2_with fail
      go_end0
      exact ⟨⟨_, rfl⟩, HO.out, HB.out⟩

theorem sortJobs_any (xs : List (Int × Int)) (l : List Int) (g q : Nat) (A : Option Addr) (c n : Nat) (w : World) (hv : jobB xs = true) (hn : l.length = n) (hn8 : n ≤ 8) (hq : w.cell? ⟨q, 0, none⟩ = some (.slice A xs.length c)) (hqg : q < g) (h : Sl w g 2 A xs.length (enc2 xs))
    (hd : ∀ x ∈ l, 0 ≤ x ∧ x < xs.length) (ho : w.ownsRow g 3 1 (.slice (some ⟨g, 0, none⟩) n n) n (encI l)) :
    Calls Tryd.prog 91 #[.slice (some ⟨g, 0, none⟩) n n, .func (.func 92) #[] #[.pointer (some ⟨q, 0, none⟩)]] w fun e w' => (∃ v, e = .returned v) ∧ w'.ownsRow g 3 1 (.slice (some ⟨g, 0, none⟩) n n) n (encI (srt (jobLt xs) l (n - 1))) ∧ Below g w w' := by
  have HC := hide (stableJobs_any xs l g q A c n w hv hn hn8 hq hqg h hd ho)
  clear hn hd ho hq h
  go_enter Tryd.func91, Tryd.ntmps91
  go_wp2_with fail
  refine HC.out.mono ?_
  rintro e w1 ⟨⟨v, rfl⟩, ho1, hb1⟩
  have HO := hide ho1
  have HB := hide hb1
  clear ho1 hb1
  go_wp2_with fail
  go_end0
  exact ⟨⟨_, rfl⟩, HO.out, HB.out⟩

theorem implBestJobs_any (A : Option Addr) (c : Nat) (xs : List (Int × Int)) (w : World) (h : Sl w w.heap.size 2 A xs.length (enc2 xs)) (hm : xs.length ≤ 1048576) :
    Calls Tryd.prog 51 #[.slice A xs.length c] w (MadeInts (BJ xs) w) := by
  have bw := (Below.refl _ w).alloc (Nat.le_refl _) (.cells #[.slice A xs.length c] 57)
  have B0 := Blk.new w 57 #[.slice A xs.length c]
  cases h1 : jobB xs
  · go_enter Tryd.func51, Tryd.ntmps51
    go_wp2_with fail
    refine (implJobsValid_any _ _ _ _ (h.to bw) hm).mono ?_
    rintro e w1 ⟨rfl, hb1⟩
    rw [h1]
    go_wp2_with fail
    go_ret
    exact ⟨[], _, _, by unfold BJ bestJobs; rw [h1]; rfl, rfl, World.ownsRow_nil _ _ _ _, bw.then hb1⟩
  · have hmk := run_make_z (P := Tryd.prog) 24 3 _ 1 8 Tryd.underlying24 infoI rfl (by omega) xs.length xs.length (Nat.le_refl _) (by omega) (by omega)
    have hl8 := job_len h1
    go_enter Tryd.func51, Tryd.ntmps51
    go_wp2_with fail
    refine (implJobsValid_any _ _ _ _ (h.to bw) hm).mono ?_
    rintro e w1 ⟨rfl, hb1⟩
    rw [h1]
    have b1 := B0.to hb1
    have c1 : w1.cell? ⟨w.heap.size, 0, none⟩ = some (.slice A xs.length c) := b1.cell 0
    have HK := hide (bw.then hb1)
    have HO := hide (own_made (w := w1) (e := 3) (size := 1) (n := xs.length) (cs := encI (idxs xs.length)) (by simp [encI_len, idxs_len]) (by unfold maxLen; omega))
    have hz1 := b1.lt
    have HB1 := hide b1
    have HV := hide h1
    clear bw hb1 B0 b1 h1
    go_wp2_with fail
    go_loopw [13] (fun i wr => ∃ k : Nat, k ≤ xs.length ∧ i = .int .i64 k ∧ wr.ownsRow w1.heap.size 3 1 (.slice (some ⟨w1.heap.size, 0, none⟩) xs.length xs.length) xs.length (part (encI (idxs xs.length)) k) ∧ Below w1.heap.size w1 wr) (fun i _ => xs.length - (intOf i).toNat)
    case atStart => exact ⟨0, Nat.zero_le _, rfl, by simpa using HO.out, (Below.refl _ _).alloc (Nat.le_refl _) _⟩
    case round =>
      obtain ⟨k, hk, rfl, hown, hb⟩ := hrel
      clear hmk
      by_cases hlt : k < xs.length
      · have hf := hown.frozenAt k
        obtain ⟨u, hs⟩ := own_cell hown k (by omega)
        have HO2 := hide hown
        have HB := hide hb
        clear hown hb
        go_wp2_with fail
        go_roundw
        case rel =>
          refine ⟨k + 1, by omega, by go_num, ?_, HB.out.setCell (Nat.le_refl _) _⟩
          rw [← part_set _ _ _ (encI_at (idxs xs.length) k (by rw [idxs_len]; exact hlt)), idxs_at _ _ hlt]
          exact (HO2.out.stored k _).1
        case measure => simp [intOf]; omega
      · rw [part_all _ _ (by simp [encI_len, idxs_len]; omega)] at hown
        have hq2 := (hb.cell (p := ⟨w.heap.size, 0, none⟩) hz1).trans c1
        have S2 := ((h.to HK.out).below hb)
        have hle := HK.out.size
        have HB := hide hb
        go_wp2_with fail
        refine (sortJobs_any xs (idxs xs.length) w1.heap.size w.heap.size A c xs.length wr HV.out (idxs_len _) hl8 hq2 hz1 S2 (fun x hx => (idxs_mem _ x).1 hx) hown).mono ?_
        rintro e w3 ⟨⟨v, rfl⟩, ho3, hb3⟩
        have HO3 := hide ho3
        have HB3 := hide hb3
        clear ho3 hb3 hown hb S2
        go_wp2_with fail
        go_ret
        refine ⟨bestJobs xs, some ⟨w1.heap.size, 0, none⟩, xs.length, rfl, ?_, ?_, ?_⟩
        · rw [bestJobs_len HV.out]
          rfl
        · rw [bestJobs_len HV.out]
          have := HO3.out
          rw [srt_eq_sel (job_tr HV.out) job_asy] at this
          unfold bestJobs
          rw [if_pos HV.out]
          exact own_mono this hle
        · exact (HK.out.trans (HB.out.mono hle)).trans (HB3.out.mono hle)

end Go.Proofs.YtjecbapmdgnglaaDoor
