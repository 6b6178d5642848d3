/-
  The law FnPhaseNext over drawn loads and phases: the walk.
-/
import Derived.Test.YtjecbapmdgnglaaDoorFnPhaseSum
namespace Go.Proofs.YtjecbapmdgnglaaDoor
open Go.RowKit
set_option linter.unusedVariables false

theorem DrawPhaseNext_any (A : Option Addr) (c : Nat) (xs : List Int) (w : World) (h : Sl w w.heap.size 1 A xs.length (encU xs)) (hc : xs.length ≤ c) (hm : c ≤ maxLen) (hx : ∀ n ∈ xs, 0 ≤ n ∧ n ≤ 255) :
    Calls Tryd.prog 19 #[.slice A xs.length c] w (Got2I w) := by
  go_enter Tryd.func19, Tryd.ntmps19
  go_wp2_with fail
  refine (l20Open_any _ _ _ _ h hc hm hx).mono ?_
  rintro e w0 ⟨rfl, hr, hb⟩
  have hr0 : RdU w.heap.size w0 w.heap.size 0 := ⟨0, Nat.le_refl _, hr⟩
  have K := hide hb
  have hs := hb.size
  have hlt := hr0.lt
  clear hr hb hx
  go_wp2_with fail
  refine (l20Phases_any _ _ _ _ _ hr0 (by omega) (by omega) (by omega)).mono ?_
  rintro e w1 ⟨xs1, ys, D, d, E, f, h1, h2, h3, h4, rfl, h5, h6, h7, h8⟩
  have K1 := hide (K.out.trans (below_of_grown h8 (Nat.le_refl _) hlt))
  have H3 := hide h3
  have H4 := hide h4
  have H5 := hide (own_mono h5 hs)
  have H6 := hide (own_mono h6 hs)
  clear h3 h4 h5 h6 h7 h8 hr0
  go_wp2_with fail
  refine bodyPost_ret (v := .tuple #[.slice D xs1.length d, .slice E ys.length f]) (by simp [results, Tryd.results19, go_sem]) rfl ?_
  exact ⟨xs1, ys, D, d, E, f, h1, h2, H3.out, H4.out, rfl, H5.out, H6.out, K1.out⟩

theorem DrawImbalance_any (A : Option Addr) (c : Nat) (xs : List Int) (w : World) (h : Sl w w.heap.size 1 A xs.length (encU xs)) (hc : xs.length ≤ c) (hm : c ≤ maxLen) (hx : ∀ n ∈ xs, 0 ≤ n ∧ n ≤ 255) :
    Calls Tryd.prog 24 #[.slice A xs.length c] w (Got2I w) := by
  go_enter Tryd.func24, Tryd.ntmps24
  go_wp2_with fail
  refine (l20Open_any _ _ _ _ h hc hm hx).mono ?_
  rintro e w0 ⟨rfl, hr, hb⟩
  have hr0 : RdU w.heap.size w0 w.heap.size 0 := ⟨0, Nat.le_refl _, hr⟩
  have K := hide hb
  have hs := hb.size
  have hlt := hr0.lt
  clear hr hb hx
  go_wp2_with fail
  refine (l20Phases_any _ _ _ _ _ hr0 (by omega) (by omega) (by omega)).mono ?_
  rintro e w1 ⟨xs1, ys, D, d, E, f, h1, h2, h3, h4, rfl, h5, h6, h7, h8⟩
  have K1 := hide (K.out.trans (below_of_grown h8 (Nat.le_refl _) hlt))
  have H3 := hide h3
  have H4 := hide h4
  have H5 := hide (own_mono h5 hs)
  have H6 := hide (own_mono h6 hs)
  clear h3 h4 h5 h6 h7 h8 hr0
  go_wp2_with fail
  refine bodyPost_ret (v := .tuple #[.slice D xs1.length d, .slice E ys.length f]) (by simp [results, Tryd.results24, go_sem]) rfl ?_
  exact ⟨xs1, ys, D, d, E, f, h1, h2, H3.out, H4.out, rfl, H5.out, H6.out, K1.out⟩

theorem phOk_parts {xs ys : List Int} (h : phOk xs ys = true) : tapsB xs = true ∧ ys.length = xs.length ∧ ∀ y ∈ ys, 0 ≤ y ∧ y ≤ 2 := by
  simp only [phOk, Bool.and_eq_true, decide_eq_true_eq, List.all_eq_true] at h
  exact ⟨h.1.1, h.1.2, fun y hy => inB_true (h.2 y hy)⟩
theorem phOk_mk {xs ys : List Int} (h1 : tapsB xs = true) (h2 : ys.length = xs.length) (h3 : ∀ y ∈ ys, 0 ≤ y ∧ y ≤ 2) : phOk xs ys = true := by
  simp only [phOk, Bool.and_eq_true, decide_eq_true_eq, List.all_eq_true]
  exact ⟨⟨h1, h2⟩, fun y hy => inB_mk (h3 y hy).1 (h3 y hy).2⟩
theorem phSum_app (xs ys : List Int) (l x : Int) (ph : Int) (h : ys.length = xs.length) : phSum (xs ++ [l]) (ys ++ [x]) ph (xs ++ [l]).length = phSum xs ys ph xs.length + if x = ph then l else 0 := by
  have e : ∀ k, k ≤ xs.length → phSum (xs ++ [l]) (ys ++ [x]) ph k = phSum xs ys ph k := by
    intro k
    induction k with
    | zero => intro; rfl
    | succ k ih =>
      intro hk
      have a1 : at_ (xs ++ [l]) k = at_ xs k := by simp [at_, List.getElem?_append_left (show k < xs.length by omega)]
      have a2 : at_ (ys ++ [x]) k = at_ ys k := by simp [at_, List.getElem?_append_left (show k < ys.length by omega)]
      unfold phSum
      rw [ih (by omega), a1, a2]
  have b1 : at_ (xs ++ [l]) xs.length = l := by simp [at_]
  have b2 : at_ (ys ++ [x]) xs.length = x := by rw [← h]; simp [at_]
  rw [show (xs ++ [l]).length = xs.length + 1 by simp]
  show phSum (xs ++ [l]) (ys ++ [x]) ph xs.length + _ = _
  rw [e _ (Nat.le_refl _), b1, b2]
theorem taps_snoc {xs : List Int} {l : Int} (h : tapsB xs = true) (h1 : ¬ xs.length = 6) (h2 : 0 ≤ l) (h3 : l ≤ 999) : tapsB (xs ++ [l]) = true := by
  have := taps_len h
  simp only [tapsB, Bool.and_eq_true, decide_eq_true_eq, List.all_eq_true] at h ⊢
  refine ⟨by simp; omega, fun x hx => ?_⟩
  rcases List.mem_append.1 hx with g | g
  · exact h.2 x g
  · simp at g; subst g; exact inB_mk h2 h3

theorem imbB_yes {xs ys : List Int} (h : phOk xs ys = true) : imbB xs ys = imb (phSum xs ys 0 xs.length) (phSum xs ys 1 xs.length) (phSum xs ys 2 xs.length) := by unfold imbB; rw [h]; rfl

/-- What the law says of the next phase, in numbers. -/
theorem next_law {xs ys : List Int} (h : phOk xs ys = true) : ∃ x l : Int, phNextB xs ys = x ∧ imbB xs ys = l ∧ (0 ≤ x ∧ x ≤ 2) ∧ (0 ≤ l ∧ l ≤ 5994) ∧ (∀ k : Int, 0 ≤ k → k ≤ 2 → phSum xs ys x xs.length ≤ phSum xs ys k xs.length) ∧
    (¬ xs.length = 6 → l ≤ 999 → imbB (xs ++ [l]) (ys ++ [x]) ≤ l) := by
  obtain ⟨h1, h2, h3⟩ := phOk_parts h
  obtain ⟨p1, p2⟩ := phSum_le h 0
  obtain ⟨q1, q2⟩ := phSum_le h 1
  obtain ⟨r1, r2⟩ := phSum_le h 2
  refine ⟨phNextB xs ys, imbB xs ys, rfl, rfl, ?_⟩
  have ex : phNextB xs ys = phNext (phSum xs ys 0 xs.length) (phSum xs ys 1 xs.length) (phSum xs ys 2 xs.length) := by unfold phNextB; rw [h]; rfl
  have el : imbB xs ys = imb (phSum xs ys 0 xs.length) (phSum xs ys 1 xs.length) (phSum xs ys 2 xs.length) := imbB_yes h
  have hx : phNextB xs ys = 0 ∨ phNextB xs ys = 1 ∨ phNextB xs ys = 2 := by rw [ex]; unfold phNext; split <;> split <;> simp
  have hl : 0 ≤ imbB xs ys ∧ imbB xs ys ≤ 5994 := by rw [el]; unfold imb; omega
  have hmin : ∀ k : Int, 0 ≤ k → k ≤ 2 → phSum xs ys (phNextB xs ys) xs.length ≤ phSum xs ys k xs.length := by
    intro k k0 k2
    rw [ex]
    unfold phNext
    rcases (by omega : k = 0 ∨ k = 1 ∨ k = 2) with rfl | rfl | rfl <;> split <;> split <;> omega
  refine ⟨by omega, hl, hmin, fun n6 l9 => ?_⟩
  have ok : phOk (xs ++ [imbB xs ys]) (ys ++ [phNextB xs ys]) = true := phOk_mk (taps_snoc h1 n6 hl.1 l9) (by simp [h2]) fun y hy => by
    rcases List.mem_append.1 hy with g | g
    · exact h3 y g
    · simp at g; omega
  rw [imbB_yes ok, phSum_app _ _ _ _ _ h2, phSum_app _ _ _ _ _ h2, phSum_app _ _ _ _ _ h2]
  have m0 := hmin 0 (by omega) (by omega)
  have m1 := hmin 1 (by omega) (by omega)
  have m2 := hmin 2 (by omega) (by omega)
  generalize imbB xs ys = l at *
  generalize phNextB xs ys = x at *
  unfold imb at *
  rcases hx with rfl | rfl | rfl <;> simp <;> omega
theorem next_no {xs ys : List Int} (h : phOk xs ys = false) : phNextB xs ys = -1 ∧ imbB xs ys = -1 := by
  unfold phNextB imbB
  rw [h]
  exact ⟨rfl, rfl⟩

set_option maxHeartbeats 1000000 in
theorem fnPhaseNext_walk (A0 : Option Addr) (c0 : Nat) (x0 : List Int) (w : World) (l0 : x0.length ≤ c0) (m0 : c0 ≤ maxLen) (s0 : Sl w w.heap.size 1 A0 x0.length (encU x0)) (i0 : ∀ n ∈ x0, 0 ≤ n ∧ n ≤ 255) :
    Calls Tryd.prog 4 #[.slice A0 x0.length c0] w fun e w' => e = .returned (.bool true) ∧ Below w.heap.size w w' := by
  have hm2 := m0
  unfold maxLen at m0
  by_cases hm : x0.length ≤ 1048576
  · have HC := hide (DrawPhaseNext_any A0 c0 x0 w s0 l0 hm2 i0)
    clear i0 s0
    go_enter Tryd.func4, Tryd.ntmps4
    go_wp2_with fail
    refine HC.out.mono ?_
    rintro e w1 ⟨xs, ys, D, d, E, f, hl, hl2, hxr, hyr, rfl, hox, hoy, hb1⟩
    have K := hide hb1
    have HX := hide hox
    have HY := hide hoy
    clear hb1 HC hxr hyr hox hoy
    go_wp2_with fail
    refine (implPhaseNext_any _ _ _ _ _ _ _ (Sl.of_own HX.out) (Sl.of_own HY.out) (by omega) (by omega)).mono ?_
    rintro e w2 ⟨rfl, hb2⟩
    have X2 := hide (HX.out.keepB hb2)
    have Y2 := hide (HY.out.keepB hb2)
    have K2 := hide (K.out.then hb2)
    clear hb2
    go_wp2_with fail
    refine (specPhaseNext_any _ _ _ _ _ _ _ (Sl.of_own X2.out) (Sl.of_own Y2.out) (by omega) (by omega)).mono ?_
    rintro e w' ⟨rfl, rfl⟩
    cases hv : phOk xs ys
    · obtain ⟨hn, hi⟩ := next_no hv
      have HI := hide hi
      rw [hn]
      clear hn hi hv
      go_wp2_with fail
      refine (implImbalance_any _ _ _ _ _ _ _ (Sl.of_own X2.out) (Sl.of_own Y2.out) (by omega) (by omega)).mono ?_
      rintro e w3 ⟨rfl, hb3⟩
      rw [HI.out]
      have K3 := hide (K2.out.then hb3)
      clear hb3
      go_wp2_with fail
      refine (alive_any _).mono ?_
      rintro e w4 ⟨rfl, hb4⟩
      have K4 := hide (K3.out.then hb4)
      clear hb4
      go_wp2_with fail
      go_ret
      exact ⟨rfl, K4.out⟩
    · obtain ⟨x, l, hx, hlv, hx2, hl3, hmin, hlaw⟩ := next_law hv
      have HV := hide hv
      have HLV := hide hlv
      have HMIN := hide hmin
      have HLAW := hide hlaw
      rw [hx]
      clear hx hlv hmin hlaw hv
      go_wp2_with fail
      go_loopw [6] (fun i wr => ∃ k : Nat, k ≤ 3 ∧ i = .int .i64 k ∧ Hid (wr.ownsRow w.heap.size 3 1 (.slice D xs.length d) xs.length (encI xs)) ∧ Hid (wr.ownsRow w.heap.size 3 1 (.slice E ys.length f) ys.length (encI ys)) ∧ Hid (Below w.heap.size w wr)) (fun i _ => 3 - (intOf i).toNat)
      case atStart => exact ⟨0, by omega, rfl, X2, Y2, K2⟩
      case round =>
        obtain ⟨k, hk, rfl, X3, Y3, K3⟩ := hrel
        by_cases hlt : k < 3
        · have hle := HMIN.out k (by omega) (by omega)
          have HP := hide (ps_yes HV.out k (by omega) (by omega))
          have HQ := hide (ps_yes HV.out x (by omega) (by omega))
          go_wp2_with fail
          refine (implPhaseSum_any _ _ _ _ _ _ _ _ (Sl.of_own X3.out) (Sl.of_own Y3.out) (by omega) (by omega)).mono ?_
          rintro e w4 ⟨rfl, hb4⟩
          rw [HP.out]
          have X4 := hide (X3.out.keepB hb4)
          have Y4 := hide (Y3.out.keepB hb4)
          have K4 := hide (K3.out.then hb4)
          clear hb4
          go_wp2_with fail
          refine (implPhaseSum_any _ _ _ _ _ _ _ _ (Sl.of_own X4.out) (Sl.of_own Y4.out) (by omega) (by omega)).mono ?_
          rintro e w5 ⟨rfl, hb5⟩
          rw [HQ.out]
          have X5 := hide (X4.out.keepB hb5)
          have Y5 := hide (Y4.out.keepB hb5)
          have K5 := hide (K4.out.then hb5)
          clear hb5
          go_wp2_with fail
          go_roundw
          case rel => exact ⟨k + 1, by omega, by go_num, X5, Y5, K5⟩
          case measure => simp [intOf]; omega
        · go_wp2_with fail
          refine (implImbalance_any _ _ _ _ _ _ _ (Sl.of_own X3.out) (Sl.of_own Y3.out) (by omega) (by omega)).mono ?_
          rintro e w4 ⟨rfl, hb4⟩
          rw [HLV.out]
          have X4 := hide (X3.out.keepB hb4)
          have Y4 := hide (Y3.out.keepB hb4)
          have K4 := hide (K3.out.then hb4)
          clear hb4
          by_cases h6 : xs.length = 6
          · have hb6 : ((xs.length : Int) == 6) = true := by simp [h6]
            have H6 := hide h6
            clear h6
            have B1 := hide (World.ownsRow_lit (base := w4.heap.size) (e := 3) (size := 1) w4 #[] 0 (Nat.le_refl _) (Nat.zero_le _) rfl)
            have B2 := hide (Sl.of_own (X4.out.alloc (.cells #[] 3)))
            go_wp2_with (at_builtin; first | (refine app_ints _ rfl (.tmp 55) (.tmp 56) rfl w4.heap.size _ 0 0 [] rfl B1.out _ _ xs.length _ xs rfl B2.out (by simp) (by omega) (by omega) ?_; intro D2 d2 w5 ho5 hg5; rw [Nat.zero_add] at ho5 ⊢; have O5 := hide ho5; have G5 := hide hg5; clear ho5 hg5; have hs5 : w4.heap.size ≤ w5.heap.size := Nat.le_trans (by simp) G5.out.size) | (refine app_int_w w5 rfl (.tmp 57) (.tmp 59) rfl w4.heap.size D2 xs.length d2 ([] ++ xs) l rfl O5.out w5.heap.size rfl rfl hs5 (by omega) ?_; intro D3 d3 w6 ho6 hg6; have O6 := hide ho6; have G6 := hide hg6; clear ho6 hg6; have hs6 : w5.heap.size ≤ w6.heap.size := G6.out.size; have Y6 := hide ((((Y4.out.alloc (.cells #[] 3)).kept G5.out (own_ne Y4.out B1.out (Nat.le_refl _)))).kept G6.out (own_ne Y4.out O5.out (Nat.le_refl _))); have B6 := hide (World.ownsRow_lit (base := w6.heap.size) (e := 3) (size := 1) w6 #[] 0 (Nat.le_refl _) (Nat.zero_le _) rfl); have C6 := hide (Sl.of_own (Y6.out.alloc (.cells #[] 3)))) | (refine app_ints _ rfl (.tmp 61) (.tmp 62) rfl w6.heap.size _ 0 0 [] rfl B6.out _ _ ys.length _ ys rfl C6.out (by simp) (by omega) (by omega) ?_; intro D4 d4 w7 ho7 hg7; rw [Nat.zero_add] at ho7 ⊢; have O7 := hide ho7; have G7 := hide hg7; clear ho7 hg7; have hs7 : w6.heap.size ≤ w7.heap.size := Nat.le_trans (by simp) G7.out.size) | (refine app_int_w w7 rfl (.tmp 63) (.tmp 65) rfl w6.heap.size D4 ys.length d4 ([] ++ ys) x rfl O7.out w7.heap.size rfl rfl hs7 (by omega) ?_; intro D5 d5 w8 ho8 hg8; have O8 := hide ho8; have G8 := hide hg8; clear ho8 hg8))
            have KB := hide (K4.out.then (((Below.refl w4.heap.size w4).alloc (Nat.le_refl _) (.cells #[] 3)).trans ((grown_below B1.out G5.out (by simp)).trans ((grown_below O5.out G6.out hs5).trans (((Below.refl w4.heap.size w6).alloc (by omega) (.cells #[] 3)).trans (((grown_below B6.out G7.out (by simp)).mono (by omega)).trans ((grown_below O7.out G8.out hs7).mono (by omega))))))))
            go_ret
            exact ⟨rfl, KB.out⟩
          · have hb6 : ((xs.length : Int) == 6) = false := by simp; omega
            have H6 := hide h6
            clear h6
            by_cases h9 : l ≤ 999
            · skip
              have B1 := hide (World.ownsRow_lit (base := w4.heap.size) (e := 3) (size := 1) w4 #[] 0 (Nat.le_refl _) (Nat.zero_le _) rfl)
              have B2 := hide (Sl.of_own (X4.out.alloc (.cells #[] 3)))
              go_wp2_with (at_builtin; first | (refine app_ints _ rfl (.tmp 55) (.tmp 56) rfl w4.heap.size _ 0 0 [] rfl B1.out _ _ xs.length _ xs rfl B2.out (by simp) (by omega) (by omega) ?_; intro D2 d2 w5 ho5 hg5; rw [Nat.zero_add] at ho5 ⊢; have O5 := hide ho5; have G5 := hide hg5; clear ho5 hg5; have hs5 : w4.heap.size ≤ w5.heap.size := Nat.le_trans (by simp) G5.out.size) | (refine app_int_w w5 rfl (.tmp 57) (.tmp 59) rfl w4.heap.size D2 xs.length d2 ([] ++ xs) l rfl O5.out w5.heap.size rfl rfl hs5 (by omega) ?_; intro D3 d3 w6 ho6 hg6; have O6 := hide ho6; have G6 := hide hg6; clear ho6 hg6; have hs6 : w5.heap.size ≤ w6.heap.size := G6.out.size; have Y6 := hide ((((Y4.out.alloc (.cells #[] 3)).kept G5.out (own_ne Y4.out B1.out (Nat.le_refl _)))).kept G6.out (own_ne Y4.out O5.out (Nat.le_refl _))); have B6 := hide (World.ownsRow_lit (base := w6.heap.size) (e := 3) (size := 1) w6 #[] 0 (Nat.le_refl _) (Nat.zero_le _) rfl); have C6 := hide (Sl.of_own (Y6.out.alloc (.cells #[] 3)))) | (refine app_ints _ rfl (.tmp 61) (.tmp 62) rfl w6.heap.size _ 0 0 [] rfl B6.out _ _ ys.length _ ys rfl C6.out (by simp) (by omega) (by omega) ?_; intro D4 d4 w7 ho7 hg7; rw [Nat.zero_add] at ho7 ⊢; have O7 := hide ho7; have G7 := hide hg7; clear ho7 hg7; have hs7 : w6.heap.size ≤ w7.heap.size := Nat.le_trans (by simp) G7.out.size) | (refine app_int_w w7 rfl (.tmp 63) (.tmp 65) rfl w6.heap.size D4 ys.length d4 ([] ++ ys) x rfl O7.out w7.heap.size rfl rfl hs7 (by omega) ?_; intro D5 d5 w8 ho8 hg8; have O8 := hide ho8; have G8 := hide hg8; clear ho8 hg8))
              have KB := hide (K4.out.then (((Below.refl w4.heap.size w4).alloc (Nat.le_refl _) (.cells #[] 3)).trans ((grown_below B1.out G5.out (by simp)).trans ((grown_below O5.out G6.out hs5).trans (((Below.refl w4.heap.size w6).alloc (by omega) (.cells #[] 3)).trans (((grown_below B6.out G7.out (by simp)).mono (by omega)).trans ((grown_below O7.out G8.out hs7).mono (by omega))))))))
              have X8 := Sl.of_own (((O6.out.alloc (.cells #[] 3)).kept G7.out (own_ne O6.out B6.out (Nat.le_refl _))).kept G8.out (own_ne O6.out O7.out (Nat.le_refl _)))
              have Y8 := Sl.of_own O8.out
              rw [show xs.length + 1 = (xs ++ [l]).length by simp] at X8 ⊢
              rw [show ys.length + 1 = (ys ++ [x]).length by simp] at Y8 ⊢
              refine (implImbalance_any _ _ _ _ _ _ _ X8 Y8 (by simp; omega) (by simp; omega)).mono ?_
              rintro e w9 ⟨rfl, hb9⟩
              have K9 := hide (KB.out.then hb9)
              have hle := HLAW.out H6.out h9
              clear hb9 X8 Y8
              go_wp2_with fail
              go_ret
              exact ⟨rfl, K9.out⟩
            · skip
              have B1 := hide (World.ownsRow_lit (base := w4.heap.size) (e := 3) (size := 1) w4 #[] 0 (Nat.le_refl _) (Nat.zero_le _) rfl)
              have B2 := hide (Sl.of_own (X4.out.alloc (.cells #[] 3)))
              go_wp2_with (at_builtin; first | (refine app_ints _ rfl (.tmp 55) (.tmp 56) rfl w4.heap.size _ 0 0 [] rfl B1.out _ _ xs.length _ xs rfl B2.out (by simp) (by omega) (by omega) ?_; intro D2 d2 w5 ho5 hg5; rw [Nat.zero_add] at ho5 ⊢; have O5 := hide ho5; have G5 := hide hg5; clear ho5 hg5; have hs5 : w4.heap.size ≤ w5.heap.size := Nat.le_trans (by simp) G5.out.size) | (refine app_int_w w5 rfl (.tmp 57) (.tmp 59) rfl w4.heap.size D2 xs.length d2 ([] ++ xs) l rfl O5.out w5.heap.size rfl rfl hs5 (by omega) ?_; intro D3 d3 w6 ho6 hg6; have O6 := hide ho6; have G6 := hide hg6; clear ho6 hg6; have hs6 : w5.heap.size ≤ w6.heap.size := G6.out.size; have Y6 := hide ((((Y4.out.alloc (.cells #[] 3)).kept G5.out (own_ne Y4.out B1.out (Nat.le_refl _)))).kept G6.out (own_ne Y4.out O5.out (Nat.le_refl _))); have B6 := hide (World.ownsRow_lit (base := w6.heap.size) (e := 3) (size := 1) w6 #[] 0 (Nat.le_refl _) (Nat.zero_le _) rfl); have C6 := hide (Sl.of_own (Y6.out.alloc (.cells #[] 3)))) | (refine app_ints _ rfl (.tmp 61) (.tmp 62) rfl w6.heap.size _ 0 0 [] rfl B6.out _ _ ys.length _ ys rfl C6.out (by simp) (by omega) (by omega) ?_; intro D4 d4 w7 ho7 hg7; rw [Nat.zero_add] at ho7 ⊢; have O7 := hide ho7; have G7 := hide hg7; clear ho7 hg7; have hs7 : w6.heap.size ≤ w7.heap.size := Nat.le_trans (by simp) G7.out.size) | (refine app_int_w w7 rfl (.tmp 63) (.tmp 65) rfl w6.heap.size D4 ys.length d4 ([] ++ ys) x rfl O7.out w7.heap.size rfl rfl hs7 (by omega) ?_; intro D5 d5 w8 ho8 hg8; have O8 := hide ho8; have G8 := hide hg8; clear ho8 hg8))
              have KB := hide (K4.out.then (((Below.refl w4.heap.size w4).alloc (Nat.le_refl _) (.cells #[] 3)).trans ((grown_below B1.out G5.out (by simp)).trans ((grown_below O5.out G6.out hs5).trans (((Below.refl w4.heap.size w6).alloc (by omega) (.cells #[] 3)).trans (((grown_below B6.out G7.out (by simp)).mono (by omega)).trans ((grown_below O7.out G8.out hs7).mono (by omega))))))))
              go_ret
              exact ⟨rfl, KB.out⟩
  · go_enter Tryd.func4, Tryd.ntmps4
    go_wp2_with fail
    go_ret
    exact ⟨rfl, Below.refl _ _⟩

end Go.Proofs.YtjecbapmdgnglaaDoor
