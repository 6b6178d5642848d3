/-
  The law FnBill over drawn bands, an hour and uses: the walk.
-/
import Derived.Test.YtjecbapmdgnglaaDoorBillDraw
import Derived.Test.YtjecbapmdgnglaaDoorPhDraw
namespace Go.Proofs.YtjecbapmdgnglaaDoor
open Go.RowKit
set_option linter.unusedVariables false

theorem make24 (w : World) : (Instr.makeSlice 24 (.int .i64 24) (.int .i64 24)).run Tryd.prog w = .ok (.slice (some ⟨w.heap.size, 0, none⟩) 24 24) (w.alloc (.cells (zrow 24) 3)) :=
  run_make_z (P := Tryd.prog) 24 3 (.int .i64 0) 1 8 Tryd.underlying24 infoI rfl (by decide) 24 24 (by decide) (by decide) (by decide) w
theorem bill_or (xs : List (Int × Int)) (z : Int) (us : List Int) : billB xs z us = -1 ∨ billOk xs z us = true := by
  unfold billB
  cases billOk xs z us
  · left; simp
  · right; rfl

set_option maxRecDepth 100000 in
set_option maxHeartbeats 400000 in
theorem fnBill_walk (A0 : Option Addr) (c0 : Nat) (x0 : List Int) (w : World) (l0 : x0.length ≤ c0) (m0 : c0 ≤ maxLen) (s0 : Sl w w.heap.size 1 A0 x0.length (encU x0)) (i0 : ∀ n ∈ x0, 0 ≤ n ∧ n ≤ 255) :
    Calls Tryd.prog 3 #[.slice A0 x0.length c0] w fun e w' => e = .returned (.bool true) ∧ Below w.heap.size w w' := by
  have hm2 := m0
  unfold maxLen at m0
  by_cases hm : x0.length ≤ 1048576
  · have HC := hide (DrawBill_any A0 c0 x0 w s0 l0 hm2 i0)
    clear i0 s0
    go_enter Tryd.func3, Tryd.ntmps3
    go_wp2_with fail
    refine HC.out.mono ?_
    rintro e w1 ⟨xs, us, D, d, g, f, z, hl, hl2, hur, hz, rfl, hox, hoy, hb1⟩
    have K := hide hb1
    have HX := hide hox
    have HY := hide hoy
    clear hb1 HC hur hox hoy
    go_wp2_with fail
    refine (implBill_any _ _ _ _ _ _ _ _ (Sl.of_own HX.out) (Sl.of_own HY.out) (by omega) (by omega)).mono ?_
    rintro e w2 ⟨rfl, hb2⟩
    have X2 := hide (HX.out.keepB hb2)
    have Y2 := hide (HY.out.keepB hb2)
    have K2 := hide (K.out.then hb2)
    clear hb2
    go_wp2_with fail
    refine (specBill_any _ _ _ _ _ _ _ _ (Sl.of_own X2.out) (Sl.of_own Y2.out) (by omega) (by omega)).mono ?_
    rintro e w3 ⟨rfl, hb3⟩
    have X3 := hide (X2.out.keepB hb3)
    have Y3 := hide (Y2.out.keepB hb3)
    have K3 := hide (K2.out.then hb3)
    clear hb3
    have HT := hide (bill_or xs z us)
    rcases HT.out with hv | hv
    · rw [hv]
      clear hv HT
      go_wp2_with fail
      refine (alive_any _).mono ?_
      rintro e w4 ⟨rfl, hb4⟩
      have K4 := hide (K3.out.then hb4)
      clear hb4
      go_wp2_with fail
      go_ret
      exact ⟨rfl, K4.out⟩
    · have HV := hide hv
      obtain ⟨x1, x2⟩ := bill_bd hv
      obtain ⟨a, b, ha, hb, a1, b1, hab⟩ := bill_split hv (us.length / 2) (by omega)
      have HA := hide ha
      rw [show ((us.length / 2 : Nat) : Int) = (us.length : Int) / 2 by omega] at hb
      have HB := hide hb
      have HAB := hide hab
      obtain ⟨g1, g2, _, g4⟩ := billOk_parts hv
      have HBV := hide g1
      have HU := hide g4
      clear hv HT ha hb hab g1 g4
      generalize billB xs z us = x at *
      have hfc : us.length ≤ f := own_cap Y3.out
      by_cases hfe : f = us.length / 2
      · subst hfe
        have HLT := hide (show (us.take (us.length / 2)).length = us.length / 2 by simp; omega)
        have HLD := hide (show (us.drop (us.length / 2)).length = us.length - us.length / 2 by simp)
        have HT := hide ((Sl.of_own Y3.out).take (us.length / 2) (by omega))
        go_wp2_with fail
        rw [← HLT.out]
        refine (implBill_any _ _ _ _ _ _ _ _ (Sl.of_own X3.out) HT.out (by omega) (by rw [HLT.out]; omega)).mono ?_
        rintro e w4 ⟨rfl, hb4⟩
        rw [HA.out]
        have X4 := hide (X3.out.keepB hb4)
        have Y4 := hide (Y3.out.keepB hb4)
        have K4 := hide (K3.out.then hb4)
        clear hb4
        have HD := hide (show Sl w4 w4.heap.size 1 (some ⟨g, 0, none⟩) ([] : List Int).length (encI []) from ⟨by simp [encI], fun hn => absurd hn (by simp)⟩)
        have hde : us.drop (us.length / 2) = [] := List.drop_of_length_le (by omega)
        have HB := hide (by have := HB.out; rw [hde] at this; exact this)
        clear hde
        go_wp2_with fail
        go_fit (implBill_any _ _ _ _ _ _ [] _ (Sl.of_own X4.out) HD.out (by omega) (by simp))
        rintro e w5 ⟨rfl, hb5⟩
        rw [HB.out]
        have X5 := hide (X4.out.keepB hb5)
        have Y5 := hide (Y4.out.keepB hb5)
        have K5 := hide (K4.out.then hb5)
        have hs5 := K5.out.size
        clear hb5
        have mk := make24 w5
        have HM := hide (own_made (w := w5) (e := 3) (size := 1) (n := 24) (cs := encI (List.replicate 24 0)) (by simp [encI]) (by unfold maxLen; omega))
        have X6 := hide (X5.out.alloc (.cells (zrow 24) 3))
        have Y6 := hide (Y5.out.alloc (.cells (zrow 24) 3))
        have K6 := hide (K5.out.alloc hs5 (.cells (zrow 24) 3))
        go_wp2_with fail
        clear mk
        go_loopw [11] (fun i wr => ∃ (k : Nat) (dl : List Int), k ≤ 24 ∧ i = .int .i64 k ∧ Hid (dl.length = 24) ∧ Hid (∀ u ∈ dl, (0 : Int) ≤ u ∧ u ≤ 999) ∧ Hid (wr.ownsRow w5.heap.size 3 1 (.slice (some ⟨w5.heap.size, 0, none⟩) 24 24) 24 (encI dl)) ∧ Hid (wr.ownsRow w.heap.size 105 2 (.slice D xs.length d) xs.length (enc2 xs)) ∧ Hid (wr.ownsRow w.heap.size 3 1 (.slice (some ⟨g, 0, none⟩) us.length (us.length / 2)) us.length (encI us)) ∧ Hid (Below w.heap.size w wr)) (fun i _ => 24 - (intOf i).toNat)
        case atStart => exact ⟨0, List.replicate 24 0, by omega, rfl, hide (by simp), hide (fun u hu => by have := List.eq_of_mem_replicate hu; omega), hide (by simpa [part, encI] using HM.out), X6, Y6, K6⟩
        case round =>
          obtain ⟨k, dl, hk, rfl, hdl, hdr, hod, hx, hy, hb⟩ := hrel
          by_cases h24 : k < 24
          · by_cases hlu : k < us.length
            · obtain ⟨b, off, hA, hbb, hc⟩ := (Sl.of_own hy.out).int k hlu
              simp only [Option.some.injEq, Addr.mk.injEq] at hA
              obtain ⟨rfl, rfl, _⟩ := hA
              rw [Nat.zero_add] at hc
              have hf := hod.out.frozenAt k
              obtain ⟨u0, hs0⟩ := own_cell hod.out k (by omega)
              have T := hide (hod.out.stored k (.int .i64 (at_ us k)))
              have hrg := hide (HU.out _ (mem_at k hlu))
              all_goals (try (exfalso; omega))
              all_goals
                go_wp2_with fail
                go_roundw
                case rel =>
                  refine ⟨k + 1, dl.set k (at_ us k), by omega, by go_num, hide (by rw [List.length_set]; exact hdl.out), hide (fun u hu => ?_), hide ?_, hide (hx.out.kept T.out.2 (own_ne X5.out hod.out (Nat.le_refl _))), hide (hy.out.kept T.out.2 (own_ne Y5.out hod.out (Nat.le_refl _))), hide (hb.out.trans ((grown_below hod.out T.out.2 (by have := (hod.out.lt w5.heap.size rfl).2; omega)).mono hs5))⟩
                  · rcases List.mem_or_eq_of_mem_set hu with h | h
                    · exact hdr.out u h
                    · rw [h]; exact hrg.out
                  · rw [← encI_set]
                    simpa using T.out.1
                case measure => simp [intOf]; omega
            · skip
              have hxe : (a + b == x) = true := by simp [HAB.out]
              obtain ⟨t, ht1, ht2, t1, t2⟩ := bill_twice HBV.out g2 hdl.out hdr.out
              have HT1 := hide ht1
              have HT2 := hide ht2
              clear ht1 ht2
              have B1 := hide (World.ownsRow_lit (base := wr.heap.size) (e := 3) (size := 1) wr #[] 0 (Nat.le_refl _) (Nat.zero_le _) rfl)
              have B2 := hide (Sl.of_own (hod.out.alloc (.cells #[] 3)))
              go_wp2_with (at_builtin; first | (refine app_ints _ rfl (.tmp 90) (.tmp 91) rfl wr.heap.size _ 0 0 [] rfl B1.out _ _ 24 24 dl rfl B2.out (by simp) (by omega) (by omega) ?_; intro D2 d2 wa hoa hga; rw [Nat.zero_add] at hoa ⊢; have HOa := hide hoa; have HKa := hide hga; clear hoa hga) | (refine app_ints wa rfl (.tmp 92) (.tmp 93) rfl wr.heap.size D2 24 d2 ([] ++ dl) rfl HOa.out _ _ 24 24 dl rfl (Sl.of_own ((hod.out.alloc (.cells #[] 3)).kept HKa.out (own_ne hod.out B1.out (Nat.le_refl _)))) (by have := HKa.out.size; simp at this; omega) (by omega) (by omega) ?_; intro D3 d3 wb hob hgb; rw [show 24 + 24 = (dl ++ dl).length by simp [hdl.out]] at hob ⊢; have HOb := hide hob; have HKb := hide hgb; clear hob hgb))
              have DB := hide ((((hod.out.alloc (.cells #[] 3)).kept HKa.out (own_ne hod.out B1.out (Nat.le_refl _)))).kept HKb.out (own_ne hod.out HOa.out (Nat.le_refl _)))
              have XB := hide ((((hx.out.alloc (.cells #[] 3)).kept HKa.out (own_ne hx.out B1.out (Nat.le_refl _)))).kept HKb.out (own_ne hx.out HOa.out (Nat.le_refl _)))
              have hsa : wr.heap.size ≤ wa.heap.size := by have := HKa.out.size; simp at this; omega
              have KB := hide (hb.out.then (((Below.refl wr.heap.size wr).alloc (Nat.le_refl _) (.cells #[] 3)).trans ((grown_below B1.out HKa.out (by simp)).trans (grown_below HOa.out HKb.out hsa))))
              have HCb := implBill_any D D3 d d3 xs z ([] ++ dl ++ dl) wb (Sl.of_own XB.out) (Sl.of_own HOb.out) (by omega) (by simp [hdl.out])
              rw [show dl.length + dl.length = ([] ++ dl ++ dl).length by simp]
              go_fit HCb
              clear HCb
              rintro e w7 ⟨rfl, hb7⟩
              rw [show ([] ++ dl ++ dl) = dl ++ dl from rfl] at *
              rw [HT2.out]
              have X7 := hide (XB.out.keepB hb7)
              have D7 := hide (DB.out.keepB hb7)
              have K7 := hide (KB.out.then hb7)
              clear hb7
              go_wp2_with fail
              have HC8 := implBill_any D (some ⟨w5.heap.size, 0, none⟩) d 24 xs z dl w7 (Sl.of_own X7.out) (by rw [hdl.out]; exact Sl.of_own D7.out) (by omega) (by rw [hdl.out]; omega)
              rw [hdl.out] at HC8
              refine HC8.mono ?_
              clear HC8
              rintro e w8 ⟨rfl, hb8⟩
              rw [HT1.out]
              have K8 := hide (K7.out.then hb8)
              clear hb8
              go_wp2_with fail
              go_ret
              exact ⟨ret_bool (by simp), K8.out⟩
          · skip
            have hxe : (a + b == x) = true := by simp [HAB.out]
            obtain ⟨t, ht1, ht2, t1, t2⟩ := bill_twice HBV.out g2 hdl.out hdr.out
            have HT1 := hide ht1
            have HT2 := hide ht2
            clear ht1 ht2
            have B1 := hide (World.ownsRow_lit (base := wr.heap.size) (e := 3) (size := 1) wr #[] 0 (Nat.le_refl _) (Nat.zero_le _) rfl)
            have B2 := hide (Sl.of_own (hod.out.alloc (.cells #[] 3)))
            go_wp2_with (at_builtin; first | (refine app_ints _ rfl (.tmp 90) (.tmp 91) rfl wr.heap.size _ 0 0 [] rfl B1.out _ _ 24 24 dl rfl B2.out (by simp) (by omega) (by omega) ?_; intro D2 d2 wa hoa hga; rw [Nat.zero_add] at hoa ⊢; have HOa := hide hoa; have HKa := hide hga; clear hoa hga) | (refine app_ints wa rfl (.tmp 92) (.tmp 93) rfl wr.heap.size D2 24 d2 ([] ++ dl) rfl HOa.out _ _ 24 24 dl rfl (Sl.of_own ((hod.out.alloc (.cells #[] 3)).kept HKa.out (own_ne hod.out B1.out (Nat.le_refl _)))) (by have := HKa.out.size; simp at this; omega) (by omega) (by omega) ?_; intro D3 d3 wb hob hgb; rw [show 24 + 24 = (dl ++ dl).length by simp [hdl.out]] at hob ⊢; have HOb := hide hob; have HKb := hide hgb; clear hob hgb))
            have DB := hide ((((hod.out.alloc (.cells #[] 3)).kept HKa.out (own_ne hod.out B1.out (Nat.le_refl _)))).kept HKb.out (own_ne hod.out HOa.out (Nat.le_refl _)))
            have XB := hide ((((hx.out.alloc (.cells #[] 3)).kept HKa.out (own_ne hx.out B1.out (Nat.le_refl _)))).kept HKb.out (own_ne hx.out HOa.out (Nat.le_refl _)))
            have hsa : wr.heap.size ≤ wa.heap.size := by have := HKa.out.size; simp at this; omega
            have KB := hide (hb.out.then (((Below.refl wr.heap.size wr).alloc (Nat.le_refl _) (.cells #[] 3)).trans ((grown_below B1.out HKa.out (by simp)).trans (grown_below HOa.out HKb.out hsa))))
            have HCb := implBill_any D D3 d d3 xs z ([] ++ dl ++ dl) wb (Sl.of_own XB.out) (Sl.of_own HOb.out) (by omega) (by simp [hdl.out])
            rw [show dl.length + dl.length = ([] ++ dl ++ dl).length by simp]
            go_fit HCb
            clear HCb
            rintro e w7 ⟨rfl, hb7⟩
            rw [show ([] ++ dl ++ dl) = dl ++ dl from rfl] at *
            rw [HT2.out]
            have X7 := hide (XB.out.keepB hb7)
            have D7 := hide (DB.out.keepB hb7)
            have K7 := hide (KB.out.then hb7)
            clear hb7
            go_wp2_with fail
            have HC8 := implBill_any D (some ⟨w5.heap.size, 0, none⟩) d 24 xs z dl w7 (Sl.of_own X7.out) (by rw [hdl.out]; exact Sl.of_own D7.out) (by omega) (by rw [hdl.out]; omega)
            rw [hdl.out] at HC8
            refine HC8.mono ?_
            clear HC8
            rintro e w8 ⟨rfl, hb8⟩
            rw [HT1.out]
            have K8 := hide (K7.out.then hb8)
            clear hb8
            go_wp2_with fail
            go_ret
            exact ⟨ret_bool (by simp), K8.out⟩
      · have hf0 : 0 < f := by omega
        have HLT := hide (show (us.take (us.length / 2)).length = us.length / 2 by simp; omega)
        have HLD := hide (show (us.drop (us.length / 2)).length = us.length - us.length / 2 by simp)
        have HT := hide ((Sl.of_own Y3.out).take (us.length / 2) (by omega))
        go_wp2_with fail
        rw [← HLT.out]
        refine (implBill_any _ _ _ _ _ _ _ _ (Sl.of_own X3.out) HT.out (by omega) (by rw [HLT.out]; omega)).mono ?_
        rintro e w4 ⟨rfl, hb4⟩
        rw [HA.out]
        have X4 := hide (X3.out.keepB hb4)
        have Y4 := hide (Y3.out.keepB hb4)
        have K4 := hide (K3.out.then hb4)
        clear hb4
        have HD := hide (show Sl w4 w4.heap.size 1 (some ⟨g, us.length / 2, none⟩) (us.drop (us.length / 2)).length (encI (us.drop (us.length / 2))) by simpa only [Nat.zero_add] using (Sl.of_own Y4.out).dropI (us.length / 2) (by omega))
        go_wp2_with fail
        rw [← HLD.out]
        go_fit (implBill_any _ _ _ _ _ _ _ _ (Sl.of_own X4.out) HD.out (by omega) (by rw [HLD.out]; omega))
        rintro e w5 ⟨rfl, hb5⟩
        rw [HB.out]
        have X5 := hide (X4.out.keepB hb5)
        have Y5 := hide (Y4.out.keepB hb5)
        have K5 := hide (K4.out.then hb5)
        have hs5 := K5.out.size
        clear hb5
        have mk := make24 w5
        have HM := hide (own_made (w := w5) (e := 3) (size := 1) (n := 24) (cs := encI (List.replicate 24 0)) (by simp [encI]) (by unfold maxLen; omega))
        have X6 := hide (X5.out.alloc (.cells (zrow 24) 3))
        have Y6 := hide (Y5.out.alloc (.cells (zrow 24) 3))
        have K6 := hide (K5.out.alloc hs5 (.cells (zrow 24) 3))
        go_wp2_with fail
        clear mk
        go_loopw [11] (fun i wr => ∃ (k : Nat) (dl : List Int), k ≤ 24 ∧ i = .int .i64 k ∧ Hid (dl.length = 24) ∧ Hid (∀ u ∈ dl, (0 : Int) ≤ u ∧ u ≤ 999) ∧ Hid (wr.ownsRow w5.heap.size 3 1 (.slice (some ⟨w5.heap.size, 0, none⟩) 24 24) 24 (encI dl)) ∧ Hid (wr.ownsRow w.heap.size 105 2 (.slice D xs.length d) xs.length (enc2 xs)) ∧ Hid (wr.ownsRow w.heap.size 3 1 (.slice (some ⟨g, 0, none⟩) us.length f) us.length (encI us)) ∧ Hid (Below w.heap.size w wr)) (fun i _ => 24 - (intOf i).toNat)
        case atStart => exact ⟨0, List.replicate 24 0, by omega, rfl, hide (by simp), hide (fun u hu => by have := List.eq_of_mem_replicate hu; omega), hide (by simpa [part, encI] using HM.out), X6, Y6, K6⟩
        case round =>
          obtain ⟨k, dl, hk, rfl, hdl, hdr, hod, hx, hy, hb⟩ := hrel
          by_cases h24 : k < 24
          · by_cases hlu : k < us.length
            · obtain ⟨b, off, hA, hbb, hc⟩ := (Sl.of_own hy.out).int k hlu
              simp only [Option.some.injEq, Addr.mk.injEq] at hA
              obtain ⟨rfl, rfl, _⟩ := hA
              rw [Nat.zero_add] at hc
              have hf := hod.out.frozenAt k
              obtain ⟨u0, hs0⟩ := own_cell hod.out k (by omega)
              have T := hide (hod.out.stored k (.int .i64 (at_ us k)))
              have hrg := hide (HU.out _ (mem_at k hlu))
              all_goals (try (exfalso; omega))
              all_goals
                go_wp2_with fail
                go_roundw
                case rel =>
                  refine ⟨k + 1, dl.set k (at_ us k), by omega, by go_num, hide (by rw [List.length_set]; exact hdl.out), hide (fun u hu => ?_), hide ?_, hide (hx.out.kept T.out.2 (own_ne X5.out hod.out (Nat.le_refl _))), hide (hy.out.kept T.out.2 (own_ne Y5.out hod.out (Nat.le_refl _))), hide (hb.out.trans ((grown_below hod.out T.out.2 (by have := (hod.out.lt w5.heap.size rfl).2; omega)).mono hs5))⟩
                  · rcases List.mem_or_eq_of_mem_set hu with h | h
                    · exact hdr.out u h
                    · rw [h]; exact hrg.out
                  · rw [← encI_set]
                    simpa using T.out.1
                case measure => simp [intOf]; omega
            · skip
              have hxe : (a + b == x) = true := by simp [HAB.out]
              obtain ⟨t, ht1, ht2, t1, t2⟩ := bill_twice HBV.out g2 hdl.out hdr.out
              have HT1 := hide ht1
              have HT2 := hide ht2
              clear ht1 ht2
              have B1 := hide (World.ownsRow_lit (base := wr.heap.size) (e := 3) (size := 1) wr #[] 0 (Nat.le_refl _) (Nat.zero_le _) rfl)
              have B2 := hide (Sl.of_own (hod.out.alloc (.cells #[] 3)))
              go_wp2_with (at_builtin; first | (refine app_ints _ rfl (.tmp 90) (.tmp 91) rfl wr.heap.size _ 0 0 [] rfl B1.out _ _ 24 24 dl rfl B2.out (by simp) (by omega) (by omega) ?_; intro D2 d2 wa hoa hga; rw [Nat.zero_add] at hoa ⊢; have HOa := hide hoa; have HKa := hide hga; clear hoa hga) | (refine app_ints wa rfl (.tmp 92) (.tmp 93) rfl wr.heap.size D2 24 d2 ([] ++ dl) rfl HOa.out _ _ 24 24 dl rfl (Sl.of_own ((hod.out.alloc (.cells #[] 3)).kept HKa.out (own_ne hod.out B1.out (Nat.le_refl _)))) (by have := HKa.out.size; simp at this; omega) (by omega) (by omega) ?_; intro D3 d3 wb hob hgb; rw [show 24 + 24 = (dl ++ dl).length by simp [hdl.out]] at hob ⊢; have HOb := hide hob; have HKb := hide hgb; clear hob hgb))
              have DB := hide ((((hod.out.alloc (.cells #[] 3)).kept HKa.out (own_ne hod.out B1.out (Nat.le_refl _)))).kept HKb.out (own_ne hod.out HOa.out (Nat.le_refl _)))
              have XB := hide ((((hx.out.alloc (.cells #[] 3)).kept HKa.out (own_ne hx.out B1.out (Nat.le_refl _)))).kept HKb.out (own_ne hx.out HOa.out (Nat.le_refl _)))
              have hsa : wr.heap.size ≤ wa.heap.size := by have := HKa.out.size; simp at this; omega
              have KB := hide (hb.out.then (((Below.refl wr.heap.size wr).alloc (Nat.le_refl _) (.cells #[] 3)).trans ((grown_below B1.out HKa.out (by simp)).trans (grown_below HOa.out HKb.out hsa))))
              have HCb := implBill_any D D3 d d3 xs z ([] ++ dl ++ dl) wb (Sl.of_own XB.out) (Sl.of_own HOb.out) (by omega) (by simp [hdl.out])
              rw [show dl.length + dl.length = ([] ++ dl ++ dl).length by simp]
              go_fit HCb
              clear HCb
              rintro e w7 ⟨rfl, hb7⟩
              rw [show ([] ++ dl ++ dl) = dl ++ dl from rfl] at *
              rw [HT2.out]
              have X7 := hide (XB.out.keepB hb7)
              have D7 := hide (DB.out.keepB hb7)
              have K7 := hide (KB.out.then hb7)
              clear hb7
              go_wp2_with fail
              have HC8 := implBill_any D (some ⟨w5.heap.size, 0, none⟩) d 24 xs z dl w7 (Sl.of_own X7.out) (by rw [hdl.out]; exact Sl.of_own D7.out) (by omega) (by rw [hdl.out]; omega)
              rw [hdl.out] at HC8
              refine HC8.mono ?_
              clear HC8
              rintro e w8 ⟨rfl, hb8⟩
              rw [HT1.out]
              have K8 := hide (K7.out.then hb8)
              clear hb8
              go_wp2_with fail
              go_ret
              exact ⟨ret_bool (by simp), K8.out⟩
          · skip
            have hxe : (a + b == x) = true := by simp [HAB.out]
            obtain ⟨t, ht1, ht2, t1, t2⟩ := bill_twice HBV.out g2 hdl.out hdr.out
            have HT1 := hide ht1
            have HT2 := hide ht2
            clear ht1 ht2
            have B1 := hide (World.ownsRow_lit (base := wr.heap.size) (e := 3) (size := 1) wr #[] 0 (Nat.le_refl _) (Nat.zero_le _) rfl)
            have B2 := hide (Sl.of_own (hod.out.alloc (.cells #[] 3)))
            go_wp2_with (at_builtin; first | (refine app_ints _ rfl (.tmp 90) (.tmp 91) rfl wr.heap.size _ 0 0 [] rfl B1.out _ _ 24 24 dl rfl B2.out (by simp) (by omega) (by omega) ?_; intro D2 d2 wa hoa hga; rw [Nat.zero_add] at hoa ⊢; have HOa := hide hoa; have HKa := hide hga; clear hoa hga) | (refine app_ints wa rfl (.tmp 92) (.tmp 93) rfl wr.heap.size D2 24 d2 ([] ++ dl) rfl HOa.out _ _ 24 24 dl rfl (Sl.of_own ((hod.out.alloc (.cells #[] 3)).kept HKa.out (own_ne hod.out B1.out (Nat.le_refl _)))) (by have := HKa.out.size; simp at this; omega) (by omega) (by omega) ?_; intro D3 d3 wb hob hgb; rw [show 24 + 24 = (dl ++ dl).length by simp [hdl.out]] at hob ⊢; have HOb := hide hob; have HKb := hide hgb; clear hob hgb))
            have DB := hide ((((hod.out.alloc (.cells #[] 3)).kept HKa.out (own_ne hod.out B1.out (Nat.le_refl _)))).kept HKb.out (own_ne hod.out HOa.out (Nat.le_refl _)))
            have XB := hide ((((hx.out.alloc (.cells #[] 3)).kept HKa.out (own_ne hx.out B1.out (Nat.le_refl _)))).kept HKb.out (own_ne hx.out HOa.out (Nat.le_refl _)))
            have hsa : wr.heap.size ≤ wa.heap.size := by have := HKa.out.size; simp at this; omega
            have KB := hide (hb.out.then (((Below.refl wr.heap.size wr).alloc (Nat.le_refl _) (.cells #[] 3)).trans ((grown_below B1.out HKa.out (by simp)).trans (grown_below HOa.out HKb.out hsa))))
            have HCb := implBill_any D D3 d d3 xs z ([] ++ dl ++ dl) wb (Sl.of_own XB.out) (Sl.of_own HOb.out) (by omega) (by simp [hdl.out])
            rw [show dl.length + dl.length = ([] ++ dl ++ dl).length by simp]
            go_fit HCb
            clear HCb
            rintro e w7 ⟨rfl, hb7⟩
            rw [show ([] ++ dl ++ dl) = dl ++ dl from rfl] at *
            rw [HT2.out]
            have X7 := hide (XB.out.keepB hb7)
            have D7 := hide (DB.out.keepB hb7)
            have K7 := hide (KB.out.then hb7)
            clear hb7
            go_wp2_with fail
            have HC8 := implBill_any D (some ⟨w5.heap.size, 0, none⟩) d 24 xs z dl w7 (Sl.of_own X7.out) (by rw [hdl.out]; exact Sl.of_own D7.out) (by omega) (by rw [hdl.out]; omega)
            rw [hdl.out] at HC8
            refine HC8.mono ?_
            clear HC8
            rintro e w8 ⟨rfl, hb8⟩
            rw [HT1.out]
            have K8 := hide (K7.out.then hb8)
            clear hb8
            go_wp2_with fail
            go_ret
            exact ⟨ret_bool (by simp), K8.out⟩
  · go_enter Tryd.func3, Tryd.ntmps3
    go_wp2_with fail
    go_ret
    exact ⟨rfl, Below.refl _ _⟩

end Go.Proofs.YtjecbapmdgnglaaDoor
