/-
  Chapter 30, alarms behind an event: the program's function; and how the laws compare lists of alarms.
-/
import Derived.Test.YtijnahflfbjgiaaDoorTabW
namespace Go.Proofs.YtijnahflfbjgiaaDoor
open Go.RowKit
set_option linter.unusedVariables false

theorem cloneAl_any (A : Option Addr) (c : Nat) (xs : List (Int × Int × Int)) (w : World) (h : Sl w w.heap.size 3 A xs.length (enc3 xs)) (hm : xs.length ≤ 1048576) :
    Calls Tryd.prog 55 #[.slice A xs.length c] w fun e w' => ∃ D d, e = .returned (.slice D xs.length d) ∧ w'.ownsRow w.heap.size 31 3 (.slice D xs.length d) xs.length (enc3 xs) ∧ Below w.heap.size w w' := by
  cases A with
  | none =>
    have hx : xs = [] := by
      rcases Nat.eq_zero_or_pos xs.length with h0 | h0
      · exact List.length_eq_zero_iff.1 h0
      · obtain ⟨_, _, h, _⟩ := h.2 h0
        cases h
    subst hx
    have hnil := fun wx => Lib.run_eql_slice_nil (P := Tryd.prog) wx 23 31 none 0 c 0 0 Tryd.underlying23
    show Calls Tryd.prog 55 #[.slice none 0 c] w _
    go_enter Tryd.func55, Tryd.ntmps55
    go_wp2_with fail
    go_ret
    exact ⟨_, _, rfl, World.ownsRow_nil _ _ _ _, Below.refl _ _⟩
  | some ad =>
    have hnil := fun wx => Lib.run_eql_slice_nil (P := Tryd.prog) wx 23 31 (some ad) xs.length c 0 0 Tryd.underlying23
    have N6 := hide (World.ownsRow_lit (base := w.heap.size) (e := 31) (size := 3) w #[] 0 (Nat.le_refl _) (Nat.zero_le _) rfl)
    have B6 := (Below.refl w.heap.size w).alloc (Nat.le_refl _) (.cells #[] 31)
    have S6 := hide (h.below B6)
    go_enter Tryd.func55, Tryd.ntmps55
    go_wp2_with (at_builtin; refine app_threes 23 31 Tryd.underlying23 infoAlarm _ rfl (.tmp 5) (.tmp 6) rfl w.heap.size _ 0 0 [] rfl N6.out _ (some ad) xs.length c xs rfl S6.out (by simp) (by omega) (by omega) ?_; intro D2 d2 w7 ho7 hg7)
    go_wp2_with fail
    go_ret
    exact ⟨D2, d2, by simp, by simpa using ho7, B6.trans (grown_below N6.out hg7 (by simp))⟩

set_option maxRecDepth 8000 in
set_option maxHeartbeats 2000000 in
theorem implAlarmTell_any (A : Option Addr) (c : Nat) (xs : List (Int × Int × Int)) (i e t : Int) (w : World) (h : Sl w w.heap.size 3 A xs.length (enc3 xs)) (hm : xs.length ≤ 1048576) (hT : Tab w) :
    Calls Tryd.prog 13 #[.slice A xs.length c, .int .i64 i, .int .i64 e, .int .i64 t] w (Told (TellR xs i e t) w) := by
  have HH := hide h
  have HT := hide hT
  cases h1 : alarmB xs
  · have Q := hide h1
    go_enter Tryd.func13, Tryd.ntmps13
    go_wp2_with fail
    refine (implAlarmsValid_any _ _ _ _ h hm).mono ?_
    rintro _ w1 ⟨rfl, hb1⟩
    rw [h1]
    have K1 := hide hb1
    clear hb1
    go_wp2_with fail
    go_ret2
    exact ⟨[], none, 0, false, .inl ⟨Q.out, rfl, rfl⟩, rfl, World.ownsRow_nil _ _ _ _, K1.out⟩
  · have HV := hide h1
    have HL := hide (alarm_len h1)
    clear h hT
    go_enter Tryd.func13, Tryd.ntmps13
    go_wp2_with fail
    refine (implAlarmsValid_any _ _ _ _ HH.out hm).mono ?_
    rintro _ w1 ⟨rfl, hb1⟩
    rw [h1]
    have K1 := hide hb1
    clear hb1
    go_wp2_with fail
    refine (cloneAl_any _ _ _ _ (HH.out.to K1.out) hm).mono ?_
    rintro _ w2 ⟨D, d, rfl, ho2, hb2⟩
    have K2 := hide (K1.out.then hb2)
    have HT2 := hide (HT.out.to K2.out)
    have HO := hide (own_mono ho2 K1.out.size)
    clear ho2 hb2 h1
    by_cases hi0 : 0 ≤ i
    · by_cases hi1 : i < xs.length
      · by_cases he0 : 0 ≤ e
        · by_cases he1 : e ≤ 2
          · cases ht : inB t 0 999
            · have Q := hide (show (inB i 0 ((xs.length : Int) - 1) && inB e 0 2 && inB t 0 999) = false by rw [ht]; simp)
              go_wp2_with ((go_at_call 56; refine (powerValid_any _ _).mono ?_; rintro _ w' ⟨rfl, rfl⟩))
              go_ret2
              exact ⟨xs, D, d, false, .inr (.inl ⟨HV.out, Q.out, rfl, rfl⟩), rfl, HO.out, K2.out⟩
            · obtain ⟨ni, rfl⟩ := Int.eq_ofNat_of_zero_le hi0
              have hni : ni < xs.length := by omega
              have HNI := hide hni
              have HQ := hide (show inB (ni : Int) 0 ((xs.length : Int) - 1) = true ∧ inB e 0 2 = true ∧ inB t 0 999 = true from ⟨inB_mk (by omega) (by omega), inB_mk he0 he1, ht⟩)
              have ha := (alarm_at HV.out ni hni).2.1
              have HST := hide (show stepB (at3 xs ni).2.1 e = stepT (at3 xs ni).2.1 e by unfold stepB; rw [inB_mk ha.1 ha.2, HQ.out.2.1]; rfl)
              obtain ⟨gO, cO, hvO, hgO, hgO2⟩ := HO.out.form (by omega)
              cases hvO
              have u0 := HO.out.cellAt (ni * 3) (by omega)
              have u1 := HO.out.cellAt (ni * 3 + 1) (by omega)
              have u2 := HO.out.cellAt (ni * 3 + 2) (by omega)
              rw [enc3_at0 xs ni hni] at u0
              rw [enc3_at1 xs ni hni] at u1
              rw [enc3_at2 xs ni hni] at u2
              have z1 := HO.out.frozenAt (ni * 3 + 1)
              have z2 := HO.out.frozenAt (ni * 3 + 2)
              clear ha hni
              by_cases heq : stepT (at3 xs ni).2.1 e = (at3 xs ni).2.1
              · have hg : (stepT (at3 xs ni).2.1 e != (at3 xs ni).2.1) = false := by simp [heq]
                have HEQ := hide heq
                clear heq
                go_wp2_with (first | (go_at_call 56; refine (powerValid_any _ _).mono ?_; rintro _ w' ⟨rfl, rfl⟩) | (go_at_call 18; refine (implAlarmStep_any _ _ _ HT2.out).mono ?_; rintro _ w' ⟨rfl, rfl⟩; rw [HST.out]))
                go_ret2
                refine ⟨xs, some ⟨gO, 0, none⟩, d, true, .inr (.inr ⟨HV.out, HQ.out.1, HQ.out.2.1, HQ.out.2.2, ?_, rfl⟩), rfl, HO.out, K2.out⟩
                rw [Int.toNat_natCast, tellL, if_pos HEQ.out]
              · have hg : (stepT (at3 xs ni).2.1 e != (at3 xs ni).2.1) = true := by simp [heq]
                have HEQ := hide heq
                clear heq
                go_wp2_with (first | (go_at_call 56; refine (powerValid_any _ _).mono ?_; rintro _ w' ⟨rfl, rfl⟩) | (go_at_call 18; refine (implAlarmStep_any _ _ _ HT2.out).mono ?_; rintro _ w' ⟨rfl, rfl⟩; rw [HST.out]))
                go_ret2
                have hni2 := HNI.out
                refine ⟨tellL xs ni e t, some ⟨gO, 0, none⟩, d, true, .inr (.inr ⟨HV.out, HQ.out.1, HQ.out.2.1, HQ.out.2.2, by rw [Int.toNat_natCast], rfl⟩), by rw [tellL_len]; rfl, ?_, ?_⟩
                · rw [tellL_len, tellL, if_neg HEQ.out, enc3_set _ _ _ hni2]
                  have := ((HO.out.stored (ni * 3 + 1) (.int .i64 (stepT (at3 xs ni).2.1 e))).1.stored (ni * 3 + 2) (.int .i64 t)).1
                  rw [set_same (enc3 xs) (ni * 3) (.int .i64 (at3 xs ni).1) (enc3_at0 xs ni hni2)]
                  exact this
                · exact (K2.out.setCell (by show w.heap.size ≤ gO; omega) _).setCell (by show w.heap.size ≤ gO; omega) _
          · have Q := hide (show (inB i 0 ((xs.length : Int) - 1) && inB e 0 2 && inB t 0 999) = false by rw [inB_no (n := e) (by omega)]; simp)
            go_wp2_with fail
            go_ret2
            exact ⟨xs, D, d, false, .inr (.inl ⟨HV.out, Q.out, rfl, rfl⟩), rfl, HO.out, K2.out⟩
        · have Q := hide (show (inB i 0 ((xs.length : Int) - 1) && inB e 0 2 && inB t 0 999) = false by rw [inB_no (n := e) (by omega)]; simp)
          go_wp2_with fail
          go_ret2
          exact ⟨xs, D, d, false, .inr (.inl ⟨HV.out, Q.out, rfl, rfl⟩), rfl, HO.out, K2.out⟩
      · have Q := hide (show (inB i 0 ((xs.length : Int) - 1) && inB e 0 2 && inB t 0 999) = false by rw [inB_no (n := i) (by omega)]; simp)
        go_wp2_with fail
        go_ret2
        exact ⟨xs, D, d, false, .inr (.inl ⟨HV.out, Q.out, rfl, rfl⟩), rfl, HO.out, K2.out⟩
    · have Q := hide (show (inB i 0 ((xs.length : Int) - 1) && inB e 0 2 && inB t 0 999) = false by rw [inB_no (n := i) (by omega)]; simp)
      go_wp2_with fail
      go_ret2
      exact ⟨xs, D, d, false, .inr (.inl ⟨HV.out, Q.out, rfl, rfl⟩), rfl, HO.out, K2.out⟩

end Go.Proofs.YtijnahflfbjgiaaDoor
