/-
  Chapter 30, alarms: which are valid, the state behind an event, the alarms behind it, the one that is looked at next; the reference's functions and the program's.
-/
import Derived.Test.YtijnahflfbjgiaaDoorAlPlain
import Derived.Test.YtijnahflfbjgiaaDoorTriples
import Derived.Test.YtijnahflfbjgiaaDoorAppThree
namespace Go.Proofs.YtijnahflfbjgiaaDoor
open Go.RowKit
set_option linter.unusedVariables false

theorem specAlarmsValid_any (A : Option Addr) (c : Nat) (xs : List (Int × Int × Int)) (w : World) (h : Sl w w.heap.size 3 A xs.length (enc3 xs)) (hm : xs.length ≤ 1048576) :
    Calls Tryd.prog 23 #[.slice A xs.length c] w fun e w' => e = .returned (.bool (alarmB xs)) ∧ w = w' := by
  go_enter Tryd.func23, Tryd.ntmps23
  go_wp2
  go_loop [3] (fun i => ∃ k : Nat, k ≤ xs.length ∧ i = .int .i64 k ∧ (xs.take k).all alarmOk = true) (fun i => xs.length - (intOf i).toNat)
  case atStart => exact ⟨0, Nat.zero_le _, rfl, by simp⟩
  case round =>
    obtain ⟨k, hk, rfl, hall⟩ := hrel
    have H := Lib.hid hall; clear hall
    by_cases hlt : k < xs.length
    · obtain ⟨b, off, rfl, hb, hc, hd, he⟩ := h.three k hlt
      rcases alarm_cases (at3 xs k) with ⟨h1, q⟩ | ⟨h1, h2, q⟩ | ⟨h1, h2, h3, q⟩ | ⟨h1, h2, h3, q⟩
      all_goals
        have Q := hide q
        clear q
      rotate_left 3
      · go_wp2_with ((go_at_call 57; refine (l1In_any _ _ _ _).mono ?_; rintro e w' ⟨rfl, rfl⟩))
        go_round
        case rel => exact ⟨k + 1, by omega, by go_num, all_take _ _ _ hlt H.out (by rw [← at3_eq xs k hlt]; exact Q.out)⟩
        case measure => simp [intOf]; omega
      all_goals
        go_wp2_with ((go_at_call 57; refine (l1In_any _ _ _ _).mono ?_; rintro e w' ⟨rfl, rfl⟩))
        go_ret
        exact ⟨ret_bool (by unfold alarmB; rw [all_no _ _ _ hlt (by rw [← at3_eq xs k hlt]; exact Q.out)]; simp), rfl⟩
    · by_cases h6 : xs.length ≤ 8
      all_goals
        go_wp2
        go_ret
        exact ⟨ret_bool (by unfold alarmB; rw [all_end _ _ _ (by omega) H.out]; simp [h6]; omega), rfl⟩

theorem implAlarmsValid_any (A : Option Addr) (c : Nat) (xs : List (Int × Int × Int)) (w : World) (h : Sl w w.heap.size 3 A xs.length (enc3 xs)) (hm : xs.length ≤ 1048576) :
    Calls Tryd.prog 17 #[.slice A xs.length c] w fun e w' => e = .returned (.bool (alarmB xs)) ∧ Below w.heap.size w w' := by
  by_cases h6 : xs.length ≤ 8
  · go_enter Tryd.func17, Tryd.ntmps17
    go_wp2
    go_loopw [10] (fun i wr => ∃ k : Nat, k ≤ xs.length ∧ i = .int .i64 k ∧ (xs.take k).all alarmOk = true ∧ Below w.heap.size w wr) (fun i _ => xs.length - (intOf i).toNat)
    case atStart => exact ⟨0, Nat.zero_le _, rfl, by simp, Below.refl _ _⟩
    case round =>
      obtain ⟨k, hk, rfl, hall, hbl⟩ := hrel
      have H := Lib.hid hall; clear hall
      by_cases hlt : k < xs.length
      · obtain ⟨b, off, rfl, hb, hc, hd, he⟩ := h.three k hlt
        have hc' := (hbl.cell (p := ⟨b, off + k * 3, none⟩) hb).trans hc
        have hd' := (hbl.cell (p := ⟨b, off + k * 3 + 1, none⟩) hb).trans hd
        have he' := (hbl.cell (p := ⟨b, off + k * 3 + 2, none⟩) hb).trans he
        clear hc hd he
        have HB := hide hbl
        clear hbl
        by_cases h1 : 0 ≤ (at3 xs k).1
        · by_cases h2 : (at3 xs k).1 ≤ 9
          · by_cases h3 : 0 ≤ (at3 xs k).2.1
            · by_cases h4 : (at3 xs k).2.1 ≤ 3
              · cases h5 : inB (at3 xs k).2.2 0 999
                · have Q := hide (show alarmOk (at3 xs k) = false by simp [alarmOk, h5])
                  go_wp2_with ((go_at_call 56; refine (powerValid_any _ _).mono ?_; rintro e w' ⟨rfl, rfl⟩))
                  go_ret
                  exact ⟨ret_bool (by unfold alarmB; rw [all_no _ _ _ hlt (by rw [← at3_eq xs k hlt]; exact Q.out)]; simp), by repeat (first | exact HB.out | (refine Below.alloc ?_ (by have := HB.out.size; simp <;> omega) _))⟩
                · have Q := hide (show alarmOk (at3 xs k) = true by simp [alarmOk, h5, inB_mk h1 h2, inB_mk h3 h4])
                  go_wp2_with ((go_at_call 56; refine (powerValid_any _ _).mono ?_; rintro e w' ⟨rfl, rfl⟩))
                  go_roundw
                  case rel => exact ⟨k + 1, by omega, by go_num, all_take _ _ _ hlt H.out (by rw [← at3_eq xs k hlt]; exact Q.out), by repeat (first | exact HB.out | (refine Below.alloc ?_ (by have := HB.out.size; simp <;> omega) _))⟩
                  case measure => simp [intOf]; omega
              · have Q := hide (show alarmOk (at3 xs k) = false by simp only [alarmOk]; rw [inB_no (n := (at3 xs k).2.1) (by omega)]; simp)
                go_wp2_with fail
                go_ret
                exact ⟨ret_bool (by unfold alarmB; rw [all_no _ _ _ hlt (by rw [← at3_eq xs k hlt]; exact Q.out)]; simp), by repeat (first | exact HB.out | (refine Below.alloc ?_ (by have := HB.out.size; simp <;> omega) _))⟩
            · have Q := hide (show alarmOk (at3 xs k) = false by simp only [alarmOk]; rw [inB_no (n := (at3 xs k).2.1) (by omega)]; simp)
              go_wp2_with fail
              go_ret
              exact ⟨ret_bool (by unfold alarmB; rw [all_no _ _ _ hlt (by rw [← at3_eq xs k hlt]; exact Q.out)]; simp), by repeat (first | exact HB.out | (refine Below.alloc ?_ (by have := HB.out.size; simp <;> omega) _))⟩
          · have Q := hide (show alarmOk (at3 xs k) = false by simp only [alarmOk]; rw [inB_no (n := (at3 xs k).1) (by omega)]; simp)
            go_wp2_with fail
            go_ret
            exact ⟨ret_bool (by unfold alarmB; rw [all_no _ _ _ hlt (by rw [← at3_eq xs k hlt]; exact Q.out)]; simp), by repeat (first | exact HB.out | (refine Below.alloc ?_ (by have := HB.out.size; simp <;> omega) _))⟩
        · have Q := hide (show alarmOk (at3 xs k) = false by simp only [alarmOk]; rw [inB_no (n := (at3 xs k).1) (by omega)]; simp)
          go_wp2_with fail
          go_ret
          exact ⟨ret_bool (by unfold alarmB; rw [all_no _ _ _ hlt (by rw [← at3_eq xs k hlt]; exact Q.out)]; simp), by repeat (first | exact HB.out | (refine Below.alloc ?_ (by have := HB.out.size; simp <;> omega) _))⟩
      · go_wp2
        go_ret
        exact ⟨ret_bool (by unfold alarmB; rw [all_end _ _ _ (by omega) H.out]; simp [h6]), hbl⟩
  · go_enter Tryd.func17, Tryd.ntmps17
    go_wp2
    go_ret
    exact ⟨ret_bool (by unfold alarmB; simp [h6]), Below.refl _ _⟩

theorem specAlarmStep_any (s e : Int) (w : World) : Calls Tryd.prog 58 #[.int .i64 s, .int .i64 e] w fun r w' => r = .returned (.int .i64 (stepB s e)) ∧ w = w' := by
  cases h1 : inB s 0 3
  · have Q := hide (show stepB s e = -1 by simp [stepB, h1])
    go_enter Tryd.func58, Tryd.ntmps58
    go_wp2_with ((go_at_call 57; refine (l1In_any _ _ _ _).mono ?_; rintro e w' ⟨rfl, rfl⟩))
    go_ret
    exact ⟨ret_int Q.out.symm, rfl⟩
  · cases h2 : inB e 0 2
    · have Q := hide (show stepB s e = -1 by simp [stepB, h2])
      go_enter Tryd.func58, Tryd.ntmps58
      go_wp2_with ((go_at_call 57; refine (l1In_any _ _ _ _).mono ?_; rintro e w' ⟨rfl, rfl⟩))
      go_ret
      exact ⟨ret_int Q.out.symm, rfl⟩
    · have b1 := inB_true h1
      have b2 := inB_true h2
      obtain rfl | rfl | rfl | rfl : s = 0 ∨ s = 1 ∨ s = 2 ∨ s = 3 := by omega
      all_goals
        obtain rfl | rfl | rfl : e = 0 ∨ e = 1 ∨ e = 2 := by omega
      all_goals
        clear b1 b2
        go_enter Tryd.func58, Tryd.ntmps58
        go_wp2_with ((go_at_call 57; refine (l1In_any _ _ _ _).mono ?_; rintro e w' ⟨rfl, rfl⟩))
        go_ret
        exact ⟨ret_int (by decide), rfl⟩

theorem unseen_cases (p : Int × Int × Int) : (unseen p = false ∧ (p.2.1 != 1) = true ∧ (p.2.1 != 3) = true) ∨ (unseen p = true ∧ (p.2.1 != 1) = false) ∨ (unseen p = true ∧ (p.2.1 != 1) = true ∧ (p.2.1 != 3) = false) := by
  unfold unseen
  by_cases h1 : p.2.1 = 1
  · right; left; simp [h1]
  · by_cases h3 : p.2.1 = 3
    · right; right; simp [h3]
    · left; simp [h1, h3]
theorem allt_cases (xs : List (Int × Int × Int)) (a b : Nat) : (alLt xs a b = true ∧ decide ((at3 xs b).1 < (at3 xs a).1) = true) ∨ (alLt xs a b = false ∧ decide ((at3 xs b).1 < (at3 xs a).1) = false ∧ ((at3 xs a).1 == (at3 xs b).1) = false) ∨
    (alLt xs a b = true ∧ decide ((at3 xs b).1 < (at3 xs a).1) = false ∧ ((at3 xs a).1 == (at3 xs b).1) = true ∧ decide ((at3 xs a).2.2 < (at3 xs b).2.2) = true) ∨ (alLt xs a b = false ∧ decide ((at3 xs b).1 < (at3 xs a).1) = false ∧ ((at3 xs a).1 == (at3 xs b).1) = true ∧ decide ((at3 xs a).2.2 < (at3 xs b).2.2) = false) := by
  unfold alLt
  simp only [Int.toNat_natCast, decide_eq_true_eq, decide_eq_false_iff_not, beq_iff_eq, beq_eq_false_iff_ne]
  omega
theorem seenK_has {xs : List (Int × Int × Int)} {n k : Nat} (hk : k < n) : hasB (seenK xs n) k = !unseen (at3 xs k) := by
  unfold hasB
  cases h : unseen (at3 xs k)
  · simp only [Bool.not_false, decide_eq_true_eq]
    exact (seenK_mem _ _ _).2 ⟨by omega, h⟩
  · simp only [Bool.not_true, decide_eq_false_iff_not]
    intro hm
    have := ((seenK_mem _ _ _).1 hm).2
    rw [Int.toNat_natCast, h] at this
    cases this

set_option maxHeartbeats 8000000 in
theorem specAlarmNext_any (A : Option Addr) (c : Nat) (xs : List (Int × Int × Int)) (w : World) (h : Sl w w.heap.size 3 A xs.length (enc3 xs)) (hm : xs.length ≤ 1048576) :
    Calls Tryd.prog 65 #[.slice A xs.length c] w fun e w' => e = .returned (.int .i64 (nextB xs)) ∧ ∃ n, w' = w.drewN n := by
  cases h1 : alarmB xs
  · have Q := hide (show nextB xs = -1 by simp [nextB, h1])
    go_enter Tryd.func65, Tryd.ntmps65
    go_wp2_with fail
    refine (specAlarmsValid_any _ _ _ _ h hm).mono ?_
    rintro e w1 ⟨rfl, rfl⟩
    rw [h1]
    go_wp2_with fail
    go_ret
    exact ⟨ret_int Q.out.symm, 0, rfl⟩
  · have Q := hide (show nextB xs = bestF (alLt xs) (seenK xs xs.length) xs.length by rw [nextB, if_pos h1]; rfl)
    go_enter Tryd.func65, Tryd.ntmps65
    go_wp2_with fail
    refine (specAlarmsValid_any _ _ _ _ h hm).mono ?_
    rintro e w1 ⟨rfl, rfl⟩
    rw [h1]
    go_wp2_with fail
    go_loopw [3, 4] (fun q i wr => ∃ k n : Nat, k ≤ xs.length ∧ i = .int .i64 k ∧ q = .int .i64 (bestF (alLt xs) (seenK xs xs.length) k) ∧ wr = w.drewN n) (fun _ i _ => xs.length - (intOf i).toNat)
    case atStart => exact ⟨0, 0, Nat.zero_le _, rfl, rfl, rfl⟩
    case round =>
      obtain ⟨k, n, hk, rfl, rfl, rfl⟩ := hrel
      by_cases hlt : k < xs.length
      · obtain ⟨b, off, rfl, hb, hc, hd, he⟩ := h.three k hlt
        have i0 : (0 : Int) ≤ k := by omega
        have i1 : (k : Int) < xs.length := by omega
        have hh := seenK_has (xs := xs) hlt
        rcases unseen_cases (at3 xs k) with ⟨u, s1, s2⟩ | ⟨u, s1⟩ | ⟨u, s1, s2⟩
        · rw [u] at hh
          have E := hide (bestF_has (lt := alLt xs) hh)
          clear hh u
          go_wp2_with fail
          go_roundw
          case rel => exact ⟨k + 1, _, by omega, by go_num, vint E.out.symm, rfl⟩
          case measure => simp [intOf]; omega
        all_goals
          rw [u] at hh
          rcases bestF_lt (alLt xs) (seenK xs xs.length) k with hb1 | ⟨hb1, hb2⟩
        all_goals (try
          rw [hb1]
          have E := hide (bestF_first (lt := alLt xs) hh hb1)
          clear hb1 hh u
          go_wp2_with fail
          go_quiet (fail)
          go_wp2_with fail
          go_roundw
          case rel => exact ⟨k + 1, _, by omega, by go_num, vint E.out.symm, rfl⟩
          case measure => simp [intOf]; omega)
        all_goals
          obtain ⟨m, em⟩ := Int.eq_ofNat_of_zero_le hb1
          have EM := hide em
          rw [em]
          have hml : m < xs.length := by omega
          clear hb1 hb2 em
          obtain ⟨b', off', hA, _, hc2, hd2, he2⟩ := h.three m hml
          simp at hA
          obtain ⟨rfl, rfl⟩ := hA
          have j0 : (0 : Int) ≤ m := by omega
          have j1 : (m : Int) < xs.length := by omega
          have hneg : decide ((m : Int) < 0) = false := by simp
          rcases allt_cases xs k m with ⟨l, t1⟩ | ⟨l, t1, t2⟩ | ⟨l, t1, t2, t3⟩ | ⟨l, t1, t2, t3⟩
        all_goals
          first
          | have E := hide (bestF_no hh EM.out l)
          | have E := hide (bestF_yes hh EM.out l)
          clear hh u l
          go_wp2_with fail
          go_quiet (fail)
          go_wp2_with fail
          go_roundw
          case rel => exact ⟨k + 1, _, by omega, by go_num, vint E.out.symm, rfl⟩
          case measure => simp [intOf]; omega
      · obtain rfl : k = xs.length := by omega
        go_wp2_with fail
        go_ret
        exact ⟨ret_int Q.out.symm, _, rfl⟩

/-- What AlarmTell returns. -/
def TellR (xs : List (Int × Int × Int)) (i e t : Int) (ys : List (Int × Int × Int)) (ok : Bool) : Prop :=
  (alarmB xs = false ∧ ys = [] ∧ ok = false) ∨ (alarmB xs = true ∧ (inB i 0 ((xs.length : Int) - 1) && inB e 0 2 && inB t 0 999) = false ∧ ys = xs ∧ ok = false) ∨
  (alarmB xs = true ∧ inB i 0 ((xs.length : Int) - 1) = true ∧ inB e 0 2 = true ∧ inB t 0 999 = true ∧ ys = tellL xs i.toNat e t ∧ ok = true)
def Told (R : List (Int × Int × Int) → Bool → Prop) (w : World) (e : Ending) (w' : World) : Prop :=
  ∃ (ys : List (Int × Int × Int)) (D : Option Addr) (d : Nat) (ok : Bool), R ys ok ∧ e = .returned (.tuple #[.slice D ys.length d, .bool ok]) ∧ w'.ownsRow w.heap.size 31 3 (.slice D ys.length d) ys.length (enc3 ys) ∧ Below w.heap.size w w'
theorem enc3_set (xs : List (Int × Int × Int)) (k : Nat) (v : Int × Int × Int) (h : k < xs.length) : enc3 (xs.set k v) = (((enc3 xs).set (k * 3) (.int .i64 v.1)).set (k * 3 + 1) (.int .i64 v.2.1)).set (k * 3 + 2) (.int .i64 v.2.2) := by
  induction xs generalizing k with
  | nil => simp at h
  | cons p t ih =>
    cases k with
    | zero => simp [enc3]
    | succ k =>
      have := ih k (by simpa using h)
      rw [show (k + 1) * 3 = k * 3 + 3 from by omega, show k * 3 + 3 + 1 = k * 3 + 1 + 3 from by omega, show k * 3 + 3 + 2 = k * 3 + 2 + 3 from by omega]
      simpa [enc3] using this

theorem set_same {α : Type} (l : List α) (k : Nat) (a : α) (h : l[k]? = some a) : l.set k a = l := by
  refine List.ext_getElem? fun j => ?_
  by_cases hj : k = j
  · subst hj
    rw [List.getElem?_set_self (List.getElem?_eq_some_iff.1 h).1, h]
  · rw [List.getElem?_set_ne hj]
theorem tell_cases (i e t h : Int) : (inB i 0 h = false ∧ (inB i 0 h && inB e 0 2 && inB t 0 999) = false) ∨ (inB i 0 h = true ∧ inB e 0 2 = false ∧ (inB i 0 h && inB e 0 2 && inB t 0 999) = false) ∨ (inB i 0 h = true ∧ inB e 0 2 = true ∧ inB t 0 999 = false ∧ (inB i 0 h && inB e 0 2 && inB t 0 999) = false) ∨ (inB i 0 h = true ∧ inB e 0 2 = true ∧ inB t 0 999 = true) := by
  cases inB i 0 h <;> cases inB e 0 2 <;> cases inB t 0 999 <;> simp
set_option maxRecDepth 8000 in
set_option maxHeartbeats 1000000 in
theorem specAlarmTell_any (A : Option Addr) (c : Nat) (xs : List (Int × Int × Int)) (i e t : Int) (w : World) (h : Sl w w.heap.size 3 A xs.length (enc3 xs)) (hm : xs.length ≤ 1048576) :
    Calls Tryd.prog 14 #[.slice A xs.length c, .int .i64 i, .int .i64 e, .int .i64 t] w (Told (TellR xs i e t) w) := by
  have bw := (Below.refl _ w).alloc (Nat.le_refl _) (.cells #[] 31)
  have HO := hide (World.ownsRow_lit (base := w.heap.size) (e := 31) (size := 3) w #[] 0 (Nat.le_refl _) (Nat.zero_le _) rfl)
  have HBW := hide bw
  have HH := hide h
  have HS := hide (h.to bw)
  clear bw
  cases h1 : alarmB xs
  · have Q := hide h1
    go_enter Tryd.func14, Tryd.ntmps14
    go_wp2_with fail
    refine (specAlarmsValid_any _ _ _ _ h hm).mono ?_
    rintro _ w1 ⟨rfl, rfl⟩
    rw [h1]
    go_wp2_with fail
    go_ret2
    exact ⟨[], _, _, false, .inl ⟨Q.out, rfl, rfl⟩, rfl, HO.out, HBW.out⟩
  · have HV := hide h1
    clear h
    have HL := hide (alarm_len h1)
    rcases tell_cases i e t (xs.length - 1 : Int) with ⟨q1, q⟩ | ⟨q1, q2, q⟩ | ⟨q1, q2, q3, q⟩ | ⟨q1, q2, q3⟩
    rotate_left 3
    · have b1 := inB_true q1
      have b2 := inB_true q2
      have b3 := inB_true q3
      obtain ⟨ni, rfl⟩ := Int.eq_ofNat_of_zero_le b1.1
      have hni : ni < xs.length := by omega
      have HNI := hide hni
      have n0 : (0 : Int) ≤ ni := by omega
      have n1 : (ni : Int) < xs.length := by omega
      obtain ⟨b, off, rfl, hb, hc, hd, he⟩ := HH.out.three ni hni
      have ha := (alarm_at h1 ni hni).2.1
      have hst : stepB (at3 xs ni).2.1 e = stepT (at3 xs ni).2.1 e := by unfold stepB; rw [inB_mk ha.1 ha.2, q2]; rfl
      have HQ := hide (And.intro q1 (And.intro q2 q3))
      have HST := hide hst
      clear b2 b3 ha hst b1 hni
      go_enter Tryd.func14, Tryd.ntmps14
      go_wp2_with fail
      refine (specAlarmsValid_any _ _ _ _ HH.out hm).mono ?_
      rintro _ w1 ⟨rfl, rfl⟩
      rw [h1]
      clear h1
      go_wp2_with (at_builtin; refine app_threes 23 31 Tryd.underlying23 infoAlarm _ rfl (.tmp 16) (.tmp 17) rfl w.heap.size _ 0 0 [] rfl HO.out _ _ xs.length c xs rfl HS.out (by simp) (by omega) (by omega) ?_; intro D2 d2 w4 ho4 hg4; rw [Nat.zero_add] at ho4 ⊢; have HO4 : Hid (w4.ownsRow w.heap.size 31 3 (.slice D2 xs.length d2) xs.length (enc3 xs)) := ho4; have HB4 := hide (HBW.out.trans (grown_below HO.out hg4 (by simp))); clear ho4 hg4)
      have hni2 := HNI.out
      have d0 := cellk HB4.out hc
      have d1 := cellk HB4.out hd
      have d2' := cellk HB4.out he
      by_cases heq : stepT (at3 xs ni).2.1 e = (at3 xs ni).2.1
      · have hg : (stepT (at3 xs ni).2.1 e != (at3 xs ni).2.1) = false := by simp [heq]
        have HEQ := hide heq
        clear heq
        go_wp2_with (first | (go_at_call 57; refine (l1In_any _ _ _ _).mono ?_; rintro _ w' ⟨rfl, rfl⟩) | (go_at_call 58; refine (specAlarmStep_any _ _ _).mono ?_; rintro _ w' ⟨rfl, rfl⟩; rw [HST.out]))
        go_ret2
        refine ⟨xs, D2, d2, true, .inr (.inr ⟨HV.out, HQ.out.1, HQ.out.2.1, HQ.out.2.2, ?_, rfl⟩), rfl, HO4.out, HB4.out⟩
        rw [Int.toNat_natCast, tellL, if_pos HEQ.out]
      · have hg : (stepT (at3 xs ni).2.1 e != (at3 xs ni).2.1) = true := by simp [heq]
        have HEQ := hide heq
        clear heq
        obtain ⟨gO, cO, hvO, hgO, hgO2⟩ := HO4.out.form (by omega)
        cases hvO
        have u0 := HO4.out.cellAt (ni * 3) (by omega)
        have u1 := HO4.out.cellAt (ni * 3 + 1) (by omega)
        have u2 := HO4.out.cellAt (ni * 3 + 2) (by omega)
        rw [enc3_at0 xs ni hni2] at u0
        rw [enc3_at1 xs ni hni2] at u1
        rw [enc3_at2 xs ni hni2] at u2
        have z1 := HO4.out.frozenAt (ni * 3 + 1)
        have z2 := HO4.out.frozenAt (ni * 3 + 2)
        go_wp2_with (first | (go_at_call 57; refine (l1In_any _ _ _ _).mono ?_; rintro _ w' ⟨rfl, rfl⟩) | (go_at_call 58; refine (specAlarmStep_any _ _ _).mono ?_; rintro _ w' ⟨rfl, rfl⟩; rw [HST.out]))
        go_ret2
        refine ⟨tellL xs ni e t, some ⟨gO, 0, none⟩, d2, true, .inr (.inr ⟨HV.out, HQ.out.1, HQ.out.2.1, HQ.out.2.2, by rw [Int.toNat_natCast], rfl⟩), by rw [tellL_len]; rfl, ?_, ?_⟩
        · rw [tellL_len, tellL, if_neg HEQ.out, enc3_set _ _ _ hni2]
          have := ((HO4.out.stored (ni * 3 + 1) (.int .i64 (stepT (at3 xs ni).2.1 e))).1.stored (ni * 3 + 2) (.int .i64 t)).1
          rw [set_same (enc3 xs) (ni * 3) (.int .i64 (at3 xs ni).1) (enc3_at0 xs ni hni2)]
          exact this
        · exact (HB4.out.setCell (by show w.heap.size ≤ gO; omega) _).setCell (by show w.heap.size ≤ gO; omega) _
    all_goals
      have Q := hide q
      clear q
      go_enter Tryd.func14, Tryd.ntmps14
      go_wp2_with fail
      refine (specAlarmsValid_any _ _ _ _ HH.out hm).mono ?_
      rintro _ w1 ⟨rfl, rfl⟩
      rw [h1]
      clear h1
      go_wp2_with (at_builtin; refine app_threes 23 31 Tryd.underlying23 infoAlarm _ rfl (.tmp 16) (.tmp 17) rfl w.heap.size _ 0 0 [] rfl HO.out _ _ xs.length c xs rfl HS.out (by simp) (by omega) (by omega) ?_; intro D2 d2 w4 ho4 hg4; rw [Nat.zero_add] at ho4 ⊢; have HO4 : Hid (w4.ownsRow w.heap.size 31 3 (.slice D2 xs.length d2) xs.length (enc3 xs)) := ho4; have HB4 := hide (HBW.out.trans (grown_below HO.out hg4 (by simp))); clear ho4 hg4)
      go_wp2_with ((go_at_call 57; refine (l1In_any _ _ _ _).mono ?_; rintro _ w' ⟨rfl, rfl⟩))
      go_ret2
      exact ⟨xs, D2, d2, false, .inr (.inl ⟨HV.out, Q.out, rfl, rfl⟩), rfl, HO4.out, HB4.out⟩

end Go.Proofs.YtijnahflfbjgiaaDoor
