/-
  The law FnAlarmRun over drawn events: the walk.
-/
import Derived.Test.YteffcemgmabdnaaDoorTabW
namespace Go.Proofs.YteffcemgmabdnaaDoor
open Go.RowKit
set_option linter.unusedVariables false

/-- A drawn state and drawn events. -/
def GotRun (w : World) (e : Ending) (w' : World) : Prop :=
  ∃ (s : Int) (es : List Int) (D : Option Addr) (d : Nat), (0 ≤ s ∧ s ≤ 8) ∧ es.length ≤ 11 ∧ (∀ n ∈ es, 0 ≤ n ∧ n ≤ 5) ∧ D ≠ none ∧ e = .returned (.tuple #[.int .i64 s, .slice D es.length d]) ∧ w'.ownsRow w.heap.size 3 1 (.slice D es.length d) es.length (encI es) ∧ Below w.heap.size w w'

set_option maxHeartbeats 1000000 in
theorem DrawAlarmRun_any (A : Option Addr) (c : Nat) (xs : List Int) (w : World) (h : Sl w w.heap.size 1 A xs.length (encU xs)) (hc : xs.length ≤ c) (hm : c ≤ maxLen) (hx : ∀ n ∈ xs, 0 ≤ n ∧ n ≤ 255) :
    Calls Tryd.prog 11 #[.slice A xs.length c] w (GotRun w) := by
  go_enter Tryd.func11, Tryd.ntmps11
  go_wp2_with fail
  refine (l20Open_any _ _ _ _ h hc hm hx).mono ?_
  rintro e w0 ⟨rfl, hr, hb⟩
  have hr0 : RdU w.heap.size w0 w.heap.size 0 := ⟨0, Nat.le_refl _, hr⟩
  have K0 := hide hb
  have hs := hb.size
  have hlt := hr0.lt
  clear hr hb hx h
  go_wp2_with fail
  refine (pick_u _ _ _ 4 _ hr0 (by omega)).mono ?_
  rintro e w1 ⟨v, u1, u2, _, rfl, k1, o1⟩
  have u3 := u2 (by omega)
  have K1 := hide (K0.out.trans (o1.below (Nat.le_refl _)))
  clear u2 o1 hr0
  go_wp2_with fail
  refine (pick_u _ _ _ 12 _ k1 (by omega)).mono ?_
  rintro e w2 ⟨v', y1, y2, _, rfl, k2, o2⟩
  have y3 := y2 (by omega)
  have K2 := hide (K1.out.trans (o2.below (Nat.le_refl _)))
  have hs2 := K2.out.size
  have hlt2 := k2.lt
  clear y2 o2 k1
  have R3 := hide (k2.grown (World.grownBy_alloc w2 (.cells #[] 3) none) (fun k hk => by cases hk))
  have A3 := hide (World.ownsRow_lit (base := w2.heap.size) (e := 3) (size := 1) w2 #[] 0 (Nat.le_refl _) (Nat.zero_le _) rfl)
  have G3 := hide (grown_alloc (World.grownBy.refl w2 (some w.heap.size)) (.cells #[] 3))
  clear k2
  go_wp2_with fail
  refine (pick_u _ _ _ 12 _ R3.out (by omega)).mono ?_
  rintro e w3 ⟨m, z1, z2, _, rfl, k3, o3⟩
  have z3 := z2 (by omega)
  have R4 := hide k3
  have A4 := hide (o3.own A3.out hlt2)
  have G4 := hide (G3.out.trans o3.1)
  obtain ⟨m, rfl⟩ := Int.eq_ofNat_of_zero_le z1
  clear z2 o3 k3 A3 G3 R3
  have HS : Hid (0 ≤ v + v' / 11 * 5 ∧ v + v' / 11 * 5 ≤ 8) := by refine hide ?_; omega
  go_wp2_with fail
  go_loopw [6, 7] (fun l q wr => ∃ (es : List Int) (D : Option Addr) (d m : Nat), l = .slice D es.length d ∧ q = .int .i64 m ∧ es.length + m ≤ 11 ∧ D ≠ none ∧ Hid (∀ n ∈ es, 0 ≤ n ∧ n ≤ 5) ∧ Hid (wr.ownsRow w2.heap.size 3 1 (.slice D es.length d) es.length (encI es)) ∧ Hid (RdU w.heap.size wr w.heap.size (10 + 2 * es.length)) ∧ Hid (w2.grownBy wr (some w.heap.size))) (fun _ q _ => (intOf q).toNat)
  case atStart => exact ⟨[], _, _, m, rfl, rfl, by simp; omega, by simp, by simp [Hid], A4.out, hide (R4.out.more (by omega)), G4⟩
  case round =>
    obtain ⟨es, D, d, m, rfl, rfl, hl, hdn, HE, HO, HR, HG⟩ := hrel
    clear A4 R4 G4
    by_cases hmm : 0 < m
    · go_wp2_with fail
      refine (pick_u _ _ _ 3 _ HR.out (by omega)).mono ?_
      rintro e w4 ⟨a, a1, a2, _, rfl, k4, o4⟩
      have a3 := a2 (by omega)
      have R5 := hide k4
      have HO5 := hide (o4.own HO.out hlt2)
      have G5 := hide (HG.out.trans o4.1)
      clear a2 k4 o4
      go_wp2_with fail
      refine (pick_u _ _ _ 60 _ R5.out (by omega)).mono ?_
      rintro e w5 ⟨b, b1, b2, _, rfl, k5, o5⟩
      have b3 := b2 (by omega)
      have R6 := hide k5
      have HO6 := hide (o5.own HO5.out hlt2)
      have G6 := hide (G5.out.trans o5.1)
      have hs6 := G6.out.size
      clear b2 k5 o5
      have HB : Hid (0 ≤ a + b / 59 * 3 ∧ a + b / 59 * 3 ≤ 5) := by refine hide ?_; omega
      go_wp2_with (at_builtin; refine app_int w5 rfl (.tmp 24) (.tmp 32) rfl w2.heap.size D es.length d es (a + b / 59 * 3) rfl HO6.out w5.heap.size rfl rfl hs6 (by omega) ?_; intro D2 d2 w6 ho6 hg6)
      have HO7 := hide ho6
      have G7 := hide (grown_step G6.out hg6 (own_big HO6.out))
      have R7 := hide (R6.out.grown hg6 (fun k hk => by have := own_big HO6.out k hk; omega))
      obtain ⟨g7, c7, hv7, _, _⟩ := HO7.form (by omega)
      have HDN := hide (show D2 ≠ none by cases hv7; simp)
      clear ho6 hg6 hv7 hdn
      go_roundw
      case rel => exact ⟨es ++ [a + b / 59 * 3], D2, d2, m - 1, by simp, by go_num, by simp; omega, HDN.out, hide (fun n hn => by rcases List.mem_append.1 hn with h | h; exact HE.out n h; rw [List.mem_singleton.1 h]; exact HB.out), by simpa using HO7, hide (R7.out.more (by simp; omega)), G7⟩
      case measure => simp [intOf]; omega
    · obtain rfl : m = 0 := by omega
      have KF := hide (K2.out.trans (below_of_grown HG.out (Nat.le_refl _) hlt2))
      go_wp2_with fail
      go_ret2
      exact ⟨_, es, D, d, HS.out, by omega, HE.out, hdn, rfl, own_mono HO.out hs2, KF.out⟩

theorem run_cases (s : Int) (es : List Int) : runB s es = -1 ∨ (inB s 0 3 = true ∧ runB s es = es.foldl stepB s ∧ 0 ≤ runB s es ∧ runB s es ≤ 3) := by
  unfold runB
  cases h : inB s 0 3
  · exact .inl rfl
  · have hb := inB_true h
    rcases foldl_in s (.inr hb) es with h1 | h1
    · exact .inl (by simpa using h1)
    · exact .inr ⟨rfl, by simp, by simpa using h1⟩
/-- Whether an event from k on, ahead of j, is an acknowledgement. -/
def ackS (es : List Int) (k j : Nat) : Bool := decide (∃ i, i < j ∧ k ≤ i ∧ at_ es i = 2)
theorem ackS_zero (es : List Int) (k : Nat) : ackS es k k = false := by simp [ackS]; intros; omega
theorem ackS_old {es : List Int} {k j : Nat} (h : ackS es k j = true) : ackS es k (j + 1) = true := by
  simp only [ackS, decide_eq_true_eq] at h ⊢
  obtain ⟨i, h1, h2, h3⟩ := h
  exact ⟨i, by omega, h2, h3⟩
theorem ackS_new {es : List Int} {k j : Nat} (hkj : k ≤ j) (h : at_ es j = 2) : ackS es k (j + 1) = true := by
  simp only [ackS, decide_eq_true_eq]
  exact ⟨j, by omega, hkj, h⟩
theorem ackS_not {es : List Int} {k j : Nat} (h : ackS es k j = false) (h2 : at_ es j ≠ 2) : ackS es k (j + 1) = false := by
  simp only [ackS, decide_eq_false_iff_not] at h ⊢
  rintro ⟨i, h3, h4, h5⟩
  by_cases hij : i = j
  · subst hij; exact h2 h5
  · exact h ⟨i, by omega, h4, h5⟩
def unI (v : Int) : Bool := decide (v = 1 ∨ v = 3)
theorem unseen_step {v e : Int} (h : unI v = true) (he : e ≠ 2) (hs : stepB v e ≠ -1) : unI (stepB v e) = true := by
  simp only [unI, decide_eq_true_eq] at h ⊢
  unfold stepB at hs ⊢
  split at hs
  · rename_i h1
    rw [if_pos h1]
    simp only [Bool.and_eq_true] at h1
    have := inB_true h1.2
    unfold stepT
    (repeat' split) <;> omega
  · exact absurd rfl hs
theorem unseen_stay (es : List Int) (v : Int) (h : unI v = true) (he : ∀ e ∈ es, e ≠ 2) (hs : es.foldl stepB v ≠ -1) : unI (es.foldl stepB v) = true := by
  induction es generalizing v with
  | nil => exact h
  | cons e es ih =>
    refine ih _ (unseen_step h (he e (by simp)) fun h1 => hs ?_) (fun x hx => he x (by simp [hx])) hs
    rw [List.foldl_cons, h1, foldl_neg]
/-- No alarm goes away unseen. -/
theorem run_law {s : Int} {es : List Int} {x : Int} (hs : inB s 0 3 = true) (hx : runB s es = x) (h0 : 0 ≤ x) (k : Nat) (hk : k ≤ es.length) :
    (unI (runB s (es.take k)) = false ∨ unI x = true ∨ ackS es k es.length = true) ∧ runB (runB s (es.take k)) (es.drop k) = x := by
  have hr : runB s es = es.foldl stepB s := by unfold runB; rw [hs]; rfl
  have hn : runB s (es.take k) = (es.take k).foldl stepB s := by unfold runB; rw [hs]; rfl
  have hv : (es.take k).foldl stepB s ≠ -1 := fun h => by have := foldl_dead s es k h; omega
  have hv2 := foldl_in s (.inr (inB_true hs)) (es.take k)
  rw [hn]
  constructor
  · cases hu : unI ((es.take k).foldl stepB s)
    · exact .inl rfl
    · cases ha : ackS es k es.length
      · refine .inr (.inl ?_)
        have := unseen_stay (es.drop k) _ hu (fun e he h2 => by
          obtain ⟨j, hj, rfl⟩ := List.getElem_of_mem he
          simp only [List.length_drop] at hj
          simp only [ackS, decide_eq_false_iff_not] at ha
          refine ha ⟨k + j, by omega, by omega, ?_⟩
          rw [at_eq es (k + j) (by omega)]
          simpa using h2) (by rw [foldl_cut]; omega)
        rw [foldl_cut, ← hr, hx] at this
        exact this
      · exact .inr (.inr rfl)
  · unfold runB
    rw [inB_mk (n := (es.take k).foldl stepB s) (by omega) (by omega), if_pos rfl, foldl_cut, ← hr, hx]
theorem lawUnI_any (v : Int) (b : Bool) (h : unI v = b) (w : World) : Calls Tryd.prog 15 #[.int .i64 v] w fun e w' => e = .returned (.bool b) ∧ w = w' :=
  lawUnseen_eq (0, v, 0) b h w

set_option maxRecDepth 8000 in
set_option maxHeartbeats 4000000 in
theorem fnAlarmRun_walk (A0 : Option Addr) (c0 : Nat) (x0 : List Int) (w : World) (l0 : x0.length ≤ c0) (m0 : c0 ≤ maxLen) (s0 : Sl w w.heap.size 1 A0 x0.length (encU x0)) (i0 : ∀ n ∈ x0, 0 ≤ n ∧ n ≤ 255) (hT : Tab w) :
    Calls Tryd.prog 3 #[.slice A0 x0.length c0] w fun e w' => e = .returned (.bool true) ∧ Below w.heap.size w w' := by
  have hm2 := m0
  unfold maxLen at m0
  by_cases hm : x0.length ≤ 1048576
  · have HC := hide (DrawAlarmRun_any A0 c0 x0 w s0 l0 hm2 i0)
    clear i0 s0
    go_enter Tryd.func3, Tryd.ntmps3
    go_wp2_with fail
    refine HC.out.mono ?_
    rintro e w1 ⟨s, es, D, d, hsr, hl, her, hdn, rfl, ho, hb1⟩
    have HDN := hide hdn
    clear hdn
    have K := hide hb1
    have HT := hide (hT.to hb1)
    have HO := hide ho
    have HS := hide hsr
    clear hb1 HC her ho hsr hT
    go_wp2_with fail
    refine (implAlarmRun_any _ _ _ _ _ (Sl.of_own HO.out) (by omega) HT.out).mono ?_
    rintro e w' ⟨rfl, rfl⟩
    go_wp2_with fail
    refine (specAlarmRun_any _ _ _ _ _ (Sl.of_own HO.out) (by omega)).mono ?_
    rintro e w' ⟨rfl, rfl⟩
    rcases run_cases s es with h1 | ⟨hs, hr, h0, h3⟩
    · rw [h1]
      clear h1
      go_wp2_with fail
      refine (alive_any _).mono ?_
      rintro e w6 ⟨rfl, hb6⟩
      have K6 := hide (K.out.then hb6)
      clear hb6
      go_wp2_with fail
      go_ret
      exact ⟨rfl, K6.out⟩
    · obtain ⟨x, hx⟩ : ∃ x, runB s es = x := ⟨_, rfl⟩
      have HX := hide hx
      rw [hx] at h0 h3 ⊢
      have HS2 := hide hs
      have HLAW := hide (fun k hk => run_law hs hx h0 k hk)
      clear hr hs hx
      go_wp2_with fail
      go_loopw [6, 7, 8, 9] (fun i _ _ _ wr => ∃ k : Nat, k ≤ es.length + 1 ∧ i = .int .i64 k ∧ wr = w1) (fun i _ _ _ _ => es.length + 1 - (intOf i).toNat)
      case atStart => exact ⟨0, by omega, rfl, rfl⟩
      case round =>
        obtain ⟨k, hk, rfl, rfl⟩ := hrel
        by_cases hlt : k ≤ es.length
        · obtain ⟨wo, hwo⟩ : ∃ wo : World, wo = wr := ⟨_, rfl⟩
          go_wp2_with fail
          go_loopw [7, 8] (fun q i wx => ∃ j : Nat, k ≤ j ∧ j ≤ es.length ∧ i = .int .i64 j ∧ q = .bool (ackS es k j) ∧ wx = wr) (fun _ i _ => es.length - (intOf i).toNat)
          case atStart => exact ⟨k, Nat.le_refl _, hlt, rfl, by rw [ackS_zero], rfl⟩
          case round =>
            obtain ⟨j, hkj, hj, rfl, rfl, rfl⟩ := hrel
            by_cases hjl : j < es.length
            · obtain ⟨gx, cx, hvx, hgx, hgx2⟩ := HO.out.form (by omega)
              cases hvx
              have hc := HO.out.cellAt j (by omega)
              rw [encI_at es j hjl] at hc
              have j0 : (0 : Int) ≤ j := by omega
              have j1 : (j : Int) < es.length := by omega
              cases hak : ackS es k j
              · by_cases h2 : at_ es j = 2
                · have HN := hide (ackS_new hkj h2)
                  have he : (at_ es j == 2) = true := by simp [h2]
                  clear h2
                  go_wp2_with fail
                  go_roundw
                  case rel => exact ⟨j + 1, by omega, by omega, by go_num, by rw [HN.out], by first | rfl | trivial⟩
                  case measure => simp [intOf]; omega
                · have HN := hide (ackS_not hak h2)
                  have he : (at_ es j == 2) = false := by simp [h2]
                  clear h2
                  go_wp2_with fail
                  go_roundw
                  case rel => exact ⟨j + 1, by omega, by omega, by go_num, by rw [HN.out], by first | rfl | trivial⟩
                  case measure => simp [intOf]; omega
              · have HN := hide (ackS_old hak)
                go_wp2_with fail
                go_roundw
                case rel => exact ⟨j + 1, by omega, by omega, by go_num, by rw [HN.out], by first | rfl | trivial⟩
                case measure => simp [intOf]; omega
            · obtain rfl : j = es.length := by omega
              have hd : es.length ≤ d := own_cap HO.out
              obtain ⟨v, hv⟩ : ∃ v, runB s (es.take k) = v := ⟨_, rfl⟩
              have HV := hide hv
              have HLK := hide (HLAW.out k hlt)
              have HI1 := implAlarmRun_any s D d (es.take k) wr (Sl.take (Sl.of_own HO.out) k hlt) (by simp; omega) HT.out
              rw [List.length_take, Nat.min_eq_left hlt] at HI1
              have hx2 : runB v (es.drop k) = x := by rw [← hv]; exact HLK.out.2
              have kd : (k : Int) ≤ d := by omega
              have k0 : (0 : Int) ≤ k := by omega
              have kl : (k : Int) ≤ es.length := by omega
              clear hv
              rcases HO.out.2 with ⟨hv0, _⟩ | ⟨g, cap, cur, hv0, _⟩
              · exact absurd (by simpa using hv0 : D = none ∧ _).1 HDN.out
              · cases hv0
                by_cases hkd : k = d
                · subst hkd
                  have hke : es.drop k = [] := by rw [List.drop_eq_nil_iff]; omega
                  rw [hke] at hx2
                  have HI2 := implAlarmRun_any v (some ⟨g, 0, none⟩) 0 [] wr (Sl.nil wr wr.heap.size 1 _ [] rfl) (by simp) HT.out
                  rw [hx2] at HI2
                  clear hx2 hke
                  have HI2 := hide HI2
                  go_wp2_with fail
                  refine HI1.mono ?_
                  rintro _ w' ⟨rfl, rfl⟩
                  rw [HV.out]
                  cases hu : unI v
                  · have hux := hu
                    go_wp2_with (first | (go_at_call 15; refine (lawUnI_any _ _ hu _).mono ?_; rintro _ w' ⟨rfl, rfl⟩) | (go_at_call 15; refine (lawUnI_any _ _ hux _).mono ?_; rintro _ w' ⟨rfl, rfl⟩) | (go_at_call 12; refine HI2.out.mono ?_; rintro _ w' ⟨rfl, rfl⟩))
                    go_roundw
                    case rel => exact ⟨k + 1, by omega, by go_num, by first | rfl | trivial⟩
                    case measure => first | (simp [intOf]; done) | (simp [intOf]; omega)
                  · cases hux : unI x
                    · have ha : ackS es k (es).length = true := by
                        rcases HLK.out.1 with h | h | h
                        · rw [HV.out, hu] at h; cases h
                        · rw [hux] at h; cases h
                        · exact h
                      rw [ha]
                      go_wp2_with (first | (go_at_call 15; refine (lawUnI_any _ _ hu _).mono ?_; rintro _ w' ⟨rfl, rfl⟩) | (go_at_call 15; refine (lawUnI_any _ _ hux _).mono ?_; rintro _ w' ⟨rfl, rfl⟩) | (go_at_call 12; refine HI2.out.mono ?_; rintro _ w' ⟨rfl, rfl⟩))
                      go_roundw
                      case rel => exact ⟨k + 1, by omega, by go_num, by first | rfl | trivial⟩
                      case measure => first | (simp [intOf]; done) | (simp [intOf]; omega)
                    · skip
                      go_wp2_with (first | (go_at_call 15; refine (lawUnI_any _ _ hu _).mono ?_; rintro _ w' ⟨rfl, rfl⟩) | (go_at_call 15; refine (lawUnI_any _ _ hux _).mono ?_; rintro _ w' ⟨rfl, rfl⟩) | (go_at_call 12; refine HI2.out.mono ?_; rintro _ w' ⟨rfl, rfl⟩))
                      go_roundw
                      case rel => exact ⟨k + 1, by omega, by go_num, by first | rfl | trivial⟩
                      case measure => first | (simp [intOf]; done) | (simp [intOf]; omega)
                · have HI2 := implAlarmRun_any v (some ⟨g, 0 + k, none⟩) (d - k) (es.drop k) wr ((Sl.of_own HO.out).dropI k (by omega)) (by simp; omega) HT.out
                  rw [hx2, List.length_drop] at HI2
                  simp only [Nat.zero_add] at HI2
                  clear hx2
                  have HI2 := hide HI2
                  go_wp2_with fail
                  refine HI1.mono ?_
                  rintro _ w' ⟨rfl, rfl⟩
                  rw [HV.out]
                  cases hu : unI v
                  · have hux := hu
                    go_wp2_with (first | (go_at_call 15; refine (lawUnI_any _ _ hu _).mono ?_; rintro _ w' ⟨rfl, rfl⟩) | (go_at_call 15; refine (lawUnI_any _ _ hux _).mono ?_; rintro _ w' ⟨rfl, rfl⟩) | (go_at_call 12; refine HI2.out.mono ?_; rintro _ w' ⟨rfl, rfl⟩))
                    go_roundw
                    case rel => exact ⟨k + 1, by omega, by go_num, by first | rfl | trivial⟩
                    case measure => first | (simp [intOf]; done) | (simp [intOf]; omega)
                  · cases hux : unI x
                    · have ha : ackS es k (es).length = true := by
                        rcases HLK.out.1 with h | h | h
                        · rw [HV.out, hu] at h; cases h
                        · rw [hux] at h; cases h
                        · exact h
                      rw [ha]
                      go_wp2_with (first | (go_at_call 15; refine (lawUnI_any _ _ hu _).mono ?_; rintro _ w' ⟨rfl, rfl⟩) | (go_at_call 15; refine (lawUnI_any _ _ hux _).mono ?_; rintro _ w' ⟨rfl, rfl⟩) | (go_at_call 12; refine HI2.out.mono ?_; rintro _ w' ⟨rfl, rfl⟩))
                      go_roundw
                      case rel => exact ⟨k + 1, by omega, by go_num, by first | rfl | trivial⟩
                      case measure => first | (simp [intOf]; done) | (simp [intOf]; omega)
                    · skip
                      go_wp2_with (first | (go_at_call 15; refine (lawUnI_any _ _ hu _).mono ?_; rintro _ w' ⟨rfl, rfl⟩) | (go_at_call 15; refine (lawUnI_any _ _ hux _).mono ?_; rintro _ w' ⟨rfl, rfl⟩) | (go_at_call 12; refine HI2.out.mono ?_; rintro _ w' ⟨rfl, rfl⟩))
                      go_roundw
                      case rel => exact ⟨k + 1, by omega, by go_num, by first | rfl | trivial⟩
                      case measure => first | (simp [intOf]; done) | (simp [intOf]; omega)
        · have hke : k = es.length + 1 := by omega
          go_wp2_with fail
          go_ret
          exact ⟨rfl, K.out⟩
  · go_enter Tryd.func3, Tryd.ntmps3
    go_wp2_with fail
    go_ret
    exact ⟨rfl, Below.refl _ _⟩

end Go.Proofs.YteffcemgmabdnaaDoor
