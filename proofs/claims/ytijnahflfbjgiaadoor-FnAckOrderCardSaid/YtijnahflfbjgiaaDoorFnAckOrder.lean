/-
  The law FnAckOrder over drawn alarms: the walk.
-/
import Derived.Test.YtijnahflfbjgiaaDoorAckF
import Derived.Test.YtijnahflfbjgiaaDoorAckS
import Derived.Test.YtijnahflfbjgiaaDoorAlDraw
import Derived.Test.YtijnahflfbjgiaaDoorAlNextW
import Derived.Test.YtijnahflfbjgiaaDoorTellW
import Derived.Test.YtijnahflfbjgiaaDoorSkip
import Derived.Test.YtijnahflfbjgiaaDoorHelp
namespace Go.Proofs.YtijnahflfbjgiaaDoor
open Go.RowKit
set_option linter.unusedVariables false

theorem tell_ack {xs ys zs : List (Int × Int × Int)} {out : List Int} {i : Nat} {ok : Bool} (h : Ackd 5 xs out ys) (hi : i < xs.length) (hr : TellR ys i 2 5 zs ok) : ok = true ∧ Ackd 5 xs (out ++ [(i : Int)]) zs := by
  have hl := h.len
  have c1 : inB (i : Int) 0 ((ys.length : Int) - 1) = true := inB_mk (by omega) (by omega)
  have c2 : inB (2 : Int) 0 2 = true := inB_mk (by omega) (by omega)
  have c3 : inB (5 : Int) 0 999 = true := inB_mk (by omega) (by omega)
  unfold TellR at hr
  rcases hr with ⟨h1, _, _⟩ | ⟨_, h2, _, _⟩ | ⟨_, _, _, _, rfl, h5⟩
  · rw [h.val] at h1; cases h1
  · rw [c1, c2, c3] at h2; cases h2
  · exact ⟨h5, by rw [Int.toNat_natCast]; exact h.step i hi c3⟩

set_option maxRecDepth 8000 in
set_option maxHeartbeats 40000000 in
theorem fnAckOrder_walk (A0 : Option Addr) (c0 : Nat) (x0 : List Int) (w : World) (l0 : x0.length ≤ c0) (m0 : c0 ≤ maxLen) (s0 : Sl w w.heap.size 1 A0 x0.length (encU x0)) (i0 : ∀ n ∈ x0, 0 ≤ n ∧ n ≤ 255) (hT : Tab w) :
    Calls Tryd.prog 4 #[.slice A0 x0.length c0] w fun e w' => e = .returned (.bool true) ∧ Below w.heap.size w w' := by
  have hm2 := m0
  unfold maxLen at m0
  by_cases hm : x0.length ≤ 1048576
  · have HC := hide (DrawAckOrder_any A0 c0 x0 w s0 l0 hm2 i0)
    clear i0 s0
    go_enter Tryd.func4, Tryd.ntmps4
    go_wp2_with fail
    refine HC.out.mono ?_
    rintro e w1 ⟨xs, D, d, hl, hxr, rfl, hox, hb1⟩
    have K1 := hide hb1
    have HT1 := hide (hT.to hb1)
    have X1 := hide hox
    clear hb1 HC hxr hox hT
    go_wp2_with fail
    refine (implAckOrder_any _ _ _ _ (Sl.of_own X1.out) (by omega)).mono ?_
    rintro e w2 ⟨r, G, gc, hr, rfl, hog, hb2⟩
    obtain rfl : r = ackL xs := hr
    have X2 := hide (X1.out.keepB hb2)
    have G2 := hide hog
    have K2 := hide (K1.out.then hb2)
    have HT2 := hide (HT1.out.to hb2)
    have hl8 : (ackL xs).length ≤ 8 := AkO_len rfl
    clear hog hb2 X1 HT1
    go_wp2_with fail
    refine (specAckOrder_any _ _ _ _ (Sl.of_own X2.out) (by omega)).mono ?_
    rintro e w3 ⟨r, E, ec, hr, rfl, hoe, hb3⟩
    obtain rfl : r = ackL xs := hr
    have X3 := hide (X2.out.keepB hb3)
    have G3 := hide (G2.out.keepB hb3)
    have E3 := hide hoe
    have K3 := hide (K2.out.then hb3)
    have HT3 := hide (HT2.out.to hb3)
    clear hoe hb3 X2 G2 HT2
    go_wp2_with fail
    refine (sameInts_any _ _ _ _ _ _ _ (Sl.of_own G3.out) (Sl.of_own E3.out) (by omega)).mono ?_
    rintro e w4 ⟨rfl, hb4⟩
    have X4 := hide (X3.out.keepB hb4)
    have G4 := hide (G3.out.keepB hb4)
    have K4 := hide (K3.out.then hb4)
    have HT4 := hide (HT3.out.to hb4)
    rw [eqI_self]
    clear hb4 X3 G3 E3 HT3
    go_wp2_with fail
    refine (specAlarmsValid_any _ _ _ _ (Sl.of_own X4.out) (by omega)).mono ?_
    rintro e w5 ⟨rfl, rfl⟩
    cases hv : alarmB xs
    · have hz : (((ackL xs).length : Int) == 0) = true := by simp [ackL, hv]
      clear hv
      go_wp2_with fail
      refine (alive_any _).mono ?_
      rintro e w6 ⟨rfl, hb6⟩
      have K6 := hide (K4.out.then hb6)
      clear hb6
      go_wp2_with fail
      go_ret
      exact ⟨rfl, K6.out⟩
    · have HV := hide hv
      clear hv
      have bw := (Below.refl _ w4).alloc (Nat.le_refl _) (.cells #[] 31)
      have N6 := hide (World.ownsRow_lit (base := w4.heap.size) (e := 31) (size := 3) w4 #[] 0 (Nat.le_refl _) (Nat.zero_le _) rfl)
      have B6 := hide bw
      have S6 := hide ((Sl.of_own X4.out).to bw)
      clear bw
      go_wp2_with (at_builtin; refine app_threes 23 31 Tryd.underlying23 infoAlarm _ rfl (.tmp 32) (.tmp 33) rfl w4.heap.size _ 0 0 [] rfl N6.out _ D xs.length d xs rfl S6.out (by simp) (by omega) (by omega) ?_; intro D2 d2 w7 ho7 hg7; rw [Nat.zero_add] at ho7 ⊢; have HO7 : Hid (w7.ownsRow w4.heap.size 31 3 (.slice D2 xs.length d2) xs.length (enc3 xs)) := hide (by simpa using ho7); have B7 := hide (B6.out.trans (grown_below N6.out hg7 (by simp))); clear ho7 hg7)
      have X7 := hide (X4.out.keepB B7.out)
      have G7 := hide (G4.out.keepB B7.out)
      have K7 := hide (K4.out.then B7.out)
      have HT7 := hide (HT4.out.to B7.out)
      have SN7 := hide (Sl.of_own HO7.out)
      have HA0 := hide (Ackd.start (t := 5) HV.out)
      clear X4 G4 K4 HT4 N6 B6 S6 HO7 B7
      go_loopw [5, 6, 7, 8] (fun now i _ _ wr => ∃ (k : Nat) (ys : List (Int × Int × Int)) (N : Option Addr) (nc : Nat), k ≤ (ackL xs).length ∧ i = .int .i64 k ∧ now = .slice N ys.length nc ∧ Hid (Ackd 5 xs ((ackL xs).take k) ys) ∧ Hid (Sl wr wr.heap.size 3 N ys.length (enc3 ys)) ∧ Hid (Below w7.heap.size w7 wr)) (fun _ i _ _ _ => (ackL xs).length - (intOf i).toNat)
      case atStart => exact ⟨0, xs, _, _, Nat.zero_le _, rfl, rfl, HA0, SN7, hide (Below.refl _ _)⟩
      case round =>
        obtain ⟨k, ys, N, nc, hk, rfl, rfl, HAC, SY, HB⟩ := hrel
        have XO := hide (X7.out.keepB HB.out)
        have GO := hide (G7.out.keepB HB.out)
        have HT := hide (HT7.out.to HB.out)
        have HY9 : ys.length ≤ 1048576 := by have := HAC.out.len; omega
        by_cases hlt : k < (ackL xs).length
        · obtain ⟨i, e1, hi, e2, e3⟩ := ack_at HV.out k hlt
          have HNX := hide (e3 5 ys HAC.out)
          have HTK := hide e2
          have hk1 : k + 1 ≤ (ackL xs).length := hlt
          have k0 : (0 : Int) ≤ k := by omega
          have k1 : (k : Int) < (ackL xs).length := by omega
          obtain ⟨gG, cG, hvG, hgG, hgG2⟩ := GO.out.form (by omega)
          cases hvG
          have cg := GO.out.cellAt k (by omega)
          rw [encI_at (ackL xs) k hlt, e1] at cg
          have HKa := (Below.refl wr.heap.size wr).drew
          have HE1 := hide e1
          clear e1 e2 e3
          obtain h0 | ⟨q, hq⟩ : k = 0 ∨ ∃ q, k = q + 1 := by
            rcases k with _ | q
            · exact .inl rfl
            · exact .inr ⟨q, rfl⟩
          · have hz : decide ((0 : Int) < (k : Int)) = false := by simp; omega
            have hz2 : decide (0 < k) = false := by simp; omega
            have hz3 : (0 < k) = False := by simp; omega
            have HZ0 := hide h0
            clear h0
            go_wp2_with fail
            refine wp_region_held_drew (S := fun w' => w'.cell? ⟨gG, k, none⟩ = some (.int .i64 i)) (by kernel_rfl) cg (fun hHeld => ?_)
            refine wpAnyH_take (i := 0) (v := ?_) rfl (by kernel_rfl) (by kernel_rfl) (by kernel_rfl) (fun _ _ _ h => h) (Or.inl ⟨by rfl, ?_⟩) (by assumption) ?_
            rotate_left
            · intro w' hSw
              (try dsimp only at hSw)
              go_simp
              try (with_reducible rfl)
            simp only [Act.put, List.getElem_toArray, List.getElem_cons_zero, List.setIfInBounds_toArray, List.set_cons_zero, List.set_cons_succ]
            refine wpAnyH_take (i := 2) (v := ?_) rfl (by kernel_rfl) (by kernel_rfl) (by kernel_rfl) (fun _ _ _ h => h) (Or.inl ⟨by rfl, ?_⟩) (by assumption) ?_
            rotate_left
            · intro w' hSw
              (try dsimp only at hSw)
              go_simp
              try (with_reducible rfl)
            simp only [Act.put, List.getElem_toArray, List.getElem_cons_zero, List.getElem_cons_succ, List.setIfInBounds_toArray, List.set_cons_zero, List.set_cons_succ]
            refine wpAnyH_take (i := 3) (v := ?_) rfl (by kernel_rfl) (by kernel_rfl) (by kernel_rfl) (fun _ _ _ h => h) (Or.inl ⟨by rfl, ?_⟩) (by assumption) ?_
            rotate_left
            · intro w' hSw
              (try dsimp only at hSw)
              go_simp
              try (with_reducible rfl)
            simp only [Act.put, List.getElem_toArray, List.getElem_cons_zero, List.getElem_cons_succ, List.setIfInBounds_toArray, List.set_cons_zero, List.set_cons_succ]
            refine wpAnyH_take (i := 4) (v := ?_) rfl (by kernel_rfl) (by kernel_rfl) (by kernel_rfl) (fun _ _ _ h => h) (Or.inl ⟨by rfl, ?_⟩) (by assumption) ?_
            rotate_left
            · intro w' hSw
              (try dsimp only at hSw)
              go_simp
              try (with_reducible rfl)
            simp only [Act.put, List.getElem_toArray, List.getElem_cons_zero, List.getElem_cons_succ, List.setIfInBounds_toArray, List.set_cons_zero, List.set_cons_succ]
            refine wpAnyH_ready (rs := [1, 5]) (by kernel_rfl) (by simp) ?_
            refine AllReadyH.cons rfl (fun K hK => ?_) (AllReadyH.cons rfl (fun K hK => ?_) AllReadyH.nil)
            · skip
              go_simp
              go_at_call 24
              refine (implAlarmNext_any _ _ _ _ (SY.out.to HKa) HY9).mono ?_
              rintro _ w6 ⟨rfl, hb6⟩
              rw [HNX.out]
              replace HKa := HKa.then hb6
              go_wp2_with fail
              replace hHeld := (cellk hb6 hHeld)
              refine hK.out _ _ hHeld (fun hHeld => ?_)
              clear hK K
              try simp only [Act.put, List.getElem_toArray, List.getElem_cons_zero, List.getElem_cons_succ, List.setIfInBounds_toArray, List.set_cons_zero, List.set_cons_succ]
              refine wpAnyH_ready (rs := [5]) (by kernel_rfl) (by simp) ?_
              refine AllReadyH.cons rfl (fun K hK => ?_) AllReadyH.nil
              go_simp
              refine hK.out _ _ hHeld (fun hHeld => ?_)
              clear hK K
              try simp only [Act.put, List.getElem_toArray, List.getElem_cons_zero, List.getElem_cons_succ, List.setIfInBounds_toArray, List.set_cons_zero, List.set_cons_succ]
              refine wpAnyH_take (i := 6) (v := ?_) rfl (by kernel_rfl) (by kernel_rfl) (by kernel_rfl) (fun _ _ _ h => h) (Or.inl ⟨by rfl, ?_⟩) (by assumption) ?_
              rotate_left
              · intro w' hSw
                (try dsimp only at hSw)
                go_simp
                try (with_reducible rfl)
              simp only [Act.put, List.getElem_toArray, List.getElem_cons_zero, List.getElem_cons_succ, List.setIfInBounds_toArray, List.set_cons_zero, List.set_cons_succ]
              refine wpAnyH_take (i := 7) (v := ?_) rfl (by kernel_rfl) (by kernel_rfl) (by kernel_rfl) (fun _ _ _ h => h) (Or.inl ⟨by rfl, ?_⟩) (by assumption) ?_
              rotate_left
              · intro w' hSw
                (try dsimp only at hSw)
                go_simp
                try (with_reducible rfl)
              simp only [Act.put, List.getElem_toArray, List.getElem_cons_zero, List.getElem_cons_succ, List.setIfInBounds_toArray, List.set_cons_zero, List.set_cons_succ]
              refine wpAnyH_take (i := 8) (v := ?_) rfl (by kernel_rfl) (by kernel_rfl) (by kernel_rfl) (fun _ _ _ h => h) (Or.inl ⟨by rfl, ?_⟩) (by assumption) ?_
              rotate_left
              · intro w' hSw
                (try dsimp only at hSw)
                go_simp
                try (with_reducible rfl)
              simp only [Act.put, List.getElem_toArray, List.getElem_cons_zero, List.getElem_cons_succ, List.setIfInBounds_toArray, List.set_cons_zero, List.set_cons_succ]
              refine wpAnyH_take (i := 9) (v := ?_) rfl (by kernel_rfl) (by kernel_rfl) (by kernel_rfl) (fun _ _ _ h => h) (Or.inl ⟨by rfl, ?_⟩) (by assumption) ?_
              rotate_left
              · intro w' hSw
                (try dsimp only at hSw)
                go_simp
                try (with_reducible rfl)
              simp only [Act.put, List.getElem_toArray, List.getElem_cons_zero, List.getElem_cons_succ, List.setIfInBounds_toArray, List.set_cons_zero, List.set_cons_succ]
              refine wpAnyH_take (i := 10) (v := ?_) rfl (by kernel_rfl) (by kernel_rfl) (by kernel_rfl) (fun _ _ _ h => h) (Or.inl ⟨by rfl, ?_⟩) (by assumption) ?_
              rotate_left
              · intro w' hSw
                (try dsimp only at hSw)
                go_simp
                try (with_reducible rfl)
              simp only [Act.put, List.getElem_toArray, List.getElem_cons_zero, List.getElem_cons_succ, List.setIfInBounds_toArray, List.set_cons_zero, List.set_cons_succ]
              refine wpAnyH_take (i := 11) (v := undef) rfl (by kernel_rfl) (by kernel_rfl) (by kernel_rfl) (fun _ _ _ h => h) (Or.inr ⟨by rfl, rfl⟩) (by assumption) ?_
              simp only [Act.put, List.getElem_toArray, List.getElem_cons_zero, List.getElem_cons_succ, List.setIfInBounds_toArray, List.set_cons_zero, List.set_cons_succ]
              refine wpAnyH_take (i := 12) (v := undef) rfl (by kernel_rfl) (by kernel_rfl) (by kernel_rfl) (fun _ _ _ h => h) (Or.inr ⟨by rfl, rfl⟩) (by assumption) ?_
              simp only [Act.put, List.getElem_toArray, List.getElem_cons_zero, List.getElem_cons_succ, List.setIfInBounds_toArray, List.set_cons_zero, List.set_cons_succ]
              refine wpAnyH_take (i := 13) (v := undef) rfl (by kernel_rfl) (by kernel_rfl) (by kernel_rfl) (fun _ _ _ h => h) (Or.inr ⟨by rfl, rfl⟩) (by assumption) ?_
              simp only [Act.put, List.getElem_toArray, List.getElem_cons_zero, List.getElem_cons_succ, List.setIfInBounds_toArray, List.set_cons_zero, List.set_cons_succ]
              refine wpAnyH_take (i := 14) (v := undef) rfl (by kernel_rfl) (by kernel_rfl) (by kernel_rfl) (fun _ _ _ h => h) (Or.inr ⟨by rfl, rfl⟩) (by assumption) ?_
              simp only [Act.put, List.getElem_toArray, List.getElem_cons_zero, List.getElem_cons_succ, List.setIfInBounds_toArray, List.set_cons_zero, List.set_cons_succ]
              refine wpAnyH_take (i := 15) (v := undef) rfl (by kernel_rfl) (by kernel_rfl) (by kernel_rfl) (fun _ _ _ h => h) (Or.inr ⟨by rfl, rfl⟩) (by assumption) ?_
              simp only [Act.put, List.getElem_toArray, List.getElem_cons_zero, List.getElem_cons_succ, List.setIfInBounds_toArray, List.set_cons_zero, List.set_cons_succ]
              refine wpAnyH_take (i := 16) (v := undef) rfl (by kernel_rfl) (by kernel_rfl) (by kernel_rfl) (fun _ _ _ h => h) (Or.inr ⟨by rfl, rfl⟩) (by assumption) ?_
              simp only [Act.put, List.getElem_toArray, List.getElem_cons_zero, List.getElem_cons_succ, List.setIfInBounds_toArray, List.set_cons_zero, List.set_cons_succ]
              refine wpAnyH_take (i := 17) (v := undef) rfl (by kernel_rfl) (by kernel_rfl) (by kernel_rfl) (fun _ _ _ h => h) (Or.inr ⟨by rfl, rfl⟩) (by assumption) ?_
              simp only [Act.put, List.getElem_toArray, List.getElem_cons_zero, List.getElem_cons_succ, List.setIfInBounds_toArray, List.set_cons_zero, List.set_cons_succ]
              refine wpAnyH_take (i := 18) (v := undef) rfl (by kernel_rfl) (by kernel_rfl) (by kernel_rfl) (fun _ _ _ h => h) (Or.inr ⟨by rfl, rfl⟩) (by assumption) ?_
              simp only [Act.put, List.getElem_toArray, List.getElem_cons_zero, List.getElem_cons_succ, List.setIfInBounds_toArray, List.set_cons_zero, List.set_cons_succ]
              refine wpAnyH_take (i := 19) (v := undef) rfl (by kernel_rfl) (by kernel_rfl) (by kernel_rfl) (fun _ _ _ h => h) (Or.inr ⟨by rfl, rfl⟩) (by assumption) ?_
              simp only [Act.put, List.getElem_toArray, List.getElem_cons_zero, List.getElem_cons_succ, List.setIfInBounds_toArray, List.set_cons_zero, List.set_cons_succ]
              refine wpAnyH_take (i := 20) (v := undef) rfl (by kernel_rfl) (by kernel_rfl) (by kernel_rfl) (fun _ _ _ h => h) (Or.inr ⟨by rfl, rfl⟩) (by assumption) ?_
              simp only [Act.put, List.getElem_toArray, List.getElem_cons_zero, List.getElem_cons_succ, List.setIfInBounds_toArray, List.set_cons_zero, List.set_cons_succ]
              refine wpAnyH_take (i := 21) (v := undef) rfl (by kernel_rfl) (by kernel_rfl) (by kernel_rfl) (fun _ _ _ h => h) (Or.inr ⟨by rfl, rfl⟩) (by assumption) ?_
              simp only [Act.put, List.getElem_toArray, List.getElem_cons_zero, List.getElem_cons_succ, List.setIfInBounds_toArray, List.set_cons_zero, List.set_cons_succ]
              refine wpAnyH_take (i := 22) (v := undef) rfl (by kernel_rfl) (by kernel_rfl) (by kernel_rfl) (fun _ _ _ h => h) (Or.inr ⟨by rfl, rfl⟩) (by assumption) ?_
              simp only [Act.put, List.getElem_toArray, List.getElem_cons_zero, List.getElem_cons_succ, List.setIfInBounds_toArray, List.set_cons_zero, List.set_cons_succ]
              refine wpAnyH_take (i := 23) (v := undef) rfl (by kernel_rfl) (by kernel_rfl) (by kernel_rfl) (fun _ _ _ h => h) (Or.inr ⟨by rfl, rfl⟩) (by assumption) ?_
              simp only [Act.put, List.getElem_toArray, List.getElem_cons_zero, List.getElem_cons_succ, List.setIfInBounds_toArray, List.set_cons_zero, List.set_cons_succ]
              refine wpAnyH_take (i := 24) (v := undef) rfl (by kernel_rfl) (by kernel_rfl) (by kernel_rfl) (fun _ _ _ h => h) (Or.inr ⟨by rfl, rfl⟩) (by assumption) ?_
              simp only [Act.put, List.getElem_toArray, List.getElem_cons_zero, List.getElem_cons_succ, List.setIfInBounds_toArray, List.set_cons_zero, List.set_cons_succ]
              refine wpAnyH_take (i := 25) (v := undef) rfl (by kernel_rfl) (by kernel_rfl) (by kernel_rfl) (fun _ _ _ h => h) (Or.inr ⟨by rfl, rfl⟩) (by assumption) ?_
              simp only [Act.put, List.getElem_toArray, List.getElem_cons_zero, List.getElem_cons_succ, List.setIfInBounds_toArray, List.set_cons_zero, List.set_cons_succ]
              refine wpAnyH_take (i := 26) (v := undef) rfl (by kernel_rfl) (by kernel_rfl) (by kernel_rfl) (fun _ _ _ h => h) (Or.inr ⟨by rfl, rfl⟩) (by assumption) ?_
              simp only [Act.put, List.getElem_toArray, List.getElem_cons_zero, List.getElem_cons_succ, List.setIfInBounds_toArray, List.set_cons_zero, List.set_cons_succ]
              refine wpAnyH_take (i := 27) (v := undef) rfl (by kernel_rfl) (by kernel_rfl) (by kernel_rfl) (fun _ _ _ h => h) (Or.inr ⟨by rfl, rfl⟩) (by assumption) ?_
              simp only [Act.put, List.getElem_toArray, List.getElem_cons_zero, List.getElem_cons_succ, List.setIfInBounds_toArray, List.set_cons_zero, List.set_cons_succ]
              refine wpAnyH_take (i := 28) (v := undef) rfl (by kernel_rfl) (by kernel_rfl) (by kernel_rfl) (fun _ _ _ h => h) (Or.inr ⟨by rfl, rfl⟩) (by assumption) ?_
              simp only [Act.put, List.getElem_toArray, List.getElem_cons_zero, List.getElem_cons_succ, List.setIfInBounds_toArray, List.set_cons_zero, List.set_cons_succ]
              refine wpAnyH_take (i := 29) (v := ?_) rfl (by kernel_rfl) (by kernel_rfl) (by kernel_rfl) (fun _ _ _ h => h) (Or.inl ⟨by rfl, ?_⟩) (by assumption) ?_
              rotate_left
              · intro w' hSw
                (try dsimp only at hSw)
                go_simp
                try (with_reducible rfl)
              simp only [Act.put, List.getElem_toArray, List.getElem_cons_zero, List.getElem_cons_succ, List.setIfInBounds_toArray, List.set_cons_zero, List.set_cons_succ]
              refine wpAnyH_take (i := 30) (v := ?_) rfl (by kernel_rfl) (by kernel_rfl) (by kernel_rfl) (fun _ _ _ h => h) (Or.inl ⟨by rfl, ?_⟩) (by assumption) ?_
              rotate_left
              · intro w' hSw
                (try dsimp only at hSw)
                go_simp
                try (with_reducible rfl)
              simp only [Act.put, List.getElem_toArray, List.getElem_cons_zero, List.getElem_cons_succ, List.setIfInBounds_toArray, List.set_cons_zero, List.set_cons_succ]
              refine wpAnyH_done (by kernel_rfl) ?_ _
              have KK := hide HKa
              clear HKa
              have SY7 := hide (SY.out.to KK.out)
              have G7 := hide (GO.out.keepB KK.out)
              have HT7 := hide (HT.out.to KK.out)
              have K7 := hide (HB.out.then KK.out)
              go_wp2_with fail
              refine (implAlarmTell_any _ _ _ _ _ _ _ SY7.out HY9 HT7.out).mono ?_
              rintro _ w8 ⟨zs, N2, nc2, ok, hr, rfl, hoz, hb8⟩
              obtain ⟨rfl, hA2⟩ := tell_ack HAC.out hi hr
              have HA2 := hide hA2
              have SZ := hide (Sl.of_own hoz)
              have K8 := hide (K7.out.then hb8)
              clear hr hA2 hoz hb8
              go_wp2_with fail
              go_roundw
              case rel => exact ⟨k + 1, zs, N2, nc2, hk1, by go_num, rfl, by rw [HTK.out]; exact HA2, SZ, K8⟩
              case measure => simp [intOf]; omega
            · skip
              go_simp
              refine hK.out _ _ hHeld (fun hHeld => ?_)
              clear hK K
              try simp only [Act.put, List.getElem_toArray, List.getElem_cons_zero, List.getElem_cons_succ, List.setIfInBounds_toArray, List.set_cons_zero, List.set_cons_succ]
              refine wpAnyH_ready (rs := [1]) (by kernel_rfl) (by simp) ?_
              refine AllReadyH.cons rfl (fun K hK => ?_) AllReadyH.nil
              go_simp
              go_at_call 24
              refine (implAlarmNext_any _ _ _ _ (SY.out.to HKa) HY9).mono ?_
              rintro _ w6 ⟨rfl, hb6⟩
              rw [HNX.out]
              replace HKa := HKa.then hb6
              go_wp2_with fail
              replace hHeld := (cellk hb6 hHeld)
              refine hK.out _ _ hHeld (fun hHeld => ?_)
              clear hK K
              try simp only [Act.put, List.getElem_toArray, List.getElem_cons_zero, List.getElem_cons_succ, List.setIfInBounds_toArray, List.set_cons_zero, List.set_cons_succ]
              refine wpAnyH_take (i := 6) (v := ?_) rfl (by kernel_rfl) (by kernel_rfl) (by kernel_rfl) (fun _ _ _ h => h) (Or.inl ⟨by rfl, ?_⟩) (by assumption) ?_
              rotate_left
              · intro w' hSw
                (try dsimp only at hSw)
                go_simp
                try (with_reducible rfl)
              simp only [Act.put, List.getElem_toArray, List.getElem_cons_zero, List.getElem_cons_succ, List.setIfInBounds_toArray, List.set_cons_zero, List.set_cons_succ]
              refine wpAnyH_take (i := 7) (v := ?_) rfl (by kernel_rfl) (by kernel_rfl) (by kernel_rfl) (fun _ _ _ h => h) (Or.inl ⟨by rfl, ?_⟩) (by assumption) ?_
              rotate_left
              · intro w' hSw
                (try dsimp only at hSw)
                go_simp
                try (with_reducible rfl)
              simp only [Act.put, List.getElem_toArray, List.getElem_cons_zero, List.getElem_cons_succ, List.setIfInBounds_toArray, List.set_cons_zero, List.set_cons_succ]
              refine wpAnyH_take (i := 8) (v := ?_) rfl (by kernel_rfl) (by kernel_rfl) (by kernel_rfl) (fun _ _ _ h => h) (Or.inl ⟨by rfl, ?_⟩) (by assumption) ?_
              rotate_left
              · intro w' hSw
                (try dsimp only at hSw)
                go_simp
                try (with_reducible rfl)
              simp only [Act.put, List.getElem_toArray, List.getElem_cons_zero, List.getElem_cons_succ, List.setIfInBounds_toArray, List.set_cons_zero, List.set_cons_succ]
              refine wpAnyH_take (i := 9) (v := ?_) rfl (by kernel_rfl) (by kernel_rfl) (by kernel_rfl) (fun _ _ _ h => h) (Or.inl ⟨by rfl, ?_⟩) (by assumption) ?_
              rotate_left
              · intro w' hSw
                (try dsimp only at hSw)
                go_simp
                try (with_reducible rfl)
              simp only [Act.put, List.getElem_toArray, List.getElem_cons_zero, List.getElem_cons_succ, List.setIfInBounds_toArray, List.set_cons_zero, List.set_cons_succ]
              refine wpAnyH_take (i := 10) (v := ?_) rfl (by kernel_rfl) (by kernel_rfl) (by kernel_rfl) (fun _ _ _ h => h) (Or.inl ⟨by rfl, ?_⟩) (by assumption) ?_
              rotate_left
              · intro w' hSw
                (try dsimp only at hSw)
                go_simp
                try (with_reducible rfl)
              simp only [Act.put, List.getElem_toArray, List.getElem_cons_zero, List.getElem_cons_succ, List.setIfInBounds_toArray, List.set_cons_zero, List.set_cons_succ]
              refine wpAnyH_take (i := 11) (v := undef) rfl (by kernel_rfl) (by kernel_rfl) (by kernel_rfl) (fun _ _ _ h => h) (Or.inr ⟨by rfl, rfl⟩) (by assumption) ?_
              simp only [Act.put, List.getElem_toArray, List.getElem_cons_zero, List.getElem_cons_succ, List.setIfInBounds_toArray, List.set_cons_zero, List.set_cons_succ]
              refine wpAnyH_take (i := 12) (v := undef) rfl (by kernel_rfl) (by kernel_rfl) (by kernel_rfl) (fun _ _ _ h => h) (Or.inr ⟨by rfl, rfl⟩) (by assumption) ?_
              simp only [Act.put, List.getElem_toArray, List.getElem_cons_zero, List.getElem_cons_succ, List.setIfInBounds_toArray, List.set_cons_zero, List.set_cons_succ]
              refine wpAnyH_take (i := 13) (v := undef) rfl (by kernel_rfl) (by kernel_rfl) (by kernel_rfl) (fun _ _ _ h => h) (Or.inr ⟨by rfl, rfl⟩) (by assumption) ?_
              simp only [Act.put, List.getElem_toArray, List.getElem_cons_zero, List.getElem_cons_succ, List.setIfInBounds_toArray, List.set_cons_zero, List.set_cons_succ]
              refine wpAnyH_take (i := 14) (v := undef) rfl (by kernel_rfl) (by kernel_rfl) (by kernel_rfl) (fun _ _ _ h => h) (Or.inr ⟨by rfl, rfl⟩) (by assumption) ?_
              simp only [Act.put, List.getElem_toArray, List.getElem_cons_zero, List.getElem_cons_succ, List.setIfInBounds_toArray, List.set_cons_zero, List.set_cons_succ]
              refine wpAnyH_take (i := 15) (v := undef) rfl (by kernel_rfl) (by kernel_rfl) (by kernel_rfl) (fun _ _ _ h => h) (Or.inr ⟨by rfl, rfl⟩) (by assumption) ?_
              simp only [Act.put, List.getElem_toArray, List.getElem_cons_zero, List.getElem_cons_succ, List.setIfInBounds_toArray, List.set_cons_zero, List.set_cons_succ]
              refine wpAnyH_take (i := 16) (v := undef) rfl (by kernel_rfl) (by kernel_rfl) (by kernel_rfl) (fun _ _ _ h => h) (Or.inr ⟨by rfl, rfl⟩) (by assumption) ?_
              simp only [Act.put, List.getElem_toArray, List.getElem_cons_zero, List.getElem_cons_succ, List.setIfInBounds_toArray, List.set_cons_zero, List.set_cons_succ]
              refine wpAnyH_take (i := 17) (v := undef) rfl (by kernel_rfl) (by kernel_rfl) (by kernel_rfl) (fun _ _ _ h => h) (Or.inr ⟨by rfl, rfl⟩) (by assumption) ?_
              simp only [Act.put, List.getElem_toArray, List.getElem_cons_zero, List.getElem_cons_succ, List.setIfInBounds_toArray, List.set_cons_zero, List.set_cons_succ]
              refine wpAnyH_take (i := 18) (v := undef) rfl (by kernel_rfl) (by kernel_rfl) (by kernel_rfl) (fun _ _ _ h => h) (Or.inr ⟨by rfl, rfl⟩) (by assumption) ?_
              simp only [Act.put, List.getElem_toArray, List.getElem_cons_zero, List.getElem_cons_succ, List.setIfInBounds_toArray, List.set_cons_zero, List.set_cons_succ]
              refine wpAnyH_take (i := 19) (v := undef) rfl (by kernel_rfl) (by kernel_rfl) (by kernel_rfl) (fun _ _ _ h => h) (Or.inr ⟨by rfl, rfl⟩) (by assumption) ?_
              simp only [Act.put, List.getElem_toArray, List.getElem_cons_zero, List.getElem_cons_succ, List.setIfInBounds_toArray, List.set_cons_zero, List.set_cons_succ]
              refine wpAnyH_take (i := 20) (v := undef) rfl (by kernel_rfl) (by kernel_rfl) (by kernel_rfl) (fun _ _ _ h => h) (Or.inr ⟨by rfl, rfl⟩) (by assumption) ?_
              simp only [Act.put, List.getElem_toArray, List.getElem_cons_zero, List.getElem_cons_succ, List.setIfInBounds_toArray, List.set_cons_zero, List.set_cons_succ]
              refine wpAnyH_take (i := 21) (v := undef) rfl (by kernel_rfl) (by kernel_rfl) (by kernel_rfl) (fun _ _ _ h => h) (Or.inr ⟨by rfl, rfl⟩) (by assumption) ?_
              simp only [Act.put, List.getElem_toArray, List.getElem_cons_zero, List.getElem_cons_succ, List.setIfInBounds_toArray, List.set_cons_zero, List.set_cons_succ]
              refine wpAnyH_take (i := 22) (v := undef) rfl (by kernel_rfl) (by kernel_rfl) (by kernel_rfl) (fun _ _ _ h => h) (Or.inr ⟨by rfl, rfl⟩) (by assumption) ?_
              simp only [Act.put, List.getElem_toArray, List.getElem_cons_zero, List.getElem_cons_succ, List.setIfInBounds_toArray, List.set_cons_zero, List.set_cons_succ]
              refine wpAnyH_take (i := 23) (v := undef) rfl (by kernel_rfl) (by kernel_rfl) (by kernel_rfl) (fun _ _ _ h => h) (Or.inr ⟨by rfl, rfl⟩) (by assumption) ?_
              simp only [Act.put, List.getElem_toArray, List.getElem_cons_zero, List.getElem_cons_succ, List.setIfInBounds_toArray, List.set_cons_zero, List.set_cons_succ]
              refine wpAnyH_take (i := 24) (v := undef) rfl (by kernel_rfl) (by kernel_rfl) (by kernel_rfl) (fun _ _ _ h => h) (Or.inr ⟨by rfl, rfl⟩) (by assumption) ?_
              simp only [Act.put, List.getElem_toArray, List.getElem_cons_zero, List.getElem_cons_succ, List.setIfInBounds_toArray, List.set_cons_zero, List.set_cons_succ]
              refine wpAnyH_take (i := 25) (v := undef) rfl (by kernel_rfl) (by kernel_rfl) (by kernel_rfl) (fun _ _ _ h => h) (Or.inr ⟨by rfl, rfl⟩) (by assumption) ?_
              simp only [Act.put, List.getElem_toArray, List.getElem_cons_zero, List.getElem_cons_succ, List.setIfInBounds_toArray, List.set_cons_zero, List.set_cons_succ]
              refine wpAnyH_take (i := 26) (v := undef) rfl (by kernel_rfl) (by kernel_rfl) (by kernel_rfl) (fun _ _ _ h => h) (Or.inr ⟨by rfl, rfl⟩) (by assumption) ?_
              simp only [Act.put, List.getElem_toArray, List.getElem_cons_zero, List.getElem_cons_succ, List.setIfInBounds_toArray, List.set_cons_zero, List.set_cons_succ]
              refine wpAnyH_take (i := 27) (v := undef) rfl (by kernel_rfl) (by kernel_rfl) (by kernel_rfl) (fun _ _ _ h => h) (Or.inr ⟨by rfl, rfl⟩) (by assumption) ?_
              simp only [Act.put, List.getElem_toArray, List.getElem_cons_zero, List.getElem_cons_succ, List.setIfInBounds_toArray, List.set_cons_zero, List.set_cons_succ]
              refine wpAnyH_take (i := 28) (v := undef) rfl (by kernel_rfl) (by kernel_rfl) (by kernel_rfl) (fun _ _ _ h => h) (Or.inr ⟨by rfl, rfl⟩) (by assumption) ?_
              simp only [Act.put, List.getElem_toArray, List.getElem_cons_zero, List.getElem_cons_succ, List.setIfInBounds_toArray, List.set_cons_zero, List.set_cons_succ]
              refine wpAnyH_take (i := 29) (v := ?_) rfl (by kernel_rfl) (by kernel_rfl) (by kernel_rfl) (fun _ _ _ h => h) (Or.inl ⟨by rfl, ?_⟩) (by assumption) ?_
              rotate_left
              · intro w' hSw
                (try dsimp only at hSw)
                go_simp
                try (with_reducible rfl)
              simp only [Act.put, List.getElem_toArray, List.getElem_cons_zero, List.getElem_cons_succ, List.setIfInBounds_toArray, List.set_cons_zero, List.set_cons_succ]
              refine wpAnyH_take (i := 30) (v := ?_) rfl (by kernel_rfl) (by kernel_rfl) (by kernel_rfl) (fun _ _ _ h => h) (Or.inl ⟨by rfl, ?_⟩) (by assumption) ?_
              rotate_left
              · intro w' hSw
                (try dsimp only at hSw)
                go_simp
                try (with_reducible rfl)
              simp only [Act.put, List.getElem_toArray, List.getElem_cons_zero, List.getElem_cons_succ, List.setIfInBounds_toArray, List.set_cons_zero, List.set_cons_succ]
              refine wpAnyH_done (by kernel_rfl) ?_ _
              have KK := hide HKa
              clear HKa
              have SY7 := hide (SY.out.to KK.out)
              have G7 := hide (GO.out.keepB KK.out)
              have HT7 := hide (HT.out.to KK.out)
              have K7 := hide (HB.out.then KK.out)
              go_wp2_with fail
              refine (implAlarmTell_any _ _ _ _ _ _ _ SY7.out HY9 HT7.out).mono ?_
              rintro _ w8 ⟨zs, N2, nc2, ok, hr, rfl, hoz, hb8⟩
              obtain ⟨rfl, hA2⟩ := tell_ack HAC.out hi hr
              have HA2 := hide hA2
              have SZ := hide (Sl.of_own hoz)
              have K8 := hide (K7.out.then hb8)
              clear hr hA2 hoz hb8
              go_wp2_with fail
              go_roundw
              case rel => exact ⟨k + 1, zs, N2, nc2, hk1, by go_num, rfl, by rw [HTK.out]; exact HA2, SZ, K8⟩
              case measure => simp [intOf]; omega
          · obtain ⟨p, e4, hp, _, _⟩ := ack_at HV.out q (by omega)
            have hrk := ack_rank HV.out q p i (by omega) e4 (by rw [← hq]; exact HE1.out)
            have hz : decide ((0 : Int) < (k : Int)) = true := by simp; omega
            have hz2 : decide (0 < k) = true := by simp; omega
            have hs : IntKind.i64.wrap ((k : Int) - 1) = (q : Int) := by rw [IntWalk.i64_in _ (by omega)]; omega
            have cg2 := GO.out.cellAt q (by omega)
            rw [encI_at (ackL xs) q (by omega), e4] at cg2
            obtain ⟨gX, cX, hvX, hgX, hgX2⟩ := XO.out.form (by omega)
            cases hvX
            have cp := XO.out.cellAt (p * 3) (by omega)
            have ci := XO.out.cellAt (i * 3) (by omega)
            rw [enc3_at0 xs p hp] at cp
            rw [enc3_at0 xs i hi] at ci
            have q0 : (0 : Int) ≤ q := by omega
            have q1 : (q : Int) < (ackL xs).length := by omega
            have p0 : (0 : Int) ≤ p := by omega
            have p1 : (p : Int) < xs.length := by omega
            have i0' : (0 : Int) ≤ i := by omega
            have i1' : (i : Int) < xs.length := by omega
            clear e4 hq
            go_wp2_with fail
            go_region_held3 (fun w' => w'.cell? ⟨gG, k, none⟩ = some (.int .i64 i) ∧ w'.cell? ⟨gG, q, none⟩ = some (.int .i64 p) ∧ w'.cell? ⟨gX, p * 3, none⟩ = some (.int .i64 (at3 xs p).1) ∧ w'.cell? ⟨gX, i * 3, none⟩ = some (.int .i64 (at3 xs i).1))
              (refine ⟨?_, ?_, ?_, ?_⟩ <;> first | assumption | go_keep)
              ((go_at_call 24; refine (implAlarmNext_any _ _ _ _ ?_ HY9).mono ?_; exact SY.out.to HKa; rintro _ w6 ⟨rfl, hb6⟩; rw [HNX.out]; replace HKa := HKa.then hb6; have v0 := cellk HKa cg; have v1 := cellk HKa cg2; have v2 := cellk HKa cp; have v3 := cellk HKa ci))
            have KK := hide HKa
            clear HKa
            have SY7 := hide (SY.out.to KK.out)
            have G7 := hide (GO.out.keepB KK.out)
            have HT7 := hide (HT.out.to KK.out)
            have K7 := hide (HB.out.then KK.out)
            go_wp2_with fail
            refine (implAlarmTell_any _ _ _ _ _ _ _ SY7.out HY9 HT7.out).mono ?_
            rintro _ w8 ⟨zs, N2, nc2, ok, hr, rfl, hoz, hb8⟩
            obtain ⟨rfl, hA2⟩ := tell_ack HAC.out hi hr
            have HA2 := hide hA2
            have SZ := hide (Sl.of_own hoz)
            have K8 := hide (K7.out.then hb8)
            clear hr hA2 hoz hb8
            go_wp2_with fail
            go_roundw
            case rel => exact ⟨k + 1, zs, N2, nc2, hk1, by go_num, rfl, by rw [HTK.out]; exact HA2, SZ, K8⟩
            case measure => simp [intOf]; omega
        · obtain rfl : k = (ackL xs).length := by omega
          have HEND := hide (ack_end HV.out (ys := ys) (t := 5) (by have := HAC.out; rwa [List.take_of_length_le (Nat.le_refl _)] at this))
          have hcnt : (((ackL xs).length : Int) == ((unseenK xs xs.length).length : Int)) = true := by rw [ackL_len HV.out]; simp
          have hul := unseenK_len xs xs.length
          go_wp2_with fail
          go_loopw [9, 10] (fun m i wx => ∃ k : Nat, k ≤ xs.length ∧ i = .int .i64 k ∧ m = .int .i64 (unseenK xs k).length ∧ wx = wr) (fun _ i _ => xs.length - (intOf i).toNat)
          case atStart => exact ⟨0, Nat.zero_le _, rfl, rfl, rfl⟩
          case round =>
            obtain ⟨k, hk, rfl, rfl, rfl⟩ := hrel
            have hulk := unseenK_len xs k
            by_cases hlt : k < xs.length
            · obtain ⟨b, off, hA, hb, hc, hd, he⟩ := (Sl.of_own XO.out).three k hlt
              obtain ⟨gX, cX, hvX, hgX, hgX2⟩ := XO.out.form (by omega)
              cases hvX
              simp at hA
              obtain ⟨rfl, rfl⟩ := hA
              simp only [Nat.zero_add] at hc hd he
              have k0 : (0 : Int) ≤ k := by omega
              have k1 : (k : Int) < xs.length := by omega
              cases hu : unseen (at3 xs k)
              · have HU := hide (unseenK_no hu)
                go_wp2_with ((go_at_call 25; refine (lawUnseen_eq (at3 xs k) false hu _).mono ?_; rintro e w' ⟨rfl, rfl⟩))
                go_roundw
                case rel => exact ⟨k + 1, by omega, by go_num, by rw [HU.out], by first | rfl | trivial⟩
                case measure => simp [intOf]; omega
              · have HU := hide (unseenK_yes hu)
                go_wp2_with ((go_at_call 25; refine (lawUnseen_eq (at3 xs k) true hu _).mono ?_; rintro e w' ⟨rfl, rfl⟩))
                go_roundw
                case rel => exact ⟨k + 1, by omega, by go_num, (by rw [HU.out, List.length_append]; go_num), by first | rfl | trivial⟩
                case measure => simp [intOf]; omega
            · obtain rfl : k = xs.length := by omega
              go_wp2_with fail
              refine (implAlarmNext_any _ _ _ _ SY.out HY9).mono ?_
              rintro e w6 ⟨rfl, hb6⟩
              rw [HEND.out]
              have K9 := hide ((K7.out.then HB.out).then hb6)
              clear hb6
              go_wp2_with fail
              go_ret
              exact ⟨rfl, K9.out⟩
  · go_enter Tryd.func4, Tryd.ntmps4
    go_wp2_with fail
    go_ret
    exact ⟨rfl, Below.refl _ _⟩

end Go.Proofs.YtijnahflfbjgiaaDoor
