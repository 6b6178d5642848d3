/-
  Chapter 30, the order in which alarms are looked at: the reference's.
-/
import Derived.Test.YtijnahflfbjgiaaDoorAckO
import Derived.Test.YtijnahflfbjgiaaDoorAppNew
import Derived.Deep.LoopGhost
namespace Go.Proofs.YtijnahflfbjgiaaDoor
open Go.RowKit
set_option linter.unusedVariables false

/-- A slice that can be read, and does not lie in a given block. -/
def SlA (w : World) (size : Nat) (A : Option Addr) (n : Nat) (cs : List Value) (row : Option Nat) : Prop := Sl w w.heap.size size A n cs ∧ (0 < n → ∀ b off, A = some ⟨b, off, none⟩ → ¬ row = some b)
theorem SlA.grown {w w' : World} {size n : Nat} {A : Option Addr} {cs : List Value} {row : Option Nat} (h : SlA w size A n cs row) (hg : w.grownBy w' row) : Sl w' w'.heap.size size A n cs :=
  ⟨h.1.1, fun hn => by
    obtain ⟨b, off, e, hb, hc⟩ := h.1.2 hn
    exact ⟨b, off, e, Nat.lt_of_lt_of_le hb hg.size, fun j u hu => (World.cell?_of_block (hg.block b hb fun he => h.2 hn b off e he.symm)).trans (hc j u hu)⟩⟩

set_option maxRecDepth 8000 in
set_option maxHeartbeats 1000000 in
theorem specAckOrder_any (A : Option Addr) (c : Nat) (xs : List (Int × Int × Int)) (w : World) (h : Sl w w.heap.size 3 A xs.length (enc3 xs)) (hm : xs.length ≤ 1048576) :
    Calls Tryd.prog 22 #[.slice A xs.length c] w (MadeInts (AkO xs) w) := by
  have bw := (Below.refl _ w).alloc (Nat.le_refl _) (.cells #[] 3)
  have HO0 := hide (World.ownsRow_lit (base := w.heap.size) (e := 3) (size := 1) w #[] 0 (Nat.le_refl _) (Nat.zero_le _) rfl)
  have HBW := hide bw
  have HH := hide h
  clear bw h
  cases h1 : alarmB xs
  · have HQ := hide (show nextB xs = -1 by simp [nextB, h1])
    have HA := hide (show AkO xs [] by unfold AkO ackL; rw [h1]; rfl)
    go_enter Tryd.func22, Tryd.ntmps22
    go_wp2_with fail
    refine (specAlarmNext_any _ _ _ _ (HH.out.to HBW.out) hm).mono ?_
    rintro e w1 ⟨rfl, n, rfl⟩
    rw [HQ.out]
    go_wp2_with fail
    go_loopw [3, 4] (fun o q wr => o = .slice (some ⟨w.heap.size, 0, none⟩) 0 0 ∧ q = .int .i64 (-1) ∧ wr = (w.alloc (.cells #[] 3)).drewN n) (fun _ _ _ => 0)
    case atStart => exact ⟨rfl, rfl, rfl⟩
    case round =>
      obtain ⟨rfl, rfl, rfl⟩ := hrel
      go_wp2_with fail
      go_ret
      exact ⟨[], some ⟨w.heap.size, 0, none⟩, 0, HA.out, rfl, HO0.out, below_drewN HBW.out n⟩
  · have HV := hide h1
    have hl8 := alarm_len h1
    have hul := unseenK_len xs xs.length
    obtain ⟨m, hm2⟩ : ∃ m, m = (unseenK xs xs.length).length := ⟨_, rfl⟩
    have HM := hide hm2
    rw [← hm2] at hul
    clear h1 hm2
    go_enter Tryd.func22, Tryd.ntmps22
    go_wp2_with fail
    refine (specAlarmNext_any _ _ _ _ (HH.out.to HBW.out) hm).mono ?_
    rintro e w1 ⟨rfl, n, rfl⟩
    have HS0 : Hid (SlA ((w.alloc (.cells #[] 3)).drewN n) 3 A xs.length (enc3 xs) (Value.slice (some ⟨w.heap.size, 0, none⟩) 0 0).ownBlock) := by
      refine hide ⟨HH.out.to (below_drewN HBW.out n), fun hn b off e he => ?_⟩
      obtain ⟨b', off', e', hb', _⟩ := HH.out.2 hn
      rw [e] at e'
      cases e'
      simp [Value.ownBlock] at he
      omega
    go_wp2_with fail
    go_loopg [0, 3, 4, 5, 6] m (fun gk l o q _ _ wr => ∃ (k : Nat) (ys : List (Int × Int × Int)) (L D : Option Addr) (lc d : Nat), gk + k = m ∧ l = .slice L ys.length lc ∧ o = .slice D k d ∧ q = .int .i64 (nextB ys) ∧ Hid (Ackd 0 xs (selG (alLt xs) (seenK xs xs.length) xs.length k) ys) ∧ Hid (SlA wr 3 L ys.length (enc3 ys) (Value.slice D k d).ownBlock) ∧ Hid (wr.ownsRow w.heap.size 3 1 (.slice D k d) k (encI (selG (alLt xs) (seenK xs xs.length) xs.length k))) ∧ Hid (Below w.heap.size w wr))
    case atStart => exact ⟨0, xs, A, _, c, _, by omega, rfl, rfl, rfl, hide (Ackd.start HV.out), HS0, HO0, hide (below_drewN HBW.out n)⟩
    case round =>
      obtain ⟨k, ys, L, D, lc, d, hgk, rfl, rfl, rfl, HAc, HS, HO, HB⟩ := hrel
      clear HS0
      have HYL := hide HAc.out.len
      have hsz := HB.out.size
      by_cases hkm : k < m
      · have hnx := selG_next (lt := alLt xs) (n := xs.length) al_tr (seenK xs xs.length) (unseenK xs xs.length) (unseenK_nodup _ _) (el_mem _ _) k (by rw [← HM.out]; exact hkm)
        have hin := ((unseenK_mem _ _ _).1 hnx.1).1
        obtain ⟨nq, hnq⟩ := Int.eq_ofNat_of_zero_le hin.1
        have hnl : nq < xs.length := by omega
        have HNQ := hide (show nextB ys = (nq : Int) by rw [HAc.out.nextB, hnq])
        have HU := hide (show selG (alLt xs) (seenK xs xs.length) xs.length (k + 1) = selG (alLt xs) (seenK xs xs.length) xs.length k ++ [(nq : Int)] by rw [← hnq]; rfl)
        clear hnx hin hnq
        rw [HNQ.out]
        have hge : (0 : Int) ≤ nq := by omega
        go_wp2_with (at_builtin; refine app_int2 wr rfl (.tmp 12) (.tmp 14) rfl w.heap.size D k d (selG (alLt xs) (seenK xs xs.length) xs.length k) nq rfl HO.out wr.heap.size rfl rfl hsz (by omega) ?_; intro D5 d5 w5 ho5 hg5 hw5)
        have HO5 := hide ho5
        have HS5 := hide (HS.out.grown hg5)
        have HB5 := hide (HB.out.trans (grown_below HO.out hg5 hsz))
        clear ho5 hg5 hw5
        refine (specAlarmTell_any _ _ ys nq 2 0 w5 HS5.out (by rw [HYL.out]; omega)).mono ?_
        rintro e w6 ⟨zs, E, f, ok, hT, rfl, hoz, hb6⟩
        have hzs : zs = tellL ys nq 2 0 := by
          rcases hT with ⟨h2, _⟩ | ⟨_, h2, _⟩ | ⟨_, _, _, _, h2, _⟩
          · rw [HAc.out.val] at h2; cases h2
          · rw [inB_mk (n := (nq : Int)) (by omega) (by have := HYL.out; omega)] at h2
            exact absurd h2 (by decide)
          · simpa using h2
        subst hzs
        have HA6 := hide (HAc.out.step nq hnl (by decide))
        rw [← HU.out] at HA6
        have HO6 := hide (HO5.out.keepB hb6)
        have HB6 := hide (HB5.out.then hb6)
        have HZ := hide hoz
        have HN6 : Hid (∀ b off, E = some ⟨b, off, none⟩ → 0 < (tellL ys nq 2 0).length → ¬ (Value.slice D5 (k + 1) d5).ownBlock = some b) := fun b off he hp hne => by
          obtain ⟨g', c', hv', h1', h2'⟩ := hoz.form hp
          cases hv'
          cases he
          have := (HO5.out.lt b hne).2
          omega
        have hln : (tellL ys nq 2 0).length ≤ 1048576 := by rw [tellL_len, HYL.out]; omega
        clear hT hoz hb6
        go_wp2_with fail
        refine (specAlarmNext_any _ _ (tellL ys nq 2 0) _ (Sl.of_own HZ.out) hln).mono ?_
        rintro e w7 ⟨rfl, nn, rfl⟩
        go_wp2_with fail
        go_roundg (m - (k + 1))
        case measure => omega
        case rel => exact ⟨k + 1, tellL ys nq 2 0, E, D5, f, d5, by omega, rfl, rfl, rfl, HA6, hide ⟨Sl.of_own HZ.out, fun hp b off he => HN6.out b off he hp⟩, by rw [HU.out]; exact HO6, hide (below_drewN HB6.out nn)⟩
      · obtain rfl : k = m := by omega
        have HNQ := hide (show nextB ys = -1 by rw [HAc.out.nextB, HM.out]; exact selG_end al_tr _ _ (unseenK_nodup _ _) (el_mem _ _))
        rw [HNQ.out]
        go_wp2_with fail
        go_ret
        refine ⟨ackL xs, D, d, rfl, ?_, ?_, HB.out⟩
        · rw [ackL_len HV.out, ← HM.out]
          rfl
        · rw [ackL_len HV.out, ← HM.out]
          have := HO.out
          unfold ackL
          rw [if_pos HV.out, ← HM.out]
          exact this

end Go.Proofs.YtijnahflfbjgiaaDoor
