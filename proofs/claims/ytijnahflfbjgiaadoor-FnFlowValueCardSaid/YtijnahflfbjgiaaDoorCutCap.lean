/-
  Chapter 34: how much the border of some buses lets through; what the program's function and the reference's compute.
-/
import Derived.Test.YtijnahflfbjgiaaDoorZone
namespace Go.Proofs.YtijnahflfbjgiaaDoor
open Go.RowKit
set_option linter.unusedVariables false

def cutS (ls : List (Int × Int × Int)) (os : List Bool) (zs : List Int) (k : Nat) : Int := if atB os k && !(hasB zs (at3 ls k).1 == hasB zs (at3 ls k).2.1) then (at3 ls k).2.2 else 0
def cutF (ls : List (Int × Int × Int)) (os : List Bool) (zs : List Int) : Nat → Int
  | 0 => 0
  | k + 1 => cutF ls os zs k + cutS ls os zs k
def cutB (b : Int) (ls : List (Int × Int × Int)) (os : List Bool) (zs : List Int) : Int := if stB b ls os.length && zoneB b ls zs then cutF ls os zs ls.length else -1
theorem cutS_in {b : Int} {ls : List (Int × Int × Int)} (h : netB b ls = true) (os : List Bool) (zs : List Int) (k : Nat) (hk : k < ls.length) : 0 ≤ cutS ls os zs k ∧ cutS ls os zs k ≤ 999 := by
  have := net_at h k hk
  unfold cutS
  split <;> omega
theorem cutF_in {b : Int} {ls : List (Int × Int × Int)} (h : netB b ls = true) (os : List Bool) (zs : List Int) (k : Nat) (hk : k ≤ ls.length) : 0 ≤ cutF ls os zs k ∧ cutF ls os zs k ≤ 999 * k := by
  induction k with
  | zero => simp [cutF]
  | succ k ih =>
    have := ih (by omega)
    have := cutS_in h os zs k (by omega)
    unfold cutF
    omega
theorem cutF_no {ls : List (Int × Int × Int)} {os : List Bool} {zs : List Int} {k : Nat} (h : atB os k = false ∨ hasB zs (at3 ls k).1 = hasB zs (at3 ls k).2.1) : cutF ls os zs (k + 1) = cutF ls os zs k := by
  have : cutS ls os zs k = 0 := by
    unfold cutS
    rcases h with h | h
    · simp [h]
    · simp [h]
  show cutF ls os zs k + cutS ls os zs k = _
  omega
theorem cutF_yes {ls : List (Int × Int × Int)} {os : List Bool} {zs : List Int} {k : Nat} (h1 : atB os k = true) (h2 : hasB zs (at3 ls k).1 ≠ hasB zs (at3 ls k).2.1) : cutF ls os zs (k + 1) = cutF ls os zs k + (at3 ls k).2.2 := by
  have : cutS ls os zs k = (at3 ls k).2.2 := by
    unfold cutS
    simp [h1, h2]
  show cutF ls os zs k + cutS ls os zs k = _
  omega
theorem stB_true {b : Int} {ls : List (Int × Int × Int)} {n : Nat} (h : stB b ls n = true) : netB b ls = true ∧ n = ls.length := by simpa [stB] using h

set_option maxHeartbeats 1000000 in
theorem implCutCapacity_any (b : Int) (A D E : Option Addr) (c d f : Nat) (ls : List (Int × Int × Int)) (os : List Bool) (zs : List Int) (w : World) (h : Sl w w.heap.size 3 A ls.length (enc3 ls)) (g : Sl w w.heap.size 1 D os.length (encB os)) (s : Sl w w.heap.size 1 E zs.length (encI zs)) (hm : ls.length ≤ 1048576) (hn : os.length ≤ 1048576) (hp : zs.length ≤ 1048576) :
    Calls Tryd.prog 33 #[.agg #[.int .i64 b, .slice A ls.length c], .slice D os.length d, .slice E zs.length f] w fun e w' => e = .returned (.int .i64 (cutB b ls os zs)) ∧ Below w.heap.size w w' := by
  have bw := (Below.refl _ w).alloc (Nat.le_refl _) (.cells #[.int .i64 b, .slice A ls.length c] 50)
  have B0 := Blk.new w 50 #[.int .i64 b, .slice A ls.length c]
  cases h1 : stB b ls os.length
  · have HQ := hide (show cutB b ls os zs = -1 by simp [cutB, h1])
    go_enter Tryd.func33, Tryd.ntmps33
    go_wp2_with fail
    refine (implStateValid_any _ _ _ _ _ _ _ _ (h.to bw) hm).mono ?_
    rintro e w1 ⟨rfl, hb1⟩
    rw [h1]
    go_wp2_with fail
    go_ret
    exact ⟨ret_int HQ.out.symm, bw.then hb1⟩
  · obtain ⟨hv, hl⟩ := stB_true h1
    have HV := hide hv
    have HL := hide hl
    have hl1 : os.length ≤ ls.length := by omega
    have hl2 : ls.length ≤ os.length := by omega
    clear hl hv
    cases h2 : zoneB b ls zs
    · have HQ := hide (show cutB b ls os zs = -1 by simp [cutB, h2])
      go_enter Tryd.func33, Tryd.ntmps33
      go_wp2_with fail
      refine (implStateValid_any _ _ _ _ _ _ _ _ (h.to bw) hm).mono ?_
      rintro e w1 ⟨rfl, hb1⟩
      rw [h1]
      have B1 := B0.to hb1
      obtain ⟨g0, g1⟩ := B1.two
      have K1 := hide (bw.then hb1)
      have S1 := hide (((h.to bw).to hb1))
      have S2 := hide (((s.to bw).to hb1))
      clear hb1 B1
      go_wp2_with fail
      refine (implZoneValid_any _ _ _ _ _ _ _ _ S1.out S2.out hm hp).mono ?_
      rintro e w2 ⟨rfl, hb2⟩
      rw [h2]
      have K2 := hide (K1.out.then hb2)
      clear hb2
      go_wp2_with fail
      go_ret
      exact ⟨ret_int HQ.out.symm, K2.out⟩
    · have HQ := hide (show cutB b ls os zs = cutF ls os zs ls.length by simp [cutB, h1, h2])
      obtain ⟨⟨n1, n2⟩, n3⟩ := net_len HV.out
      go_enter Tryd.func33, Tryd.ntmps33
      go_wp2_with fail
      refine (implStateValid_any _ _ _ _ _ _ _ _ (h.to bw) hm).mono ?_
      rintro e w1 ⟨rfl, hb1⟩
      rw [h1]
      have B1 := B0.to hb1
      obtain ⟨g0, g1⟩ := B1.two
      have HB1 := hide B1
      have K1 := hide (bw.then hb1)
      have S1 := hide (((h.to bw).to hb1))
      have S2 := hide (((s.to bw).to hb1))
      clear hb1 B1
      go_wp2_with fail
      refine (implZoneValid_any _ _ _ _ _ _ _ _ S1.out S2.out hm hp).mono ?_
      rintro e w2 ⟨rfl, hb2⟩
      rw [h2]
      clear g0 g1
      have K2 := hide (K1.out.then hb2)
      have B2 := hide (HB1.out.to hb2)
      obtain ⟨g0, g1⟩ := B2.out.two
      clear hb2 h1 h2 bw B0
      go_wp2_with fail
      clear g0 g1
      go_loopw [7, 23] (fun q i wr => ∃ k : Nat, k ≤ ls.length ∧ q = .int .i64 (cutF ls os zs k) ∧ i = .int .i64 k ∧ Hid (Blk wr w.heap.size 50 #[.int .i64 b, .slice A ls.length c]) ∧ Hid (Below w.heap.size w wr)) (fun _ i _ => ls.length - (intOf i).toNat)
      case atStart => exact ⟨0, Nat.zero_le _, rfl, rfl, B2, K2⟩
      case round =>
        obtain ⟨k, hk, rfl, rfl, HB, HK⟩ := hrel
        obtain ⟨c1, c2⟩ := cutF_in HV.out os zs k hk
        by_cases hlt : k < ls.length
        · obtain ⟨b0, off, rfl, hb, hc0, hc1, hc2⟩ := h.three k hlt
          have d0 := (HK.out.cell (p := ⟨b0, off + k * 3, none⟩) hb).trans hc0
          have d1 := (HK.out.cell (p := ⟨b0, off + k * 3 + 1, none⟩) hb).trans hc1
          have d2 := (HK.out.cell (p := ⟨b0, off + k * 3 + 2, none⟩) hb).trans hc2
          obtain ⟨b1, off1, rfl, hbb, he⟩ := g.bool k (by omega)
          have he' := (HK.out.cell (p := ⟨b1, off1 + k, none⟩) hbb).trans he
          have hs1 : b1 < wr.heap.size := Nat.lt_of_lt_of_le hbb HK.out.size
          have hs0 : b0 < wr.heap.size := Nat.lt_of_lt_of_le hb HK.out.size
          have TS := hide ((s.to HK.out).to ((Below.refl _ wr).alloc (Nat.le_refl _) (.cells #[.int .i64 (at3 ls k).1, .int .i64 (at3 ls k).2.1, .int .i64 (at3 ls k).2.2] 76)))
          have hA := HB.out.lt
          obtain ⟨m1, m2, m3, m4, m5⟩ := net_at HV.out k hlt
          have i0 : (0 : Int) ≤ k := by omega
          have i1 : (k : Int) < os.length := by omega
          clear hc0 hc1 hc2 he
          cases ho : atB os k
          · rw [ho] at he'
            have E := hide (cutF_no (ls := ls) (os := os) (zs := zs) (k := k) (.inl ho))
            go_wp2_with fail
            go_quiet (first | (go_at_call 75; exact quiet_left (slicesContains_any _ _ _ _ _ _ rfl TS.out (by omega))))
            go_wp2_with fail
            go_roundw
            case rel => exact ⟨k + 1, by omega, vint E.out.symm, by go_num, hide ((HB.out.alloc _).drewN _), hide (below_drewN (HK.out.alloc HK.out.size _) _)⟩
            case measure => simp [intOf]; omega
          · rw [ho] at he'
            cases ha : hasB zs (at3 ls k).1 <;> cases hb2 : hasB zs (at3 ls k).2.1
            · skip
              have E := hide (cutF_no (ls := ls) (os := os) (zs := zs) (k := k) (.inr (by rw [ha, hb2])))
              go_wp2_with fail
              go_quiet (first | (go_at_call 75; exact quiet_left (slicesContains_any _ _ _ _ _ _ rfl TS.out (by omega))))
              go_wp2_with fail
              go_roundw
              case rel => exact ⟨k + 1, by omega, vint E.out.symm, by go_num, hide ((HB.out.alloc _).drewN _), hide (below_drewN (HK.out.alloc HK.out.size _) _)⟩
              case measure => simp [intOf]; omega
            · skip
              have E := hide (cutF_yes (ls := ls) (os := os) (zs := zs) (k := k) ho (by rw [ha, hb2]; simp))
              go_wp2_with fail
              go_quiet (first | (go_at_call 75; exact quiet_left (slicesContains_any _ _ _ _ _ _ rfl TS.out (by omega))))
              go_wp2_with fail
              go_roundw
              case rel => exact ⟨k + 1, by omega, vint E.out.symm, by go_num, hide ((HB.out.alloc _).drewN _), hide (below_drewN (HK.out.alloc HK.out.size _) _)⟩
              case measure => simp [intOf]; omega
            · skip
              have E := hide (cutF_yes (ls := ls) (os := os) (zs := zs) (k := k) ho (by rw [ha, hb2]; simp))
              go_wp2_with fail
              go_quiet (first | (go_at_call 75; exact quiet_left (slicesContains_any _ _ _ _ _ _ rfl TS.out (by omega))))
              go_wp2_with fail
              go_roundw
              case rel => exact ⟨k + 1, by omega, vint E.out.symm, by go_num, hide ((HB.out.alloc _).drewN _), hide (below_drewN (HK.out.alloc HK.out.size _) _)⟩
              case measure => simp [intOf]; omega
            · skip
              have E := hide (cutF_no (ls := ls) (os := os) (zs := zs) (k := k) (.inr (by rw [ha, hb2])))
              go_wp2_with fail
              go_quiet (first | (go_at_call 75; exact quiet_left (slicesContains_any _ _ _ _ _ _ rfl TS.out (by omega))))
              go_wp2_with fail
              go_roundw
              case rel => exact ⟨k + 1, by omega, vint E.out.symm, by go_num, hide ((HB.out.alloc _).drewN _), hide (below_drewN (HK.out.alloc HK.out.size _) _)⟩
              case measure => simp [intOf]; omega
        · obtain rfl : k = ls.length := by omega
          go_wp2_with fail
          go_ret
          exact ⟨ret_int HQ.out.symm, HK.out⟩

end Go.Proofs.YtijnahflfbjgiaaDoor
