/-
  Chapter 18: zones; what the program's function and the reference's compute.
-/
import Derived.Test.YtijnahflfbjgiaaDoorCuts
import Derived.IntWalk
namespace Go.Proofs.YtijnahflfbjgiaaDoor
open Go.RowKit
set_option linter.unusedVariables false

theorem Sl.int_at' {w : World} {B b off : Nat} {xs : List Int} (h : Sl w B 1 (some ⟨b, off, none⟩) xs.length (encI xs)) (k : Nat) (hk : k < xs.length) : w.cell? ⟨b, off + k, none⟩ = some (.int .i64 (at_ xs k)) := by
  obtain ⟨b', off', hA, _, hc⟩ := h.int k hk
  simp only [Option.some.injEq, Addr.mk.injEq] at hA
  obtain ⟨rfl, rfl, _⟩ := hA
  exact hc
def zoneOk (hi : Int) (zs : List Int) (k : Nat) : Bool := inB (at_ zs k) 0 hi && (k == 0 || decide (at_ zs (k - 1) < at_ zs k))
def zoneB (b : Int) (ls : List (Int × Int × Int)) (zs : List Int) : Bool := netB b ls && decide (∀ j, j < zs.length → zoneOk (b - 1) zs j = true)
theorem zoneB_net {b : Int} {ls : List (Int × Int × Int)} {zs : List Int} (h : netB b ls = false) : zoneB b ls zs = false := by simp [zoneB, h]
theorem zoneB_no {b : Int} {ls : List (Int × Int × Int)} {zs : List Int} (k : Nat) (hk : k < zs.length) (h : zoneOk (b - 1) zs k = false) : zoneB b ls zs = false := by
  have : decide (∀ j, j < zs.length → zoneOk (b - 1) zs j = true) = false := decide_eq_false fun hh => by rw [hh k hk] at h; cases h
  unfold zoneB
  rw [this]
  simp
theorem zoneB_yes {b : Int} {ls : List (Int × Int × Int)} {zs : List Int} (h : netB b ls = true) (h2 : ∀ j, j < zs.length → zoneOk (b - 1) zs j = true) : zoneB b ls zs = true := by
  have : decide (∀ j, j < zs.length → zoneOk (b - 1) zs j = true) = true := decide_eq_true h2
  unfold zoneB
  rw [this, h]
  rfl
theorem zone_cases (hi : Int) (zs : List Int) (k : Nat) : (inB (at_ zs k) 0 hi = false ∧ zoneOk hi zs k = false) ∨ (k ≤ 0 ∧ inB (at_ zs k) 0 hi = true ∧ zoneOk hi zs k = true) ∨
    (∃ j, k = j + 1 ∧ inB (at_ zs (j + 1)) 0 hi = true ∧ at_ zs j < at_ zs (j + 1) ∧ zoneOk hi zs (j + 1) = true) ∨ (∃ j, k = j + 1 ∧ inB (at_ zs (j + 1)) 0 hi = true ∧ at_ zs (j + 1) ≤ at_ zs j ∧ zoneOk hi zs (j + 1) = false) := by
  cases h1 : inB (at_ zs k) 0 hi
  · exact .inl ⟨rfl, by simp [zoneOk, h1]⟩
  · cases k with
    | zero => exact .inr (.inl ⟨Nat.le_refl _, rfl, by simp [zoneOk, h1]⟩)
    | succ j =>
      by_cases h2 : at_ zs j < at_ zs (j + 1)
      · exact .inr (.inr (.inl ⟨j, rfl, h1, h2, by simp [zoneOk, h1, h2]⟩))
      · exact .inr (.inr (.inr ⟨j, rfl, h1, by omega, by simp [zoneOk, h2]⟩))

theorem implZoneValid_any (b : Int) (A D : Option Addr) (c d : Nat) (ls : List (Int × Int × Int)) (zs : List Int) (w : World) (h : Sl w w.heap.size 3 A ls.length (enc3 ls)) (g : Sl w w.heap.size 1 D zs.length (encI zs)) (hm : ls.length ≤ 1048576) (hn : zs.length ≤ 1048576) :
    Calls Tryd.prog 74 #[.agg #[.int .i64 b, .slice A ls.length c], .slice D zs.length d] w fun e w' => e = .returned (.bool (zoneB b ls zs)) ∧ Below w.heap.size w w' := by
  have bw := (Below.refl _ w).alloc (Nat.le_refl _) (.cells #[.int .i64 b, .slice A ls.length c] 50)
  have B0 := Blk.new w 50 #[.int .i64 b, .slice A ls.length c]
  cases h1 : netB b ls
  · have HQ := hide (zoneB_net (zs := zs) h1)
    go_enter Tryd.func74, Tryd.ntmps74
    go_wp2_with fail
    refine (implNetValid_any _ _ _ _ _ (h.to bw) hm).mono ?_
    rintro e w1 ⟨rfl, hb1⟩
    rw [h1]
    go_wp2_with fail
    go_ret
    exact ⟨ret_bool HQ.out.symm, bw.then hb1⟩
  · have HV := hide h1
    obtain ⟨⟨u1, u2⟩, u3⟩ := net_len h1
    go_enter Tryd.func74, Tryd.ntmps74
    go_wp2_with fail
    refine (implNetValid_any _ _ _ _ _ (h.to bw) hm).mono ?_
    rintro e w1 ⟨rfl, hb1⟩
    rw [h1]
    have HB1 := hide (B0.to hb1)
    have K1 := hide (bw.then hb1)
    clear hb1 bw B0 h1
    go_wp2_with fail
    go_loopw [12] (fun i wr => ∃ k : Nat, k ≤ zs.length ∧ i = .int .i64 k ∧ Hid (∀ j, j < k → zoneOk (b - 1) zs j = true) ∧ Hid (Blk wr w.heap.size 50 #[.int .i64 b, .slice A ls.length c]) ∧ Hid (Below w.heap.size w wr)) (fun i _ => zs.length - (intOf i).toNat)
    case atStart => exact ⟨0, Nat.zero_le _, rfl, hide (fun j hj => absurd hj (by omega)), HB1, K1⟩
    case round =>
      obtain ⟨k, hk, rfl, H, HB, HK⟩ := hrel
      by_cases hlt : k < zs.length
      · obtain ⟨b0, off, rfl, hb, hc⟩ := g.int k hlt
        have hc' := (HK.out.cell (p := ⟨b0, off + k, none⟩) hb).trans hc
        obtain ⟨g0, g1⟩ := HB.out.two
        have HS : Hid (zoneOk (b - 1) zs k = true → ∀ j, j < k + 1 → zoneOk (b - 1) zs j = true) := fun hh j hj => by
          by_cases hjk : j = k
          · subst hjk; exact hh
          · exact H.out j (by omega)
        clear hc
        rcases zone_cases (b - 1) zs k with ⟨q1, q⟩ | ⟨hk0, q1, q⟩ | ⟨j, rfl, q1, q2, q⟩ | ⟨j, rfl, q1, q2, q⟩
        · have Q := hide q
          clear q
          go_wp2_with fail
          refine (hasBus_any _ _ _ _ _ _).mono ?_
          rintro e w2 ⟨rfl, hb2⟩
          rw [q1]
          have K2 := hide (HK.out.then hb2)
          clear hb2
          go_wp2_with fail
          go_ret
          exact ⟨ret_bool (zoneB_no k hlt Q.out).symm, K2.out⟩
        · have Q := hide q
          clear q
          go_wp2_with fail
          refine (hasBus_any _ _ _ _ _ _).mono ?_
          rintro e w2 ⟨rfl, hb2⟩
          rw [q1]
          have K2 := hide (HK.out.then hb2)
          have N2 := hide (HB.out.to hb2)
          clear hb2
          go_wp2_with fail
          go_roundw
          case rel => exact ⟨k + 1, by omega, by go_num, hide (HS.out Q.out), N2, K2⟩
          case measure => simp [intOf]; omega
        all_goals
          have Q := hide q
          clear q
          go_wp2_with fail
          refine (hasBus_any _ _ _ _ _ _).mono ?_
          rintro e w2 ⟨rfl, hb2⟩
          rw [q1]
          have K2 := hide (HK.out.then hb2)
          have N2 := hide (HB.out.to hb2)
          have hd' := (K2.out.cell (p := ⟨b0, off + j, none⟩) hb).trans (g.int_at' j (by omega))
          clear hb2
          go_wp2_with fail
          first
            | (go_ret; exact ⟨ret_bool (zoneB_no (j + 1) hlt Q.out).symm, K2.out⟩)
            | (go_roundw
               case rel => exact ⟨j + 1 + 1, by omega, by go_num, hide (HS.out Q.out), N2, K2⟩
               case measure => simp [intOf]; omega)
      · go_wp2_with fail
        go_ret
        exact ⟨ret_bool (zoneB_yes HV.out fun j hj => H.out j (by omega)).symm, HK.out⟩

set_option maxHeartbeats 1000000 in
theorem specZoneValid_any (b : Int) (A D : Option Addr) (c d : Nat) (ls : List (Int × Int × Int)) (zs : List Int) (w : World) (h : Sl w w.heap.size 3 A ls.length (enc3 ls)) (g : Sl w w.heap.size 1 D zs.length (encI zs)) (hm : ls.length ≤ 1048576) (hn : zs.length ≤ 1048576) :
    Calls Tryd.prog 77 #[.agg #[.int .i64 b, .slice A ls.length c], .slice D zs.length d] w fun e w' => e = .returned (.bool (zoneB b ls zs)) ∧ Below w.heap.size w w' := by
  have HBW := hide ((Below.refl _ w).alloc (Nat.le_refl _) (.cells #[.int .i64 b, .slice A ls.length c] 50))
  have HB0 := hide (Blk.new w 50 #[.int .i64 b, .slice A ls.length c])
  obtain ⟨hi, hhi⟩ : ∃ hi, IntKind.i64.wrap (b - 1) = hi := ⟨_, rfl⟩
  have HW := hide (show netB b ls = true → hi = b - 1 from fun hv => by
    have := net_len hv
    rw [← hhi]
    exact IntWalk.i64_in _ (by omega))
  have HF := hide (fun (k : Nat) (hk : k < zs.length) (q : zoneOk hi zs k = false) => show zoneB b ls zs = false by
    cases hv : netB b ls
    · exact zoneB_net hv
    · rw [HW.out hv] at q
      exact zoneB_no k hk q)
  have HHI := hide hhi
  clear hhi
  go_enter Tryd.func77, Tryd.ntmps77
  go_wp2_with fail
  go_loopw [5] (fun i wr => ∃ k : Nat, k ≤ zs.length ∧ i = .int .i64 k ∧ Hid (∀ j, j < k → zoneOk hi zs j = true) ∧ Hid (Blk wr w.heap.size 50 #[.int .i64 b, .slice A ls.length c]) ∧ Hid (Below w.heap.size w wr)) (fun i _ => zs.length - (intOf i).toNat)
  case atStart => exact ⟨0, Nat.zero_le _, rfl, hide (fun j hj => absurd hj (by omega)), HB0, HBW⟩
  case round =>
    obtain ⟨k, hk, rfl, H, HB, HK⟩ := hrel
    by_cases hlt : k < zs.length
    · obtain ⟨b0, off, rfl, hb, hc⟩ := g.int k hlt
      have hc' := (HK.out.cell (p := ⟨b0, off + k, none⟩) hb).trans hc
      obtain ⟨g0, g1⟩ := HB.out.two
      have hkb : Hid (∀ j, j < zs.length → wr.cell? ⟨b0, off + j, none⟩ = some (.int .i64 (at_ zs j))) := fun j hj => (HK.out.cell (p := ⟨b0, off + j, none⟩) hb).trans (g.int_at' j hj)
      have HS : Hid (zoneOk hi zs k = true → ∀ j, j < k + 1 → zoneOk hi zs j = true) := fun hh j hj => by
        by_cases hjk : j = k
        · subst hjk; exact hh
        · exact H.out j (by omega)
      have i0 : (0 : Int) ≤ k := by omega
      have i1 : (k : Int) < zs.length := by omega
      have hhi := HHI.out
      clear hc
      rcases zone_cases hi zs k with ⟨q1, q⟩ | ⟨hk0, q1, q⟩ | ⟨j, rfl, q1, q2, q⟩ | ⟨j, rfl, q1, q2, q⟩
      · have Q := hide q
        clear q
        go_wp2_with fail
        go_quiet (first | (go_at_call 57; exact quiet_left (l1In_any _ _ _ _)))
        go_wp2_with fail
        go_ret
        exact ⟨ret_bool (HF.out k hlt Q.out).symm, below_drewN HK.out _⟩
      · have Q := hide q
        have hdk : decide (0 < k) = false := by simp; omega
        clear q
        go_wp2_with fail
        go_quiet (first | (go_at_call 57; exact quiet_left (l1In_any _ _ _ _)))
        go_wp2_with fail
        go_roundw
        case rel => exact ⟨k + 1, by omega, by go_num, hide (HS.out Q.out), hide (HB.out.drewN _), hide (below_drewN HK.out _)⟩
        case measure => simp [intOf]; omega
      · have Q := hide q
        have hd' := hkb.out j (by omega)
        have hdk : decide (0 < j + 1) = true := by simp
        have hdq : decide (at_ zs (j + 1) ≤ at_ zs j) = false := by simp; omega
        have j0 : (0 : Int) ≤ j := by omega
        have j1 : (j : Int) < zs.length := by omega
        clear q
        go_wp2_with fail
        go_quiet (first | (go_at_call 57; exact quiet_left (l1In_any _ _ _ _)))
        go_wp2_with fail
        go_roundw
        case rel => exact ⟨j + 1 + 1, by omega, by go_num, hide (HS.out Q.out), hide (HB.out.drewN _), hide (below_drewN HK.out _)⟩
        case measure => simp [intOf]; omega
      · have Q := hide q
        have hd' := hkb.out j (by omega)
        have hdk : decide (0 < j + 1) = true := by simp
        have hdq : decide (at_ zs (j + 1) ≤ at_ zs j) = true := by simp; omega
        have j0 : (0 : Int) ≤ j := by omega
        have j1 : (j : Int) < zs.length := by omega
        clear q
        go_wp2_with fail
        go_quiet (first | (go_at_call 57; exact quiet_left (l1In_any _ _ _ _)))
        go_wp2_with fail
        go_ret
        exact ⟨ret_bool (HF.out (j + 1) hlt Q.out).symm, below_drewN HK.out _⟩
    · obtain ⟨g0, g1⟩ := HB.out.two
      go_wp2_with fail
      refine (specNetValid_any _ _ _ _ _ ((h.below HK.out).more HK.out.size) hm).mono ?_
      rintro e w2 ⟨rfl, hb2⟩
      have K2 := hide (HK.out.then hb2)
      clear hb2
      go_wp2_with fail
      go_ret
      refine ⟨ret_bool ?_, K2.out⟩
      cases hv : netB b ls
      · exact (zoneB_net hv).symm
      · refine (zoneB_yes hv fun j hj => ?_).symm
        have := H.out j (by omega)
        rwa [HW.out hv] at this

end Go.Proofs.YtijnahflfbjgiaaDoor
