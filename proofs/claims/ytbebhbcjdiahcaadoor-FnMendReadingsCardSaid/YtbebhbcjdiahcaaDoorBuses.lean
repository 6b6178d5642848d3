/-
  Buses that are valid, networks that are radial: what the program's and the reference's functions compute.
-/
import Derived.Test.YtbebhbcjdiahcaaDoorCycS
namespace Go.Proofs.YtbebhbcjdiahcaaDoor
open Go.RowKit
set_option linter.unusedVariables false

theorem hasCycleS_any (nb : Nat) (A D : Option Addr) (c d : Nat) (ls : List (Int × Int × Int)) (on : List Bool) (w : World) (h : Sl w w.heap.size 3 A ls.length (enc3 ls)) (g : Sl w w.heap.size 1 D ls.length (encB on)) (hl : on.length = ls.length) (hv : netB nb ls = true) :
    Calls Tryd.prog 31 #[.agg #[.int .i64 nb, .slice A ls.length c], .slice D ls.length d] w fun e w' => e = .returned (.bool (cycB ls on)) ∧ Below w.heap.size w w' := by
  have bw := (Below.refl _ w).alloc (Nat.le_refl _) (.cells #[.int .i64 nb, .slice A ls.length c] 25)
  have HH := hide (h.to bw)
  have GG := hide (g.to bw)
  clear h g
  go_enter Tryd.func31, Tryd.ntmps31
  go_wp2_with fail
  refine (cycleLines_any nb _ _ _ _ ls on _ HH.out GG.out hl hv).mono ?_
  rintro e w2 ⟨ord, E, f, hi, rfl, ho, hb2⟩
  have HI := hide hi
  clear hi
  go_wp2_with fail
  go_ret
  refine ⟨ret_bool ?_, bw.then hb2⟩
  rw [Bool.eq_iff_iff, cycB_iff, decide_eq_true_iff]
  have := HI.out.2
  constructor
  · intro h
    obtain ⟨j, h1, h2, h3⟩ := this.1 (by omega)
    exact ⟨j, h1, h2, h3⟩
  · rintro ⟨j, h1, h2, h3⟩
    have := this.2 ⟨j, h1, h2, h3⟩
    omega

def busOk (p : Int × Int) : Bool := inB p.1 0 999 && inB p.2 0 999
def busB (b : Int) (ls : List (Int × Int × Int)) (bs : List (Int × Int)) : Bool := netB b ls && decide ((bs.length : Int) = b) && decide (∀ j, j < bs.length → busOk (at2 bs j) = true)
theorem busB_net {b : Int} {ls : List (Int × Int × Int)} {bs : List (Int × Int)} (h : netB b ls = false) : busB b ls bs = false := by simp [busB, h]
theorem busB_len {b : Int} {ls : List (Int × Int × Int)} {bs : List (Int × Int)} (h : ¬ (bs.length : Int) = b) : busB b ls bs = false := by simp [busB, h]
theorem busB_no {b : Int} {ls : List (Int × Int × Int)} {bs : List (Int × Int)} (k : Nat) (hk : k < bs.length) (h : busOk (at2 bs k) = false) : busB b ls bs = false := by
  have : decide (∀ j, j < bs.length → busOk (at2 bs j) = true) = false := decide_eq_false fun hh => by rw [hh k hk] at h; cases h
  unfold busB
  rw [this, Bool.and_false]
theorem busB_yes {b : Int} {ls : List (Int × Int × Int)} {bs : List (Int × Int)} (h : netB b ls = true) (hl : (bs.length : Int) = b) (h2 : ∀ j, j < bs.length → busOk (at2 bs j) = true) : busB b ls bs = true := by
  unfold busB
  rw [h, decide_eq_true hl, decide_eq_true h2]; rfl
theorem busB_true {b : Int} {ls : List (Int × Int × Int)} {bs : List (Int × Int)} (h : busB b ls bs = true) : netB b ls = true ∧ (bs.length : Int) = b ∧ ∀ j, j < bs.length → busOk (at2 bs j) = true := by
  simp only [busB, Bool.and_eq_true, decide_eq_true_eq] at h
  exact ⟨h.1.1, h.1.2, h.2⟩
theorem busOk_cases (p : Int × Int) : (inB p.1 0 999 = false ∧ busOk p = false) ∨ (inB p.1 0 999 = true ∧ inB p.2 0 999 = false ∧ busOk p = false) ∨ (inB p.1 0 999 = true ∧ inB p.2 0 999 = true ∧ busOk p = true) := by
  unfold busOk
  cases inB p.1 0 999 <;> cases inB p.2 0 999 <;> simp

set_option maxHeartbeats 1000000 in
theorem implBusesValid_any (b : Int) (A F : Option Addr) (c f : Nat) (ls : List (Int × Int × Int)) (bs : List (Int × Int)) (w : World) (h : Sl w w.heap.size 3 A ls.length (enc3 ls)) (s : Sl w w.heap.size 2 F bs.length (enc2 bs)) (hm : ls.length ≤ 1048576) (hn : bs.length ≤ 1048576) :
    Calls Tryd.prog 71 #[.agg #[.int .i64 b, .slice A ls.length c], .slice F bs.length f] w fun e w' => e = .returned (.bool (busB b ls bs)) ∧ Below w.heap.size w w' := by
  have bw := (Below.refl _ w).alloc (Nat.le_refl _) (.cells #[.int .i64 b, .slice A ls.length c] 25)
  have B0 := hide (Blk.new w 25 #[.int .i64 b, .slice A ls.length c])
  have HH := hide (h.to bw)
  have K0 := hide bw
  have SS := hide s
  clear h bw s
  cases h1 : netB b ls
  · have HQ := hide (busB_net (bs := bs) h1)
    go_enter Tryd.func71, Tryd.ntmps71
    go_wp2_with fail
    refine (implNetValid_any _ _ _ _ _ HH.out hm).mono ?_
    rintro e w1 ⟨rfl, hb1⟩
    rw [h1]
    have K1 := hide (K0.out.then hb1)
    clear hb1
    go_wp2_with fail
    go_ret
    exact ⟨ret_bool HQ.out.symm, K1.out⟩
  · have HV := hide h1
    by_cases h2 : (bs.length : Int) = b
    · have hne : ((bs.length : Int) != b) = false := by simp [h2]
      have HL := hide h2
      clear h2
      go_enter Tryd.func71, Tryd.ntmps71
      go_wp2_with fail
      refine (implNetValid_any _ _ _ _ _ HH.out hm).mono ?_
      rintro e w1 ⟨rfl, hb1⟩
      rw [h1]
      have K1 := hide (K0.out.then hb1)
      obtain ⟨g0, g1⟩ := (B0.out.to hb1).two
      clear hb1 h1
      go_wp2_with fail
      go_loopw [19] (fun x wr => ∃ k : Nat, k ≤ bs.length ∧ x = .int .i64 k ∧ Hid (∀ j, j < k → busOk (at2 bs j) = true) ∧ Hid (Below w.heap.size w wr)) (fun x _ => bs.length - (intOf x).toNat)
      case atStart => exact ⟨0, Nat.zero_le _, rfl, hide (fun j hj => absurd hj (by omega)), K1⟩
      case round =>
        clear g0 g1 K1
        obtain ⟨k, hk, rfl, HN, HK⟩ := hrel
        by_cases hlt : k < bs.length
        · obtain ⟨b0, o0, rfl, hb, hd0, hd1⟩ := SS.out.two k hlt
          have d0 := (HK.out.cell (p := ⟨b0, o0 + k * 2, none⟩) hb).trans hd0
          have d1 := (HK.out.cell (p := ⟨b0, o0 + k * 2 + 1, none⟩) hb).trans hd1
          have hz3 := HK.out.size
          have hb0 : b0 < wr.heap.size := by omega
          have K2 := hide (HK.out.alloc hz3 (.cells #[.int .i64 (at2 bs k).1, .int .i64 (at2 bs k).2] 54))
          clear hd0 hd1
          rcases busOk_cases (at2 bs k) with ⟨q1, q⟩ | ⟨q1, q2, q⟩ | ⟨q1, q2, q⟩
          · have Q := hide q
            clear q
            go_wp2_with ((go_at_call 83; refine (powerValid_any _ _).mono ?_; rintro e w' ⟨rfl, rfl⟩))
            go_ret
            exact ⟨ret_bool (busB_no k hlt Q.out).symm, K2.out⟩
          · have Q := hide q
            clear q
            go_wp2_with ((go_at_call 83; refine (powerValid_any _ _).mono ?_; rintro e w' ⟨rfl, rfl⟩))
            go_ret
            exact ⟨ret_bool (busB_no k hlt Q.out).symm, K2.out⟩
          · have Q := hide q
            clear q
            go_wp2_with ((go_at_call 83; refine (powerValid_any _ _).mono ?_; rintro e w' ⟨rfl, rfl⟩))
            go_roundw
            case rel => exact ⟨k + 1, by omega, by go_num, hide (fun j hj => by
                by_cases hjk : j = k
                · subst hjk; exact Q.out
                · exact HN.out j (by omega)), K2⟩
            case measure => simp [intOf]; omega
        · obtain rfl : k = bs.length := by omega
          go_wp2_with fail
          go_ret
          exact ⟨ret_bool (busB_yes HV.out HL.out HN.out).symm, HK.out⟩
    · have hne : ((bs.length : Int) != b) = true := by simp [h2]
      have HQ := hide (busB_len (ls := ls) h2)
      clear h2
      go_enter Tryd.func71, Tryd.ntmps71
      go_wp2_with fail
      refine (implNetValid_any _ _ _ _ _ HH.out hm).mono ?_
      rintro e w1 ⟨rfl, hb1⟩
      rw [h1]
      have K1 := hide (K0.out.then hb1)
      obtain ⟨g0, g1⟩ := (B0.out.to hb1).two
      clear hb1 h1
      go_wp2_with fail
      go_ret
      exact ⟨ret_bool HQ.out.symm, K1.out⟩

set_option maxHeartbeats 1000000 in
theorem specBusesValid_any (b : Int) (A F : Option Addr) (c f : Nat) (ls : List (Int × Int × Int)) (bs : List (Int × Int)) (w : World) (h : Sl w w.heap.size 3 A ls.length (enc3 ls)) (s : Sl w w.heap.size 2 F bs.length (enc2 bs)) (hm : ls.length ≤ 1048576) (hn : bs.length ≤ 1048576) :
    Calls Tryd.prog 55 #[.agg #[.int .i64 b, .slice A ls.length c], .slice F bs.length f] w fun e w' => e = .returned (.bool (busB b ls bs)) ∧ Below w.heap.size w w' := by
  have bw := (Below.refl _ w).alloc (Nat.le_refl _) (.cells #[.int .i64 b, .slice A ls.length c] 25)
  have B0 := hide (Blk.new w 25 #[.int .i64 b, .slice A ls.length c])
  have HH := hide h
  have K0 := hide bw
  have SS := hide s
  clear h bw s
  go_enter Tryd.func55, Tryd.ntmps55
  go_wp2_with fail
  go_loopw [5] (fun x wr => ∃ k : Nat, k ≤ bs.length ∧ x = .int .i64 k ∧ Hid (∀ j, j < k → busOk (at2 bs j) = true) ∧ Hid (Blk wr w.heap.size 25 #[.int .i64 b, .slice A ls.length c]) ∧ Hid (Below w.heap.size w wr)) (fun x _ => bs.length - (intOf x).toNat)
  case atStart => exact ⟨0, Nat.zero_le _, rfl, hide (fun j hj => absurd hj (by omega)), B0, K0⟩
  case round =>
    clear K0 B0
    obtain ⟨k, hk, rfl, HN, HB, HK⟩ := hrel
    obtain ⟨g0, g1⟩ := HB.out.two
    by_cases hlt : k < bs.length
    · obtain ⟨b0, o0, rfl, hb, hd0, hd1⟩ := SS.out.two k hlt
      have d0 := (HK.out.cell (p := ⟨b0, o0 + k * 2, none⟩) hb).trans hd0
      have d1 := (HK.out.cell (p := ⟨b0, o0 + k * 2 + 1, none⟩) hb).trans hd1
      have i0 : (0 : Int) ≤ k := by omega
      have i1 : (k : Int) < bs.length := by omega
      clear hd0 hd1
      rcases busOk_cases (at2 bs k) with ⟨q1, q⟩ | ⟨q1, q2, q⟩ | ⟨q1, q2, q⟩
      · have Q := hide q
        clear q
        go_wp2_with ((go_at_call 52; refine (l1In_any _ _ _ _).mono ?_; rintro e w' ⟨rfl, rfl⟩))
        go_ret
        exact ⟨ret_bool (busB_no k hlt Q.out).symm, HK.out⟩
      · have Q := hide q
        clear q
        go_wp2_with ((go_at_call 52; refine (l1In_any _ _ _ _).mono ?_; rintro e w' ⟨rfl, rfl⟩))
        go_ret
        exact ⟨ret_bool (busB_no k hlt Q.out).symm, HK.out⟩
      · have Q := hide q
        clear q
        go_wp2_with ((go_at_call 52; refine (l1In_any _ _ _ _).mono ?_; rintro e w' ⟨rfl, rfl⟩))
        go_roundw
        case rel => exact ⟨k + 1, by omega, by go_num, hide (fun j hj => by
            by_cases hjk : j = k
            · subst hjk; exact Q.out
            · exact HN.out j (by omega)), HB, HK⟩
        case measure => simp [intOf]; omega
    · obtain rfl : k = bs.length := by omega
      have H1 := hide (HH.out.to HK.out)
      go_wp2_with fail
      refine (specNetValid_any _ _ _ _ _ H1.out hm).mono ?_
      rintro e w1 ⟨rfl, hb1⟩
      have K1 := hide (HK.out.then hb1)
      obtain ⟨g2, g3⟩ := (HB.out.to hb1).two
      clear hb1 g0 g1
      cases h1 : netB b ls
      · have HQ := hide (busB_net (bs := bs) h1)
        go_wp2_with fail
        go_ret
        exact ⟨ret_bool HQ.out.symm, K1.out⟩
      · have HV := hide h1
        go_wp2_with fail
        go_ret
        refine ⟨ret_bool ?_, K1.out⟩
        by_cases h2 : (bs.length : Int) = b
        · rw [busB_yes HV.out h2 HN.out]; simp [h2]
        · rw [busB_len h2]; simp [h2]

/-- A valid network, a state and valid buses. -/
def fedB (b : Int) (ls : List (Int × Int × Int)) (n : Nat) (bs : List (Int × Int)) : Bool := stB b ls n && busB b ls bs

theorem fedValid_any (b : Int) (A D F : Option Addr) (c d f n : Nat) (ls : List (Int × Int × Int)) (bs : List (Int × Int)) (w : World) (h : Sl w w.heap.size 3 A ls.length (enc3 ls)) (s : Sl w w.heap.size 2 F bs.length (enc2 bs)) (hm : ls.length ≤ 1048576) (hn : bs.length ≤ 1048576) :
    Calls Tryd.prog 48 #[.agg #[.int .i64 b, .slice A ls.length c], .slice D n d, .slice F bs.length f] w fun e w' => e = .returned (.bool (fedB b ls n bs)) ∧ Below w.heap.size w w' := by
  have bw := (Below.refl _ w).alloc (Nat.le_refl _) (.cells #[.int .i64 b, .slice A ls.length c] 25)
  have B0 := hide (Blk.new w 25 #[.int .i64 b, .slice A ls.length c])
  have HH := hide (h.to bw)
  have SS := hide (s.to bw)
  have K0 := hide bw
  clear h bw s
  go_enter Tryd.func48, Tryd.ntmps48
  go_wp2_with fail
  refine (implStateValid_any _ _ _ _ _ _ _ _ HH.out hm).mono ?_
  rintro e w1 ⟨rfl, hb1⟩
  have H1 := hide (HH.out.to hb1)
  have S1 := hide (SS.out.to hb1)
  have K1 := hide (K0.out.then hb1)
  obtain ⟨g2, g3⟩ := (B0.out.to hb1).two
  clear hb1
  cases h1 : stB b ls n
  · have HQ := hide (show fedB b ls n bs = false by simp [fedB, h1])
    go_wp2_with fail
    go_ret
    exact ⟨ret_bool HQ.out.symm, K1.out⟩
  · have HQ := hide (show fedB b ls n bs = busB b ls bs by simp [fedB, h1])
    go_wp2_with fail
    refine (implBusesValid_any _ _ _ _ _ _ _ _ H1.out S1.out hm hn).mono ?_
    rintro e w2 ⟨rfl, hb2⟩
    have K2 := hide (K1.out.then hb2)
    clear hb2
    go_wp2_with fail
    go_ret
    exact ⟨ret_bool HQ.out.symm, K2.out⟩

theorem l5Ok_any (b : Int) (A D F : Option Addr) (c d f n : Nat) (ls : List (Int × Int × Int)) (bs : List (Int × Int)) (w : World) (h : Sl w w.heap.size 3 A ls.length (enc3 ls)) (s : Sl w w.heap.size 2 F bs.length (enc2 bs)) (hm : ls.length ≤ 1048576) (hn : bs.length ≤ 1048576) :
    Calls Tryd.prog 30 #[.agg #[.int .i64 b, .slice A ls.length c], .slice D n d, .slice F bs.length f] w fun e w' => e = .returned (.bool (fedB b ls n bs)) ∧ Below w.heap.size w w' := by
  have bw := (Below.refl _ w).alloc (Nat.le_refl _) (.cells #[.int .i64 b, .slice A ls.length c] 25)
  have B0 := hide (Blk.new w 25 #[.int .i64 b, .slice A ls.length c])
  have HH := hide (h.to bw)
  have SS := hide (s.to bw)
  have K0 := hide bw
  clear h bw s
  go_enter Tryd.func30, Tryd.ntmps30
  go_wp2_with fail
  refine (specStateValid_any _ _ _ _ _ _ _ _ HH.out hm).mono ?_
  rintro e w1 ⟨rfl, hb1⟩
  have H1 := hide (HH.out.to hb1)
  have S1 := hide (SS.out.to hb1)
  have K1 := hide (K0.out.then hb1)
  obtain ⟨g2, g3⟩ := (B0.out.to hb1).two
  clear hb1
  cases h1 : stB b ls n
  · have HQ := hide (show fedB b ls n bs = false by simp [fedB, h1])
    go_wp2_with fail
    go_ret
    exact ⟨ret_bool HQ.out.symm, K1.out⟩
  · have HQ := hide (show fedB b ls n bs = busB b ls bs by simp [fedB, h1])
    go_wp2_with fail
    refine (specBusesValid_any _ _ _ _ _ _ _ _ H1.out S1.out hm hn).mono ?_
    rintro e w2 ⟨rfl, hb2⟩
    have K2 := hide (K1.out.then hb2)
    clear hb2
    go_wp2_with fail
    go_ret
    exact ⟨ret_bool HQ.out.symm, K2.out⟩

end Go.Proofs.YtbebhbcjdiahcaaDoor
