/-
  Chapters 1 and 34: the other end of a line, and how much more it can carry; what the reference's functions compute.
-/
import Derived.Test.YtijnahflfbjgiaaDoorRoomW
namespace Go.Proofs.YtijnahflfbjgiaaDoor
open Go.RowKit
set_option linter.unusedVariables false

theorem l34Room_any (b : Int) (A D F : Option Addr) (c d f : Nat) (ls : List (Int × Int × Int)) (os : List Bool) (fl : List Int) (k : Nat) (bus : Int) (w : World) (h : Sl w w.heap.size 3 A ls.length (enc3 ls)) (g : Sl w w.heap.size 1 D os.length (encB os)) (s : Sl w w.heap.size 1 F fl.length (encI fl))
    (hv : netB b ls = true) (ho : os.length = ls.length) (hf : FlOk ls os fl) (hk : k < ls.length) :
    Calls Tryd.prog 107 #[.agg #[.int .i64 b, .slice A ls.length c], .slice D os.length d, .slice F fl.length f, .int .i64 k, .int .i64 bus] w fun e w' => e = .returned (.int .i64 (roomF ls os fl k bus)) ∧ Below w.heap.size w w' := by
  have bw := (Below.refl _ w).alloc (Nat.le_refl _) (.cells #[.int .i64 b, .slice A ls.length c] 50)
  obtain ⟨m1, m2, m3, m4, m5⟩ := net_at hv k hk
  obtain ⟨⟨m6, m7⟩, _⟩ := hf.2 k hk
  have hfl := hf.1
  obtain ⟨b0, off, rfl, hb, hc0, hc1, hc2⟩ := h.three k hk
  obtain ⟨b1, off1, rfl, hbb, he⟩ := g.bool k (by omega)
  obtain ⟨b2, off2, rfl, hbc, hs⟩ := s.int k (by omega)
  have i0 : (0 : Int) ≤ k := by omega
  have i1 : (k : Int) < os.length := by omega
  have i2 : (k : Int) < fl.length := by omega
  have i3 : (k : Int) < ls.length := by omega
  have HB := hide bw
  clear bw h g s hf hfl ho hv m1 m2 m3
  have hsw : ∀ x : Int, (x == bus) = (bus == x) := fun x => by rw [Bool.eq_iff_iff, beq_iff_eq, beq_iff_eq]; exact eq_comm
  rcases room_cases ls os fl k bus with ⟨q1, q⟩ | ⟨q1, q2, q⟩ | ⟨q1, q2, q⟩
  all_goals
    have Q := hide q
    clear q
    rw [q1] at he
    try rw [← hsw] at q2
    clear hsw
    go_enter Tryd.func107, Tryd.ntmps107
    go_wp2_with fail
    all_goals (try go_quiet (fail))
    all_goals go_wp2_with fail
    go_ret
    first
      | exact ⟨ret_int Q.out.symm, HB.out⟩
      | exact ⟨ret_int Q.out.symm, below_drewN HB.out _⟩

theorem specOtherEnd_any (b : Int) (A : Option Addr) (c : Nat) (ls : List (Int × Int × Int)) (k : Nat) (bus : Int) (w : World) (h : Sl w w.heap.size 3 A ls.length (enc3 ls)) (hv : netB b ls = true) (hk : k < ls.length) :
    Calls Tryd.prog 108 #[.agg #[.int .i64 b, .slice A ls.length c], .int .i64 k, .int .i64 bus] w fun e w' => e = .returned (.int .i64 (otherF (at3 ls k) bus)) ∧ Below w.heap.size w w' := by
  have bw := (Below.refl _ w).alloc (Nat.le_refl _) (.cells #[.int .i64 b, .slice A ls.length c] 50)
  have B0 := Blk.new w 50 #[.int .i64 b, .slice A ls.length c]
  obtain ⟨b0, off, rfl, hb, hc0, hc1, hc2⟩ := h.three k hk
  have i0 : (0 : Int) ≤ k := by omega
  have i3 : (k : Int) < ls.length := by omega
  have hl := (net_len hv).2
  have hin : inB (k : Int) 0 ((ls.length : Int) - 1) = true := inB_mk (by omega) (by omega)
  have HV := hide hv
  by_cases h1 : bus = (at3 ls k).1
  · have q1 : ((at3 ls k).1 == bus) = true := by simp [h1]
    have Q := hide (show otherF (at3 ls k) bus = (at3 ls k).2.1 by simp [otherF, h1])
    clear h1 hv
    go_enter Tryd.func108, Tryd.ntmps108
    go_wp2_with fail
    refine (specNetValid_any _ _ _ _ _ (h.to bw) (by omega)).mono ?_
    rintro e w1 ⟨rfl, hb1⟩
    rw [HV.out]
    obtain ⟨g0, g1⟩ := (B0.to hb1).two
    have K1 := hide (bw.then hb1)
    have d0 := (K1.out.cell (p := ⟨b0, off + k * 3, none⟩) hb).trans hc0
    have d1 := (K1.out.cell (p := ⟨b0, off + k * 3 + 1, none⟩) hb).trans hc1
    have d2 := (K1.out.cell (p := ⟨b0, off + k * 3 + 2, none⟩) hb).trans hc2
    clear hb1
    go_wp2_with ((go_at_call 57; refine (l1In_any _ _ _ _).mono ?_; rintro e w' ⟨rfl, rfl⟩))
    go_ret
    exact ⟨ret_int Q.out.symm, K1.out.alloc K1.out.size _⟩
  · have q1 : ((at3 ls k).1 == bus) = false := by simp; exact fun he => h1 he.symm
    by_cases h2 : bus = (at3 ls k).2.1
    · have q2 : ((at3 ls k).2.1 == bus) = true := by simp [h2]
      have Q := hide (show otherF (at3 ls k) bus = (at3 ls k).1 by unfold otherF; rw [if_neg h1, if_pos h2])
      clear h1 h2 hv
      go_enter Tryd.func108, Tryd.ntmps108
      go_wp2_with fail
      refine (specNetValid_any _ _ _ _ _ (h.to bw) (by omega)).mono ?_
      rintro e w1 ⟨rfl, hb1⟩
      rw [HV.out]
      obtain ⟨g0, g1⟩ := (B0.to hb1).two
      have K1 := hide (bw.then hb1)
      have d0 := (K1.out.cell (p := ⟨b0, off + k * 3, none⟩) hb).trans hc0
      have d1 := (K1.out.cell (p := ⟨b0, off + k * 3 + 1, none⟩) hb).trans hc1
      have d2 := (K1.out.cell (p := ⟨b0, off + k * 3 + 2, none⟩) hb).trans hc2
      clear hb1
      go_wp2_with ((go_at_call 57; refine (l1In_any _ _ _ _).mono ?_; rintro e w' ⟨rfl, rfl⟩))
      go_ret
      exact ⟨ret_int Q.out.symm, K1.out.alloc K1.out.size _⟩
    · have q2 : ((at3 ls k).2.1 == bus) = false := by simp; exact fun he => h2 he.symm
      have Q := hide (show otherF (at3 ls k) bus = -1 by unfold otherF; rw [if_neg h1, if_neg h2])
      clear h1 h2 hv
      go_enter Tryd.func108, Tryd.ntmps108
      go_wp2_with fail
      refine (specNetValid_any _ _ _ _ _ (h.to bw) (by omega)).mono ?_
      rintro e w1 ⟨rfl, hb1⟩
      rw [HV.out]
      obtain ⟨g0, g1⟩ := (B0.to hb1).two
      have K1 := hide (bw.then hb1)
      have d0 := (K1.out.cell (p := ⟨b0, off + k * 3, none⟩) hb).trans hc0
      have d1 := (K1.out.cell (p := ⟨b0, off + k * 3 + 1, none⟩) hb).trans hc1
      have d2 := (K1.out.cell (p := ⟨b0, off + k * 3 + 2, none⟩) hb).trans hc2
      clear hb1
      go_wp2_with ((go_at_call 57; refine (l1In_any _ _ _ _).mono ?_; rintro e w' ⟨rfl, rfl⟩))
      go_ret
      exact ⟨ret_int Q.out.symm, K1.out.alloc K1.out.size _⟩

end Go.Proofs.YtijnahflfbjgiaaDoor
