/-
  The law FnMostFlows over drawn networks: the walk.
-/
import Derived.Test.YtijnahflfbjgiaaDoorCutLaw
import Derived.Test.YtijnahflfbjgiaaDoorMostS
import Derived.Test.YtijnahflfbjgiaaDoorNetEnds
import Derived.Test.YtijnahflfbjgiaaDoorHelp
namespace Go.Proofs.YtijnahflfbjgiaaDoor
open Go.RowKit
set_option linter.unusedVariables false

set_option maxRecDepth 8000 in
set_option maxHeartbeats 1000000 in
theorem fnMostFlows_walk (A0 : Option Addr) (c0 : Nat) (x0 : List Int) (w : World) (l0 : x0.length ≤ c0) (m0 : c0 ≤ maxLen) (s0 : Sl w w.heap.size 1 A0 x0.length (encU x0)) (i0 : ∀ n ∈ x0, 0 ≤ n ∧ n ≤ 255) :
    Calls Tryd.prog 9 #[.slice A0 x0.length c0] w fun e w' => e = .returned (.bool true) ∧ Below w.heap.size w w' := by
  have hm2 := m0
  unfold maxLen at m0
  by_cases hm : x0.length ≤ 1048576
  · have HC := hide (DrawMostFlows_any A0 c0 x0 w s0 l0 hm2 i0)
    clear i0 s0
    go_enter Tryd.func9, Tryd.ntmps9
    go_wp2_with fail
    refine HC.out.mono ?_
    rintro e w1 ⟨b, ls, D, d, os, E, f, fr, to, hb, hl, hol, rfl, h1, h2, hb1⟩
    have bw := (Below.refl _ w1).alloc (Nat.le_refl _) (.cells #[.int .i64 b, .slice D ls.length d] 50)
    have L1 := hide (h1.keepB bw)
    have O1 := hide (h2.keepB bw)
    have X1 := hide (Blk.new w1 50 #[.int .i64 b, .slice D ls.length d])
    have K1 := hide (hb1.then bw)
    have hs1 := hb1.size
    clear h1 h2 hb1 bw HC hb
    go_wp2_with fail
    refine (implMostFlows_any _ _ _ _ _ _ _ _ _ _ (Sl.of_own L1.out) (Sl.of_own O1.out) (by omega) (by omega)).mono ?_
    rintro e w2 ⟨r, F, fc, hr, rfl, ho2, hb2⟩
    have L2 := hide (L1.out.keepB hb2)
    have O2 := hide (O1.out.keepB hb2)
    have X2 := hide (X1.out.to hb2)
    have K2 := hide (K1.out.then hb2)
    clear L1 O1 X1 K1
    obtain ⟨x0', x1'⟩ := X2.out.two
    have R2 := hide ho2
    have HR := hide hr
    have hrl := hr.len
    clear ho2 hb2 hr
    go_wp2_with fail
    refine (specMostFlows_any _ _ _ _ _ _ _ _ _ _ (Sl.of_own L2.out) (Sl.of_own O2.out) (by omega) (by omega)).mono ?_
    rintro e w3 ⟨r', G, gc, hr', rfl, ho3, hb3⟩
    obtain rfl := HR.out.unique hr'
    clear hr' x0' x1'
    have L3 := hide (L2.out.keepB hb3)
    have O3 := hide (O2.out.keepB hb3)
    have X3 := hide (X2.out.to hb3)
    have K3 := hide (K2.out.then hb3)
    clear L2 O2 X2 K2
    have R3 := hide (R2.out.keepB hb3)
    have S3 := hide ho3
    clear R2 ho3 hb3
    go_wp2_with fail
    refine (sameInts_any _ _ _ _ _ _ _ (Sl.of_own R3.out) (Sl.of_own S3.out) (by omega)).mono ?_
    rintro e w4 ⟨rfl, hb4⟩
    rw [eqI_self]
    have L4 := hide (L3.out.keepB hb4)
    have O4 := hide (O3.out.keepB hb4)
    have X4 := hide (X3.out.to hb4)
    have K4 := hide (K3.out.then hb4)
    clear L3 O3 X3 K3
    have R4 := hide (R3.out.keepB hb4)
    clear R3 S3 hb4
    obtain ⟨y0', y1'⟩ := X4.out.two
    go_wp2_with fail
    refine (implFlowValue_any _ _ _ _ _ _ _ _ _ _ _ _ _ (Sl.of_own L4.out) (Sl.of_own O4.out) (Sl.of_own R4.out) (by omega) (by omega) (by omega)).mono ?_
    rintro e w5 ⟨rfl, hb5⟩
    clear y0' y1'
    have L5 := hide (L4.out.keepB hb5)
    have O5 := hide (O4.out.keepB hb5)
    have X5 := hide (X4.out.to hb5)
    have K5 := hide (K4.out.then hb5)
    clear L4 O4 X4 K4
    have R5 := hide (R4.out.keepB hb5)
    clear R4 hb5
    obtain ⟨z0', z1'⟩ := X5.out.two
    cases he : endsB b ls os.length fr to
    · rw [valB_ends he]
      obtain rfl := HR.out.empty he
      have HE := hide he
      clear he
      go_wp2_with fail
      refine (implMostFlow_any _ _ _ _ _ _ _ _ _ _ (Sl.of_own L5.out) (Sl.of_own O5.out) (by omega) (by omega)).mono ?_
      rintro e w6 ⟨x, hx, rfl, hb6⟩
      obtain rfl := hx.unique (MV.none HE.out)
      have K6 := hide (K5.out.then hb6)
      clear hx hb6
      go_wp2_with fail
      refine (alive_any _).mono ?_
      rintro e w7 ⟨rfl, hb7⟩
      have K7 := hide (K6.out.then hb7)
      clear hb7
      go_wp2_with fail
      go_ret
      exact ⟨rfl, K7.out⟩
    · obtain ⟨v, p, hF, hv, _, _, _, _⟩ := HR.out.min he
      rw [hv]
      have HE := hide he
      have HV := hide hv
      have HF := hide hF
      have hpos := hF.pos
      have hlen : r.length = os.length := by rw [hF.ok.1, (ends_true he).len]
      have HL := hide hlen
      have HLS := hide hF.ok.1
      clear he hv hF hlen
      go_wp2_with fail
      go_loopw [9] (fun i wx => ∃ k : Nat, k ≤ r.length ∧ i = .int .i64 k ∧ wx = w5) (fun i _ => r.length - (intOf i).toNat)
      case atStart => exact ⟨0, Nat.zero_le _, rfl, rfl⟩
      case round =>
        obtain ⟨k, hk, rfl, rfl⟩ := hrel
        by_cases hlt : k < r.length
        · have hko : k < os.length := by rw [← HL.out]; exact hlt
          obtain ⟨gR, cR, hvR, hgR, hgR2⟩ := R5.out.form (by omega)
          cases hvR
          obtain ⟨gO, cO, hvO, hgO, hgO2⟩ := O5.out.form (by omega)
          cases hvO
          have cr := R5.out.cellAt k (by omega)
          rw [encI_at r k hlt] at cr
          have co := O5.out.cellAt k (by omega)
          rw [encB_at os k hko] at co
          have k0 : (0 : Int) ≤ k := by omega
          have k1 : (k : Int) < r.length := by omega
          have k2 : (k : Int) < os.length := by omega
          cases ho : atB os k
          · have hz := (HF.out.ok.2 k (by rw [← HLS.out]; exact hlt)).2 ho
            rw [hz] at cr
            rw [ho] at co
            clear ho hz
            go_wp2_with fail
            go_roundw
            case rel => exact ⟨k + 1, by omega, by go_num, by first | rfl | trivial⟩
            case measure => simp [intOf]; omega
          · rw [ho] at co
            clear ho
            go_wp2_with fail
            go_roundw
            case rel => exact ⟨k + 1, by omega, by go_num, by first | rfl | trivial⟩
            case measure => simp [intOf]; omega
        · go_wp2_with fail
          refine (implMostFlow_any _ _ _ _ _ _ _ _ _ _ (Sl.of_own L5.out) (Sl.of_own O5.out) (by omega) (by omega)).mono ?_
          rintro e w6 ⟨x, hx, rfl, hb6⟩
          obtain rfl : x = v := (HR.out.same hx).trans HV.out
          clear hx z0' z1'
          have L6 := hide (L5.out.keepB hb6)
          have O6 := hide (O5.out.keepB hb6)
          have X6 := hide (X5.out.to hb6)
          have K6 := hide (K5.out.then hb6)
          clear L5 O5 X5 K5
          clear hb6
          obtain ⟨z0', z1'⟩ := X6.out.two
          go_wp2_with fail
          refine (implMostFlow_any _ _ _ _ _ _ _ _ _ _ (Sl.of_own L6.out) (Sl.of_own O6.out) (by omega) (by omega)).mono ?_
          rintro e w7 ⟨y, hy, rfl, hb7⟩
          obtain rfl : y = x := (MV.swap HE.out HR.out hy).trans HV.out
          have K7 := hide (K6.out.then hb7)
          clear hy hb7
          go_wp2_with fail
          go_ret
          exact ⟨rfl, K7.out⟩
  · go_enter Tryd.func9, Tryd.ntmps9
    go_wp2_with fail
    go_ret
    exact ⟨rfl, Below.refl _ _⟩

end Go.Proofs.YtijnahflfbjgiaaDoor
