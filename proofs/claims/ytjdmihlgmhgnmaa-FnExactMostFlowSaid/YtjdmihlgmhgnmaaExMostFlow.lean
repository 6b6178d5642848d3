/-
  The walk of the law FnExactMostFlow. (Written by a program of mine, wip/tools/gennet.py.)
-/
import Derived.Test.YtjdmihlgmhgnmaaMostS
import Derived.Test.YtjdmihlgmhgnmaaMostW
import Derived.Test.YtjdmihlgmhgnmaaNets
namespace Go.Proofs.Ytjdmihlgmhgnmaa
open Go.RowKit
set_option linter.unusedVariables false

set_option maxHeartbeats 2000000 in
theorem fnExactMostFlow_walk (a0 : Int) (A0 : Option Addr) (c0 : Nat) (x0 : List (Int × Int × Int)) (A1 : Option Addr) (c1 : Nat) (x1 : List Bool) (a2 : Int) (a3 : Int) (w : World) (p0 : I64 a0) (l0 : x0.length ≤ c0) (m0 : c0 ≤ maxLen) (s0 : Sl w w.heap.size 3 A0 x0.length (enc3 x0)) (i0 : ∀ p ∈ x0, I64 p.1 ∧ I64 p.2.1 ∧ I64 p.2.2) (l1 : x1.length ≤ c1) (m1 : c1 ≤ maxLen) (s1 : Sl w w.heap.size 1 A1 x1.length (encB x1)) (i2 : I64 a2) (i3 : I64 a3) :
    Calls Try.prog 7 #[.agg #[.int .i64 a0, .slice A0 x0.length c0], .slice A1 x1.length c1, .int .i64 a2, .int .i64 a3] w fun e w' => e = .returned (.bool true) ∧ Below w.heap.size w w' := by
  unfold maxLen at m0 m1
  have bw := (Below.refl _ w).alloc (Nat.le_refl _) (.cells #[.int .i64 a0, .slice A0 x0.length c0] 29)
  have B0 := Blk.new w 29 #[.int .i64 a0, .slice A0 x0.length c0]
  by_cases hm1 : x1.length ≤ 1048576
  · skip
    by_cases hm0 : x0.length ≤ 1048576
    · skip
      have hsz0 : szOf x0.length (1048576) = 1048576 - x0.length := by unfold szOf; rw [if_neg (by omega)]
      go_enter Try.func7, Try.ntmps7
      go_wp2_with fail
      refine (szNet_any _ _ _ _ _ _ (by omega) (by omega) (by omega)).mono ?_
      rintro e z0 ⟨rfl, hz0⟩
      have kz0 := bw.then hz0
      replace B0 := B0.to hz0
      clear hz0
      rw [hsz0]
      clear hsz0
      obtain ⟨g0, g1⟩ := B0.two
      go_wp2_with fail
      have K := kz0
      clear bw kz0
      refine (toNet_any _ _ _ _ _ (s0.to K) hm0).mono ?_
      rintro e wa0 ⟨Dwa0, dwa0, rfl, hoA0, hbwa0⟩
      replace K := K.then hbwa0
      replace B0 := B0.to hbwa0
      clear hbwa0
      clear g0 g1
      obtain ⟨g0, g1⟩ := B0.two
      go_wp2_with fail
      refine (toBoolS_any _ _ _ _ (s1.to K) hm1).mono ?_
      rintro e wa1 ⟨Dwa1, dwa1, rfl, hoA1, hbwa1⟩
      replace K := K.then hbwa1
      replace hoA0 := hoA0.keepB hbwa1
      replace B0 := B0.to hbwa1
      clear hbwa1
      clear g0 g1
      obtain ⟨g0, g1⟩ := B0.two
      go_wp2_with fail
      refine (specMostFlow_any _ _ _ _ _ _ _ _ _ _ (Sl.of_own hoA0) (Sl.of_own hoA1) hm0 hm1).mono ?_
      rintro e wb ⟨rv, hR, rfl, hbwb⟩
      clear hoA0 hoA1
      replace K := K.then hbwb
      replace B0 := B0.to hbwb
      clear hbwb
      clear g0 g1
      obtain ⟨g0, g1⟩ := B0.two
      go_wp2_with fail
      refine (toNet_any _ _ _ _ _ (s0.to K) hm0).mono ?_
      rintro e wx0 ⟨Dwx0, dwx0, rfl, hoX0, hbwx0⟩
      have kk := (Below.refl _ wx0).alloc (Nat.le_refl _) (.cells #[.int .i64 a0, .slice Dwx0 x0.length dwx0] 35)
      have BX := Blk.new wx0 35 #[.int .i64 a0, .slice Dwx0 x0.length dwx0]
      replace K := (K.then hbwx0).then kk
      replace hoX0 := hoX0.keepB kk
      replace B0 := (B0.to hbwx0).to kk
      clear hbwx0 kk
      clear g0 g1
      obtain ⟨g0, g1⟩ := B0.two
      obtain ⟨t0, t1⟩ := BX.two
      go_wp2_with fail
      refine (toBoolS_any _ _ _ _ (s1.to K) hm1).mono ?_
      rintro e wx1 ⟨Dwx1, dwx1, rfl, hoX1, hbwx1⟩
      replace K := K.then hbwx1
      replace hoX0 := hoX0.keepB hbwx1
      replace B0 := B0.to hbwx1
      replace BX := BX.to hbwx1
      clear hbwx1
      clear g0 g1
      obtain ⟨g0, g1⟩ := B0.two
      clear t0 t1
      obtain ⟨t0, t1⟩ := BX.two
      go_wp2_with fail
      refine (implMostFlow_any _ _ _ _ _ _ _ _ _ _ (Sl.of_own hoX0) (Sl.of_own hoX1) hm0 hm1).mono ?_
      rintro e wg ⟨rv', hR', rfl, hbwg⟩
      obtain rfl := MV.unique hR' hR
      clear hR'
      replace K := K.then hbwg
      replace hoX0 := hoX0.keepB hbwg
      replace hoX1 := hoX1.keepB hbwg
      replace B0 := B0.to hbwg
      replace BX := BX.to hbwg
      clear hbwg
      clear g0 g1
      obtain ⟨g0, g1⟩ := B0.two
      clear t0 t1
      obtain ⟨t0, t1⟩ := BX.two
      go_wp2_with fail
      have S5 := hide (Sl.of_own hoX0)
      have T5 := hide (s0.to K)
      have K5 := hide K
      have z1 := K.size
      have O1 := hide hoX1
      clear K hoX0 hoX1 BX B0
      go_region_held3 (fun w' => w'.cell? ⟨w.heap.size, 0, none⟩ = some (.int .i64 a0) ∧ w'.cell? ⟨w.heap.size, 1, none⟩ = some (.slice A0 x0.length c0) ∧ w'.cell? ⟨wx0.heap.size, 0, none⟩ = some (.int .i64 a0) ∧ w'.cell? ⟨wx0.heap.size, 1, none⟩ = some (.slice Dwx0 x0.length dwx0))
        (first | go_keep | (refine ⟨cellk hb6 ?_, cellk hb6 ?_, cellk hb6 ?_, cellk hb6 ?_⟩ <;> go_keep) | (refine ⟨cellk hb7 ?_, cellk hb7 ?_, cellk hb7 ?_, cellk hb7 ?_⟩ <;> go_keep))
        (first | (go_at_call 21; refine (toNet_any _ _ _ _ _ ?_ hm0).mono ?_; exact T5.out; rintro e w6 ⟨D6, d6, rfl, ho6, hb6⟩) | (go_at_call 24; refine (eqNet_any _ _ _ _ _ _ _ ?_ ?_ hm0).mono ?_; exact Sl.to (show Sl wg.drew wg.drew.heap.size 3 Dwx0 x0.length (enc3 x0) from S5.out) hb6; exact Sl.of_own ho6; rintro e w7 ⟨rfl, hb7⟩))
      have K := (K5.out.drew.trans (hb6.mono (by simpa using z1))).trans (hb7.mono (by have := hb6.size; simp at this; omega))
      have hoX1 := ((show wg.drew.ownsRow _ _ _ _ _ _ from O1.out).keepB hb6).keepB hb7
      clear hb6 hb7 ho6 S5 T5 K5 z1 O1
      go_wp2_with fail
      refine (toBoolS_any _ _ _ _ (s1.to K) hm1).mono ?_
      rintro e wc1 ⟨E1, f1, rfl, hoC, hc⟩
      replace K := K.then hc
      replace hoX1 := hoX1.keepB hc
      clear hc
      go_wp2_with fail
      refine (eqBoolS_any _ _ _ _ _ _ _ (Sl.of_own hoX1) (Sl.of_own hoC) hm1).mono ?_
      rintro e wd1 ⟨rfl, hc⟩
      rw [eqB_self]
      replace K := K.then hc
      replace hoX1 := hoX1.keepB hc
      clear hc hoC
      go_wp2_with fail
      go_ret
      exact ⟨rfl, K⟩
    · skip
      have hsz0 : szOf x0.length (1048576) = -1 := by unfold szOf; rw [if_pos (by omega)]
      go_enter Try.func7, Try.ntmps7
      go_wp2_with fail
      refine (szNet_any _ _ _ _ _ _ (by omega) (by omega) (by omega)).mono ?_
      rintro e z0 ⟨rfl, hz0⟩
      have kz0 := bw.then hz0
      replace B0 := B0.to hz0
      clear hz0
      rw [hsz0]
      clear hsz0
      go_wp2_with fail
      go_ret
      exact ⟨rfl, kz0⟩
  · skip
    go_enter Try.func7, Try.ntmps7
    go_wp2_with fail
    go_ret
    exact ⟨rfl, bw⟩

end Go.Proofs.Ytjdmihlgmhgnmaa
