/-
  The walk of the law FnExactWeakCut. (Written by a program of mine, wip/tools/gennet.py.)
-/
import Derived.Test.YtjdmihlgmhgnmaaWeakS
import Derived.Test.YtjdmihlgmhgnmaaMarkNet
import Derived.Test.YtjdmihlgmhgnmaaAppend
namespace Go.Proofs.Ytjdmihlgmhgnmaa
open Go.RowKit
set_option linter.unusedVariables false

set_option maxHeartbeats 2000000 in
theorem fnExactWeakCut_walk (a0 : Int) (A0 : Option Addr) (c0 : Nat) (x0 : List (Int × Int × Int)) (A1 : Option Addr) (c1 : Nat) (x1 : List Bool) (a2 : Int) (a3 : Int) (w : World) (p0 : I64 a0) (l0 : x0.length ≤ c0) (m0 : c0 ≤ maxLen) (s0 : Sl w w.heap.size 3 A0 x0.length (enc3 x0)) (i0 : ∀ p ∈ x0, I64 p.1 ∧ I64 p.2.1 ∧ I64 p.2.2) (l1 : x1.length ≤ c1) (m1 : c1 ≤ maxLen) (s1 : Sl w w.heap.size 1 A1 x1.length (encB x1)) (i2 : I64 a2) (i3 : I64 a3) :
    Calls Try.prog 8 #[.agg #[.int .i64 a0, .slice A0 x0.length c0], .slice A1 x1.length c1, .int .i64 a2, .int .i64 a3] w fun e w' => e = .returned (.bool true) ∧ Below w.heap.size w w' := by
  unfold maxLen at m0 m1
  have bw := (Below.refl _ w).alloc (Nat.le_refl _) (.cells #[.int .i64 a0, .slice A0 x0.length c0] 29)
  have B0 := Blk.new w 29 #[.int .i64 a0, .slice A0 x0.length c0]
  by_cases hm1 : x1.length ≤ 1048576
  · skip
    by_cases hm0 : x0.length ≤ 1048576
    · skip
      have hsz0 : szOf x0.length (1048576) = 1048576 - x0.length := by unfold szOf; rw [if_neg (by omega)]
      go_enter Try.func8, Try.ntmps8
      go_wp2_with fail
      refine (szNet_any _ _ _ _ _ _ (by omega) (by omega) (by omega)).mono ?_
      rintro e z0 ⟨rfl, hz0⟩
      have kz0 := bw.then hz0
      replace B0 := B0.to hz0
      clear hz0
      rw [hsz0]
      clear hsz0
      obtain ⟨g0, g1⟩ := B0.two
      go_wp2_with fail
      have K := kz0
      clear bw kz0
      refine (toNet_any _ _ _ _ _ (s0.to K) hm0).mono ?_
      rintro e wa0 ⟨Dwa0, dwa0, rfl, hoA0, hbwa0⟩
      replace K := K.then hbwa0
      replace B0 := B0.to hbwa0
      clear hbwa0
      clear g0 g1
      obtain ⟨g0, g1⟩ := B0.two
      go_wp2_with fail
      refine (toBoolS_any _ _ _ _ (s1.to K) hm1).mono ?_
      rintro e wa1 ⟨Dwa1, dwa1, rfl, hoA1, hbwa1⟩
      replace K := K.then hbwa1
      replace hoA0 := hoA0.keepB hbwa1
      replace B0 := B0.to hbwa1
      clear hbwa1
      clear g0 g1
      obtain ⟨g0, g1⟩ := B0.two
      go_wp2_with fail
      refine (specWeakCut_any _ _ _ _ _ _ _ _ _ _ (Sl.of_own hoA0) (Sl.of_own hoA1) hm0 hm1).mono ?_
      rintro e wb ⟨r, Eb, eb, hR, rfl, hoW, hbwb⟩
      have hrl := WC.len hR
      clear hoA0 hoA1
      replace K := K.then hbwb
      replace B0 := B0.to hbwb
      clear hbwb
      clear g0 g1
      obtain ⟨g0, g1⟩ := B0.two
      go_wp2_with fail
      refine (toNet_any _ _ _ _ _ (s0.to K) hm0).mono ?_
      rintro e wx0 ⟨Dwx0, dwx0, rfl, hoX0, hbwx0⟩
      have bX0 := B0.lt
      have nW0 := own_ne hoW hoX0 (Nat.le_refl _)
      have kk := (Below.refl _ wx0).alloc (Nat.le_refl _) (.cells #[.int .i64 a0, .slice Dwx0 x0.length dwx0] 35)
      have BX := Blk.new wx0 35 #[.int .i64 a0, .slice Dwx0 x0.length dwx0]
      replace K := (K.then hbwx0).then kk
      replace hoW := (hoW.keepB hbwx0).keepB kk
      replace hoX0 := hoX0.keepB kk
      replace B0 := (B0.to hbwx0).to kk
      clear hbwx0 kk
      clear g0 g1
      obtain ⟨g0, g1⟩ := B0.two
      obtain ⟨t0, t1⟩ := BX.two
      go_wp2_with fail
      refine (toBoolS_any _ _ _ _ (s1.to K) hm1).mono ?_
      rintro e wx1 ⟨Dwx1, dwx1, rfl, hoX1, hbwx1⟩
      have bX1 := B0.lt
      have nW1 := own_ne hoW hoX1 (Nat.le_refl _)
      have n10 := own_ne' hoX0 hoX1 (Nat.le_refl _)
      replace K := K.then hbwx1
      replace hoW := hoW.keepB hbwx1
      replace hoX0 := hoX0.keepB hbwx1
      replace B0 := B0.to hbwx1
      replace BX := BX.to hbwx1
      clear hbwx1
      clear g0 g1
      obtain ⟨g0, g1⟩ := B0.two
      clear t0 t1
      obtain ⟨t0, t1⟩ := BX.two
      go_wp2_with fail
      refine (implWeakCut_any _ _ _ _ _ _ _ _ _ _ (Sl.of_own hoX0) (Sl.of_own hoX1) hm0 hm1).mono ?_
      rintro e wg ⟨r', Eg, eg, hR', rfl, hoG, hbwg⟩
      obtain rfl := WC.unique hR' hR
      clear hR'
      have bG := B0.lt
      have nWG := own_ne hoW hoG (Nat.le_refl _)
      have nG0 := own_ne' hoX0 hoG (Nat.le_refl _)
      have nG1 := own_ne' hoX1 hoG (Nat.le_refl _)
      replace K := K.then hbwg
      replace hoW := hoW.keepB hbwg
      replace hoX0 := hoX0.keepB hbwg
      replace hoX1 := hoX1.keepB hbwg
      replace B0 := B0.to hbwg
      replace BX := BX.to hbwg
      clear hbwg
      clear g0 g1
      obtain ⟨g0, g1⟩ := B0.two
      clear t0 t1
      obtain ⟨t0, t1⟩ := BX.two
      go_wp2_with fail
      refine (eqIntS_any _ _ _ _ _ _ _ (Sl.of_own hoG) (Sl.of_own hoW) (by omega)).mono ?_
      rintro e wh ⟨rfl, hc⟩
      rw [eqI_self]
      replace K := K.then hc
      replace hoW := hoW.keepB hc
      replace hoX0 := hoX0.keepB hc
      replace hoX1 := hoX1.keepB hc
      replace hoG := hoG.keepB hc
      replace B0 := B0.to hc
      replace BX := BX.to hc
      clear hc
      clear g0 g1
      obtain ⟨g0, g1⟩ := B0.two
      clear t0 t1
      obtain ⟨t0, t1⟩ := BX.two
      go_wp2_with fail
      have S5 := hide (Sl.of_own hoX0)
      have T5 := hide (s0.to K)
      have K5 := hide K
      have z1 := K.size
      have O1 := hide hoX1
      have O0 := hide hoX0
      have OW := hide hoW
      have OG := hide hoG
      have BBX := hide BX
      have BB0 := hide B0
      clear K hoX0 hoX1 BX B0 hoW hoG
      go_region_held3 (fun w' => w'.cell? ⟨w.heap.size, 0, none⟩ = some (.int .i64 a0) ∧ w'.cell? ⟨w.heap.size, 1, none⟩ = some (.slice A0 x0.length c0) ∧ w'.cell? ⟨wx0.heap.size, 0, none⟩ = some (.int .i64 a0) ∧ w'.cell? ⟨wx0.heap.size, 1, none⟩ = some (.slice Dwx0 x0.length dwx0))
        (first | go_keep | (refine ⟨cellk hb6 ?_, cellk hb6 ?_, cellk hb6 ?_, cellk hb6 ?_⟩ <;> go_keep) | (refine ⟨cellk hb7 ?_, cellk hb7 ?_, cellk hb7 ?_, cellk hb7 ?_⟩ <;> go_keep))
        (first | (go_at_call 21; refine (toNet_any _ _ _ _ _ ?_ hm0).mono ?_; exact T5.out; rintro e w6 ⟨D6, d6, rfl, ho6, hb6⟩) | (go_at_call 24; refine (eqNet_any _ _ _ _ _ _ _ ?_ ?_ hm0).mono ?_; exact Sl.to (show Sl wh.drew wh.drew.heap.size 3 Dwx0 x0.length (enc3 x0) from S5.out) hb6; exact Sl.of_own ho6; rintro e w7 ⟨rfl, hb7⟩))
      have K := (K5.out.drew.trans (hb6.mono (by simpa using z1))).trans (hb7.mono (by have := hb6.size; simp at this; omega))
      have hoX1 := ((show wh.drew.ownsRow _ _ _ _ _ _ from O1.out).keepB hb6).keepB hb7
      have hoX0 := ((show wh.drew.ownsRow _ _ _ _ _ _ from O0.out).keepB hb6).keepB hb7
      have hoW := ((show wh.drew.ownsRow _ _ _ _ _ _ from OW.out).keepB hb6).keepB hb7
      have hoG := ((show wh.drew.ownsRow _ _ _ _ _ _ from OG.out).keepB hb6).keepB hb7
      have BX := ((show Blk wh.drew _ _ _ from BBX.out).to hb6).to hb7
      have B0 := ((show Blk wh.drew _ _ _ from BB0.out).to hb6).to hb7
      clear O0 OW OG BBX BB0 g0 g1 t0 t1
      clear hb6 hb7 ho6 S5 T5 K5 z1 O1
      go_wp2_with fail
      refine (toBoolS_any _ _ _ _ (s1.to K) hm1).mono ?_
      rintro e wc1 ⟨E1, f1, rfl, hoC, hc⟩
      replace K := K.then hc
      replace hoX1 := hoX1.keepB hc
      replace hoX0 := hoX0.keepB hc
      replace hoW := hoW.keepB hc
      replace hoG := hoG.keepB hc
      replace BX := BX.to hc
      replace B0 := B0.to hc
      clear hc
      go_wp2_with fail
      refine (eqBoolS_any _ _ _ _ _ _ _ (Sl.of_own hoX1) (Sl.of_own hoC) hm1).mono ?_
      rintro e wd1 ⟨rfl, hc⟩
      rw [eqB_self]
      replace K := K.then hc
      replace hoX1 := hoX1.keepB hc
      replace hoX0 := hoX0.keepB hc
      replace hoW := hoW.keepB hc
      replace hoG := hoG.keepB hc
      replace BX := BX.to hc
      replace B0 := B0.to hc
      clear hc hoC
      obtain ⟨t0, t1⟩ := BX.two
      go_wp2_with fail
      refine (markNet_any _ _ _ _ _ _ _ hm0 hoX0).mono ?_
      rintro e wm0 ⟨rfl, hg⟩
      replace K := K.grown hg K.size (fun k hk => by have := (hoX0.lt k hk).1; omega)
      replace B0 := B0.grown hg (fun he => by have := (hoX0.lt _ he.symm).1; omega)
      replace hoW := hoW.kept hg nW0
      replace hoG := hoG.kept hg nG0
      replace hoX1 := hoX1.kept hg n10
      clear hg nW0 nG0 hoX0
      clear t0 t1 BX
      go_wp2_with fail
      rw [show (1 + 3 * (x0.length : Int) : Int) = ((1 + 3 * x0.length : Nat) : Int) by omega]
      refine (markBoolS_any _ _ _ _ _ (1 + 3 * x0.length) _ hm1 (by omega) hoX1).mono ?_
      rintro e wm1 ⟨rfl, hg, hz⟩
      replace K := K.grown hg K.size (fun k hk => by have := (hoX1.lt k hk).1; omega)
      replace B0 := B0.grown hg (fun he => by have := (hoX1.lt _ he.symm).1; omega)
      replace hoW := hoW.kept hg nW1
      replace hoG := hoG.kept hg nG1
      clear hg nW1 nG1 hoX1
      have hk0 : decide ((1 + 3 * (x0.length : Int) + (x1.length : Int) : Int) < 0) = false := by simp; omega
      go_wp2_with fail
      refine (eqIntS_any _ _ _ _ _ _ _ (Sl.of_own hoG) (Sl.of_own hoW) (by omega)).mono ?_
      rintro e wn ⟨rfl, hc⟩
      rw [eqI_self]
      replace K := K.then hc
      replace B0 := B0.to hc
      replace hoW := hoW.keepB hc
      replace hoG := hoG.keepB hc
      clear hc
      go_wp2_with fail
      refine (markIntS_any _ _ _ _ _ _ (by omega) hoG).mono ?_
      rintro e wo ⟨rfl, hoM, hg, hz2⟩
      replace K := K.grown hg K.size (fun k hk => by have := (hoG.lt k hk).1; omega)
      replace B0 := B0.grown hg (fun he => by have := (hoG.lt _ he.symm).1; omega)
      replace hoW := hoW.kept hg nWG
      clear hg hz2 nWG hoG
      go_wp2_with fail
      refine (heldIntS_any _ _ _ _ (by omega) (Sl.of_own hoM)).mono ?_
      rintro e wp ⟨rfl, hc⟩
      replace K := K.then hc
      replace B0 := B0.to hc
      replace hoW := hoW.keepB hc
      replace hoM := hoM.keepB hc
      clear hc
      obtain ⟨g0, g1⟩ := B0.two
      go_wp2_with fail
      refine (toNet_any _ _ _ _ _ (s0.to K) hm0).mono ?_
      rintro e wq0 ⟨Dq0, dq0, rfl, hoQ0, hc⟩
      replace K := K.then hc
      replace B0 := B0.to hc
      replace hoW := hoW.keepB hc
      replace hoM := hoM.keepB hc
      clear hc
      clear g0 g1
      obtain ⟨g0, g1⟩ := B0.two
      go_wp2_with fail
      refine (toBoolS_any _ _ _ _ (s1.to K) hm1).mono ?_
      rintro e wq1 ⟨Dq1, dq1, rfl, hoQ1, hc⟩
      replace K := K.then hc
      replace B0 := B0.to hc
      replace hoW := hoW.keepB hc
      replace hoM := hoM.keepB hc
      replace hoQ0 := hoQ0.keepB hc
      clear hc
      clear g0 g1
      obtain ⟨g0, g1⟩ := B0.two
      go_wp2_with fail
      refine (implWeakCut_any _ _ _ _ _ _ _ _ _ _ (Sl.of_own hoQ0) (Sl.of_own hoQ1) hm0 hm1).mono ?_
      rintro e wr ⟨r', Er, er, hR', rfl, hoH, hc⟩
      obtain rfl := WC.unique hR' hR
      clear hR' hoQ0 hoQ1 g0 g1
      replace K := K.then hc
      replace B0 := B0.to hc
      replace hoW := hoW.keepB hc
      replace hoM := hoM.keepB hc
      clear hc
      go_wp2_with fail
      refine (eqIntS_any _ _ _ _ _ _ _ (Sl.of_own hoH) (Sl.of_own hoW) (by omega)).mono ?_
      rintro e ws ⟨rfl, hc⟩
      rw [eqI_self]
      replace K := K.then hc
      replace B0 := B0.to hc
      replace hoM := hoM.keepB hc
      clear hc
      go_wp2_with fail
      refine (heldIntS_any _ _ _ _ (by omega) (Sl.of_own hoM)).mono ?_
      rintro e wt ⟨rfl, hc⟩
      replace K := K.then hc
      replace B0 := B0.to hc
      clear hc
      go_wp2_with fail
      go_ret
      exact ⟨rfl, K⟩
    · skip
      have hsz0 : szOf x0.length (1048576) = -1 := by unfold szOf; rw [if_pos (by omega)]
      go_enter Try.func8, Try.ntmps8
      go_wp2_with fail
      refine (szNet_any _ _ _ _ _ _ (by omega) (by omega) (by omega)).mono ?_
      rintro e z0 ⟨rfl, hz0⟩
      have kz0 := bw.then hz0
      replace B0 := B0.to hz0
      clear hz0
      rw [hsz0]
      clear hsz0
      go_wp2_with fail
      go_ret
      exact ⟨rfl, kz0⟩
  · skip
    go_enter Try.func8, Try.ntmps8
    go_wp2_with fail
    go_ret
    exact ⟨rfl, bw⟩

end Go.Proofs.Ytjdmihlgmhgnmaa
