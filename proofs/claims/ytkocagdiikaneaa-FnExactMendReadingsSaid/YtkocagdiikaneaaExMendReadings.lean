/-
  The walk of the law FnExactMendReadings. (Written by a program of mine, wip/tools/gennet.py.)
-/
import Derived.Test.YtkocagdiikaneaaResX
import Derived.Test.YtkocagdiikaneaaBusS
import Derived.Test.YtkocagdiikaneaaAppend
namespace Go.Proofs.Ytkocagdiikaneaa
open Go.RowKit
set_option linter.unusedVariables false

set_option maxRecDepth 8000 in
set_option maxHeartbeats 2000000 in
theorem fnExactMendReadings_walk (a0 : Int) (A0 : Option Addr) (c0 : Nat) (x0 : List (Int × Int × Int)) (A1 : Option Addr) (c1 : Nat) (x1 : List Bool) (A2 : Option Addr) (c2 : Nat) (x2 : List (Int × Int)) (A3 : Option Addr) (c3 : Nat) (x3 : List Int) (w : World) (p0 : I64 a0) (l0 : x0.length ≤ c0) (m0 : c0 ≤ maxLen) (s0 : Sl w w.heap.size 3 A0 x0.length (enc3 x0)) (i0 : ∀ p ∈ x0, I64 p.1 ∧ I64 p.2.1 ∧ I64 p.2.2) (l1 : x1.length ≤ c1) (m1 : c1 ≤ maxLen) (s1 : Sl w w.heap.size 1 A1 x1.length (encB x1)) (l2 : x2.length ≤ c2) (m2 : c2 ≤ maxLen) (s2 : Sl w w.heap.size 2 A2 x2.length (enc2 x2)) (i2 : ∀ p ∈ x2, I64 p.1 ∧ I64 p.2) (l3 : x3.length ≤ c3) (m3 : c3 ≤ maxLen) (s3 : Sl w w.heap.size 1 A3 x3.length (encI x3)) (i3 : ∀ n ∈ x3, I64 n) :
    Calls Try.prog 5 #[.agg #[.int .i64 a0, .slice A0 x0.length c0], .slice A1 x1.length c1, .slice A2 x2.length c2, .slice A3 x3.length c3] w fun e w' => e = .returned (.bool true) ∧ Below w.heap.size w w' := by
  unfold maxLen at m0 m1 m2 m3
  have bw := (Below.refl _ w).alloc (Nat.le_refl _) (.cells #[.int .i64 a0, .slice A0 x0.length c0] 24)
  have B0 := Blk.new w 24 #[.int .i64 a0, .slice A0 x0.length c0]
  by_cases hm1 : x1.length ≤ 1048576
  · skip
    by_cases hm3 : x3.length ≤ 1048576
    · skip
      by_cases hm0 : x0.length ≤ 1048576
      · skip
        by_cases hm2 : (x2.length : Int) ≤ 1048576 - (x0.length : Int)
        · skip
          have hn2 : x2.length ≤ 1048576 := by omega
          have hsz0 : szOf x0.length (1048576) = 1048576 - x0.length := by unfold szOf; rw [if_neg (by omega)]
          have hsz2 : szOf x2.length (1048576 - (x0.length : Int)) = 1048576 - (x0.length : Int) - x2.length := by unfold szOf; rw [if_neg (by omega)]
          go_enter Try.func5, Try.ntmps5
          go_wp2_with fail
          refine (szNet_any _ _ _ _ _ _ (by omega) (by omega) (by omega)).mono ?_
          rintro e z0 ⟨rfl, hz0⟩
          have kz0 := bw.then hz0
          replace B0 := B0.to hz0
          clear hz0
          rw [hsz0]
          clear hsz0
          go_wp2_with fail
          refine (szBusS_any _ _ _ _ _ (by omega) (by omega) (by omega)).mono ?_
          rintro e z1 ⟨rfl, rfl⟩
          rw [hsz2]
          clear hsz2
          obtain ⟨g0, g1⟩ := B0.two
          go_wp2_with fail
          have K := kz0
          clear bw kz0
          refine (toNet_any _ _ _ _ _ (s0.to K) hm0).mono ?_
          rintro e wa0 ⟨Dwa0, dwa0, rfl, hoA0, hbwa0⟩
          replace K := K.then hbwa0
          replace B0 := B0.to hbwa0
          clear hbwa0
          clear g0 g1
          obtain ⟨g0, g1⟩ := B0.two
          go_wp2_with fail
          refine (toBoolS_any _ _ _ _ (s1.to K) hm1).mono ?_
          rintro e wa1 ⟨Dwa1, dwa1, rfl, hoA1, hbwa1⟩
          replace K := K.then hbwa1
          replace hoA0 := hoA0.keepB hbwa1
          replace B0 := B0.to hbwa1
          clear hbwa1
          clear g0 g1
          obtain ⟨g0, g1⟩ := B0.two
          go_wp2_with fail
          refine (toBusS_any _ _ _ _ (s2.to K) hn2).mono ?_
          rintro e wa2 ⟨Dwa2, dwa2, rfl, hoA2, hbwa2⟩
          replace K := K.then hbwa2
          replace hoA0 := hoA0.keepB hbwa2
          replace hoA1 := hoA1.keepB hbwa2
          replace B0 := B0.to hbwa2
          clear hbwa2
          clear g0 g1
          obtain ⟨g0, g1⟩ := B0.two
          go_wp2_with fail
          refine (toIntS_any _ _ _ _ (s3.to K) hm3).mono ?_
          rintro e wa3 ⟨Dwa3, dwa3, rfl, hoA3, hbwa3⟩
          replace K := K.then hbwa3
          replace hoA0 := hoA0.keepB hbwa3
          replace hoA1 := hoA1.keepB hbwa3
          replace hoA2 := hoA2.keepB hbwa3
          replace B0 := B0.to hbwa3
          clear hbwa3
          clear g0 g1
          obtain ⟨g0, g1⟩ := B0.two
          go_wp2_with fail
          refine (specMendReadings_ex _ _ _ _ _ _ _ _ _ _ _ _ _ _ (Sl.of_own hoA0) (Sl.of_own hoA1) (Sl.of_own hoA2) (Sl.of_own hoA3) hm0 hm1 hn2 hm3).mono ?_
          rintro e wb ⟨r, tv, Eb, eb, hR, rfl, hoW, hbwb⟩
          have hrl := MendR.len hR
          have hbn : (tv != tv) = false := by simp
          clear hoA0 hoA1 hoA2 hoA3
          replace K := K.then hbwb
          replace B0 := B0.to hbwb
          clear hbwb
          clear g0 g1
          obtain ⟨g0, g1⟩ := B0.two
          go_wp2_with fail
          refine (toNet_any _ _ _ _ _ (s0.to K) hm0).mono ?_
          rintro e wx0 ⟨Dwx0, dwx0, rfl, hoX0, hbwx0⟩
          have bX0 := B0.lt
          have nW0 := own_ne hoW hoX0 (Nat.le_refl _)
          have kk := (Below.refl _ wx0).alloc (Nat.le_refl _) (.cells #[.int .i64 a0, .slice Dwx0 x0.length dwx0] 33)
          have BX := Blk.new wx0 33 #[.int .i64 a0, .slice Dwx0 x0.length dwx0]
          replace K := (K.then hbwx0).then kk
          replace hoW := (hoW.keepB hbwx0).keepB kk
          replace hoX0 := hoX0.keepB kk
          replace B0 := (B0.to hbwx0).to kk
          clear hbwx0 kk
          clear g0 g1
          obtain ⟨g0, g1⟩ := B0.two
          obtain ⟨t0, t1⟩ := BX.two
          go_wp2_with fail
          refine (toBoolS_any _ _ _ _ (s1.to K) hm1).mono ?_
          rintro e wx1 ⟨Dwx1, dwx1, rfl, hoX1, hbwx1⟩
          have bX1 := B0.lt
          have nW1 := own_ne hoW hoX1 (Nat.le_refl _)
          have n10 := own_ne' hoX0 hoX1 (Nat.le_refl _)
          replace K := K.then hbwx1
          replace hoW := hoW.keepB hbwx1
          replace hoX0 := hoX0.keepB hbwx1
          replace B0 := B0.to hbwx1
          replace BX := BX.to hbwx1
          clear hbwx1
          clear g0 g1
          obtain ⟨g0, g1⟩ := B0.two
          clear t0 t1
          obtain ⟨t0, t1⟩ := BX.two
          go_wp2_with fail
          refine (toBusS_any _ _ _ _ (s2.to K) hn2).mono ?_
          rintro e wx2 ⟨Dwx2, dwx2, rfl, hoX2, hbwx2⟩
          have bX2 := B0.lt
          have nW2 := own_ne hoW hoX2 (Nat.le_refl _)
          have n20 := own_ne' hoX0 hoX2 (Nat.le_refl _)
          have n21 := own_ne' hoX1 hoX2 (Nat.le_refl _)
          replace K := K.then hbwx2
          replace hoW := hoW.keepB hbwx2
          replace hoX0 := hoX0.keepB hbwx2
          replace hoX1 := hoX1.keepB hbwx2
          replace B0 := B0.to hbwx2
          replace BX := BX.to hbwx2
          clear hbwx2
          clear g0 g1
          obtain ⟨g0, g1⟩ := B0.two
          clear t0 t1
          obtain ⟨t0, t1⟩ := BX.two
          go_wp2_with fail
          refine (toIntS_any _ _ _ _ (s3.to K) hm3).mono ?_
          rintro e wx3 ⟨Dwx3, dwx3, rfl, hoX3, hbwx3⟩
          have bX3 := B0.lt
          have nW3 := own_ne hoW hoX3 (Nat.le_refl _)
          have n30 := own_ne' hoX0 hoX3 (Nat.le_refl _)
          have n31 := own_ne' hoX1 hoX3 (Nat.le_refl _)
          have n32 := own_ne' hoX2 hoX3 (Nat.le_refl _)
          replace K := K.then hbwx3
          replace hoW := hoW.keepB hbwx3
          replace hoX0 := hoX0.keepB hbwx3
          replace hoX1 := hoX1.keepB hbwx3
          replace hoX2 := hoX2.keepB hbwx3
          replace B0 := B0.to hbwx3
          replace BX := BX.to hbwx3
          clear hbwx3
          clear g0 g1
          obtain ⟨g0, g1⟩ := B0.two
          clear t0 t1
          obtain ⟨t0, t1⟩ := BX.two
          go_wp2_with fail
          refine (implMendReadings_ex _ _ _ _ _ _ _ _ _ _ _ _ _ _ (Sl.of_own hoX0) (Sl.of_own hoX1) (Sl.of_own hoX2) (Sl.of_own hoX3) hm0 hm1 hn2 hm3).mono ?_
          rintro e wg ⟨r', tv', Eg, eg, hR', rfl, hoG, hbwg⟩
          obtain ⟨rfl, rfl⟩ := MendR.unique hR' hR
          clear hR'
          have bG := B0.lt
          have nWG := own_ne hoW hoG (Nat.le_refl _)
          have nG0 := own_ne' hoX0 hoG (Nat.le_refl _)
          have nG1 := own_ne' hoX1 hoG (Nat.le_refl _)
          have nG2 := own_ne' hoX2 hoG (Nat.le_refl _)
          have nG3 := own_ne' hoX3 hoG (Nat.le_refl _)
          replace K := K.then hbwg
          replace hoW := hoW.keepB hbwg
          replace hoX0 := hoX0.keepB hbwg
          replace hoX1 := hoX1.keepB hbwg
          replace hoX2 := hoX2.keepB hbwg
          replace hoX3 := hoX3.keepB hbwg
          replace B0 := B0.to hbwg
          replace BX := BX.to hbwg
          clear hbwg
          clear g0 g1
          obtain ⟨g0, g1⟩ := B0.two
          clear t0 t1
          obtain ⟨t0, t1⟩ := BX.two
          go_wp2_with fail
          refine (eqIntS_any _ _ _ _ _ _ _ (Sl.of_own hoG) (Sl.of_own hoW) (by omega)).mono ?_
          rintro e wh ⟨rfl, hc⟩
          rw [eqI_self]
          replace K := K.then hc
          replace hoW := hoW.keepB hc
          replace hoX0 := hoX0.keepB hc
          replace hoX1 := hoX1.keepB hc
          replace hoX2 := hoX2.keepB hc
          replace hoX3 := hoX3.keepB hc
          replace hoG := hoG.keepB hc
          replace B0 := B0.to hc
          replace BX := BX.to hc
          clear hc
          clear g0 g1
          obtain ⟨g0, g1⟩ := B0.two
          clear t0 t1
          obtain ⟨t0, t1⟩ := BX.two
          go_wp2_with fail
          have S5 := hide (Sl.of_own hoX0)
          have T5 := hide (s0.to K)
          have K5 := hide K
          have z1 := K.size
          have O1 := hide hoX1
          have O2 := hide hoX2
          have O3 := hide hoX3
          have O0 := hide hoX0
          have OW := hide hoW
          have OG := hide hoG
          have BBX := hide BX
          have BB0 := hide B0
          clear K hoX0 hoX1 hoX2 hoX3 BX B0 hoW hoG
          go_region_held3 (fun w' => w'.cell? ⟨w.heap.size, 0, none⟩ = some (.int .i64 a0) ∧ w'.cell? ⟨w.heap.size, 1, none⟩ = some (.slice A0 x0.length c0) ∧ w'.cell? ⟨wx0.heap.size, 0, none⟩ = some (.int .i64 a0) ∧ w'.cell? ⟨wx0.heap.size, 1, none⟩ = some (.slice Dwx0 x0.length dwx0))
            (first | go_keep | (refine ⟨cellk hb6 ?_, cellk hb6 ?_, cellk hb6 ?_, cellk hb6 ?_⟩ <;> go_keep) | (refine ⟨cellk hb7 ?_, cellk hb7 ?_, cellk hb7 ?_, cellk hb7 ?_⟩ <;> go_keep))
            (first | (go_at_call 9; refine (toNet_any _ _ _ _ _ ?_ hm0).mono ?_; exact T5.out; rintro e w6 ⟨D6, d6, rfl, ho6, hb6⟩) | (go_at_call 15; refine (eqNet_any _ _ _ _ _ _ _ ?_ ?_ hm0).mono ?_; exact Sl.to (show Sl wh.drew wh.drew.heap.size 3 Dwx0 x0.length (enc3 x0) from S5.out) hb6; exact Sl.of_own ho6; rintro e w7 ⟨rfl, hb7⟩))
          have K := (K5.out.drew.trans (hb6.mono (by simpa using z1))).trans (hb7.mono (by have := hb6.size; simp at this; omega))
          have hoX1 := ((show wh.drew.ownsRow _ _ _ _ _ _ from O1.out).keepB hb6).keepB hb7
          have hoX2 := ((show wh.drew.ownsRow _ _ _ _ _ _ from O2.out).keepB hb6).keepB hb7
          have hoX3 := ((show wh.drew.ownsRow _ _ _ _ _ _ from O3.out).keepB hb6).keepB hb7
          have hoX0 := ((show wh.drew.ownsRow _ _ _ _ _ _ from O0.out).keepB hb6).keepB hb7
          have hoW := ((show wh.drew.ownsRow _ _ _ _ _ _ from OW.out).keepB hb6).keepB hb7
          have hoG := ((show wh.drew.ownsRow _ _ _ _ _ _ from OG.out).keepB hb6).keepB hb7
          have BX := ((show Blk wh.drew _ _ _ from BBX.out).to hb6).to hb7
          have B0 := ((show Blk wh.drew _ _ _ from BB0.out).to hb6).to hb7
          clear O0 OW OG BBX BB0 g0 g1 t0 t1
          clear hb6 hb7 ho6 S5 T5 K5 z1 O1 O2 O3
          go_wp2_with fail
          refine (toBoolS_any _ _ _ _ (s1.to K) hm1).mono ?_
          rintro e wc1 ⟨E1, f1, rfl, hoC, hc⟩
          replace K := K.then hc
          replace hoX1 := hoX1.keepB hc
          replace hoX2 := hoX2.keepB hc
          replace hoX3 := hoX3.keepB hc
          replace hoX0 := hoX0.keepB hc
          replace hoW := hoW.keepB hc
          replace hoG := hoG.keepB hc
          replace BX := BX.to hc
          replace B0 := B0.to hc
          clear hc
          go_wp2_with fail
          refine (eqBoolS_any _ _ _ _ _ _ _ (Sl.of_own hoX1) (Sl.of_own hoC) hm1).mono ?_
          rintro e wd1 ⟨rfl, hc⟩
          rw [eqB_self]
          replace K := K.then hc
          replace hoX1 := hoX1.keepB hc
          replace hoX2 := hoX2.keepB hc
          replace hoX3 := hoX3.keepB hc
          replace hoX0 := hoX0.keepB hc
          replace hoW := hoW.keepB hc
          replace hoG := hoG.keepB hc
          replace BX := BX.to hc
          replace B0 := B0.to hc
          clear hc hoC
          go_wp2_with fail
          refine (toBusS_any _ _ _ _ (s2.to K) hn2).mono ?_
          rintro e wc2 ⟨E2, f2, rfl, hoC, hc⟩
          replace K := K.then hc
          replace hoX1 := hoX1.keepB hc
          replace hoX2 := hoX2.keepB hc
          replace hoX3 := hoX3.keepB hc
          replace hoX0 := hoX0.keepB hc
          replace hoW := hoW.keepB hc
          replace hoG := hoG.keepB hc
          replace BX := BX.to hc
          replace B0 := B0.to hc
          clear hc
          go_wp2_with fail
          refine (eqBusS_any _ _ _ _ _ _ _ (Sl.of_own hoX2) (Sl.of_own hoC) hn2).mono ?_
          rintro e wd2 ⟨rfl, hc⟩
          rw [eq2_self]
          replace K := K.then hc
          replace hoX1 := hoX1.keepB hc
          replace hoX2 := hoX2.keepB hc
          replace hoX3 := hoX3.keepB hc
          replace hoX0 := hoX0.keepB hc
          replace hoW := hoW.keepB hc
          replace hoG := hoG.keepB hc
          replace BX := BX.to hc
          replace B0 := B0.to hc
          clear hc hoC
          go_wp2_with fail
          refine (toIntS_any _ _ _ _ (s3.to K) hm3).mono ?_
          rintro e wc3 ⟨E3, f3, rfl, hoC, hc⟩
          replace K := K.then hc
          replace hoX1 := hoX1.keepB hc
          replace hoX2 := hoX2.keepB hc
          replace hoX3 := hoX3.keepB hc
          replace hoX0 := hoX0.keepB hc
          replace hoW := hoW.keepB hc
          replace hoG := hoG.keepB hc
          replace BX := BX.to hc
          replace B0 := B0.to hc
          clear hc
          go_wp2_with fail
          refine (eqIntS_any _ _ _ _ _ _ _ (Sl.of_own hoX3) (Sl.of_own hoC) hm3).mono ?_
          rintro e wd3 ⟨rfl, hc⟩
          rw [eqI_self]
          replace K := K.then hc
          replace hoX1 := hoX1.keepB hc
          replace hoX2 := hoX2.keepB hc
          replace hoX3 := hoX3.keepB hc
          replace hoX0 := hoX0.keepB hc
          replace hoW := hoW.keepB hc
          replace hoG := hoG.keepB hc
          replace BX := BX.to hc
          replace B0 := B0.to hc
          clear hc hoC
          obtain ⟨t0, t1⟩ := BX.two
          go_wp2_with fail
          refine (markNet_any _ _ _ _ _ _ _ hm0 hoX0).mono ?_
          rintro e wm0 ⟨rfl, hg⟩
          replace K := K.grown hg K.size (fun k hk => by have := (hoX0.lt k hk).1; omega)
          replace B0 := B0.grown hg (fun he => by have := (hoX0.lt _ he.symm).1; omega)
          replace hoW := hoW.kept hg nW0
          replace hoG := hoG.kept hg nG0
          replace hoX1 := hoX1.kept hg n10
          replace hoX2 := hoX2.kept hg n20
          replace hoX3 := hoX3.kept hg n30
          clear hg nW0 nG0 hoX0
          clear t0 t1 BX
          go_wp2_with fail
          rw [show (1 + 3 * (x0.length : Int) : Int) = ((1 + 3 * x0.length : Nat) : Int) by omega]
          refine (markBoolS_any _ _ _ _ _ (1 + 3 * x0.length) _ hm1 (by omega) hoX1).mono ?_
          rintro e wm1 ⟨rfl, hg, hz⟩
          replace K := K.grown hg K.size (fun k hk => by have := (hoX1.lt k hk).1; omega)
          replace B0 := B0.grown hg (fun he => by have := (hoX1.lt _ he.symm).1; omega)
          replace hoW := hoW.kept hg nW1
          replace hoG := hoG.kept hg nG1
          replace hoX2 := hoX2.kept hg n21
          replace hoX3 := hoX3.kept hg n31
          clear hg nW1 nG1 hoX1
          go_wp2_with fail
          rw [show (1 + 3 * (x0.length : Int) + (x1.length : Int) : Int) = ((1 + 3 * x0.length + x1.length : Nat) : Int) by omega]
          refine (markBusAtS_any _ _ _ _ _ (1 + 3 * x0.length + x1.length) _ hn2 (by omega) hoX2).mono ?_
          rintro e wm2 ⟨rfl, hg, hz⟩
          replace K := K.grown hg K.size (fun k hk => by have := (hoX2.lt k hk).1; omega)
          replace B0 := B0.grown hg (fun he => by have := (hoX2.lt _ he.symm).1; omega)
          replace hoW := hoW.kept hg nW2
          replace hoG := hoG.kept hg nG2
          replace hoX3 := hoX3.kept hg n32
          clear hg nW2 nG2 hoX2
          go_wp2_with fail
          rw [show (1 + 3 * (x0.length : Int) + (x1.length : Int) + 2 * (x2.length : Int) : Int) = ((1 + 3 * x0.length + x1.length + 2 * x2.length : Nat) : Int) by omega]
          refine (markIntAtS_any _ _ _ _ _ (1 + 3 * x0.length + x1.length + 2 * x2.length) _ hm3 (by omega) hoX3).mono ?_
          rintro e wm3 ⟨rfl, hg, hz⟩
          replace K := K.grown hg K.size (fun k hk => by have := (hoX3.lt k hk).1; omega)
          replace B0 := B0.grown hg (fun he => by have := (hoX3.lt _ he.symm).1; omega)
          replace hoW := hoW.kept hg nW3
          replace hoG := hoG.kept hg nG3
          clear hg nW3 nG3 hoX3
          have hk0 : decide ((1 + 3 * (x0.length : Int) + (x1.length : Int) + 2 * (x2.length : Int) + (x3.length : Int) : Int) < 0) = false := by simp; omega
          go_wp2_with fail
          refine (eqIntS_any _ _ _ _ _ _ _ (Sl.of_own hoG) (Sl.of_own hoW) (by omega)).mono ?_
          rintro e wn ⟨rfl, hc⟩
          rw [eqI_self]
          replace K := K.then hc
          replace B0 := B0.to hc
          replace hoW := hoW.keepB hc
          replace hoG := hoG.keepB hc
          clear hc
          go_wp2_with fail
          refine (markIntS_any _ _ _ _ _ _ (by omega) hoG).mono ?_
          rintro e wo ⟨rfl, hoM, hg, hz2⟩
          replace K := K.grown hg K.size (fun k hk => by have := (hoG.lt k hk).1; omega)
          replace B0 := B0.grown hg (fun he => by have := (hoG.lt _ he.symm).1; omega)
          replace hoW := hoW.kept hg nWG
          clear hg hz2 nWG hoG
          go_wp2_with fail
          refine (heldIntS_any _ _ _ _ (by omega) (Sl.of_own hoM)).mono ?_
          rintro e wp ⟨rfl, hc⟩
          replace K := K.then hc
          replace B0 := B0.to hc
          replace hoW := hoW.keepB hc
          replace hoM := hoM.keepB hc
          clear hc
          obtain ⟨g0, g1⟩ := B0.two
          go_wp2_with fail
          refine (toNet_any _ _ _ _ _ (s0.to K) hm0).mono ?_
          rintro e wq0 ⟨Dq0, dq0, rfl, hoQ0, hc⟩
          replace K := K.then hc
          replace B0 := B0.to hc
          replace hoW := hoW.keepB hc
          replace hoM := hoM.keepB hc
          clear hc
          clear g0 g1
          obtain ⟨g0, g1⟩ := B0.two
          go_wp2_with fail
          refine (toBoolS_any _ _ _ _ (s1.to K) hm1).mono ?_
          rintro e wq1 ⟨Dq1, dq1, rfl, hoQ1, hc⟩
          replace K := K.then hc
          replace B0 := B0.to hc
          replace hoW := hoW.keepB hc
          replace hoM := hoM.keepB hc
          replace hoQ0 := hoQ0.keepB hc
          clear hc
          clear g0 g1
          obtain ⟨g0, g1⟩ := B0.two
          go_wp2_with fail
          refine (toBusS_any _ _ _ _ (s2.to K) hn2).mono ?_
          rintro e wq2 ⟨Dq2, dq2, rfl, hoQ2, hc⟩
          replace K := K.then hc
          replace B0 := B0.to hc
          replace hoW := hoW.keepB hc
          replace hoM := hoM.keepB hc
          replace hoQ0 := hoQ0.keepB hc
          replace hoQ1 := hoQ1.keepB hc
          clear hc
          clear g0 g1
          obtain ⟨g0, g1⟩ := B0.two
          go_wp2_with fail
          refine (toIntS_any _ _ _ _ (s3.to K) hm3).mono ?_
          rintro e wq3 ⟨Dq3, dq3, rfl, hoQ3, hc⟩
          replace K := K.then hc
          replace B0 := B0.to hc
          replace hoW := hoW.keepB hc
          replace hoM := hoM.keepB hc
          replace hoQ0 := hoQ0.keepB hc
          replace hoQ1 := hoQ1.keepB hc
          replace hoQ2 := hoQ2.keepB hc
          clear hc
          clear g0 g1
          obtain ⟨g0, g1⟩ := B0.two
          go_wp2_with fail
          refine (implMendReadings_ex _ _ _ _ _ _ _ _ _ _ _ _ _ _ (Sl.of_own hoQ0) (Sl.of_own hoQ1) (Sl.of_own hoQ2) (Sl.of_own hoQ3) hm0 hm1 hn2 hm3).mono ?_
          rintro e wr ⟨r', tv', Er, er, hR', rfl, hoH, hc⟩
          obtain ⟨rfl, rfl⟩ := MendR.unique hR' hR
          clear hR' hoQ0 hoQ1 hoQ2 hoQ3 g0 g1
          replace K := K.then hc
          replace B0 := B0.to hc
          replace hoW := hoW.keepB hc
          replace hoM := hoM.keepB hc
          clear hc
          go_wp2_with fail
          refine (eqIntS_any _ _ _ _ _ _ _ (Sl.of_own hoH) (Sl.of_own hoW) (by omega)).mono ?_
          rintro e ws ⟨rfl, hc⟩
          rw [eqI_self]
          replace K := K.then hc
          replace B0 := B0.to hc
          replace hoM := hoM.keepB hc
          clear hc
          go_wp2_with fail
          refine (heldIntS_any _ _ _ _ (by omega) (Sl.of_own hoM)).mono ?_
          rintro e wt ⟨rfl, hc⟩
          replace K := K.then hc
          replace B0 := B0.to hc
          clear hc
          go_wp2_with fail
          go_ret
          exact ⟨rfl, K⟩
        · skip
          have hsz0 : szOf x0.length (1048576) = 1048576 - x0.length := by unfold szOf; rw [if_neg (by omega)]
          have hsz2 : szOf x2.length (1048576 - (x0.length : Int)) = -1 := by unfold szOf; rw [if_pos (by omega)]
          go_enter Try.func5, Try.ntmps5
          go_wp2_with fail
          refine (szNet_any _ _ _ _ _ _ (by omega) (by omega) (by omega)).mono ?_
          rintro e z0 ⟨rfl, hz0⟩
          have kz0 := bw.then hz0
          replace B0 := B0.to hz0
          clear hz0
          rw [hsz0]
          clear hsz0
          go_wp2_with fail
          refine (szBusS_any _ _ _ _ _ (by omega) (by omega) (by omega)).mono ?_
          rintro e z1 ⟨rfl, rfl⟩
          rw [hsz2]
          clear hsz2
          go_wp2_with fail
          go_ret
          exact ⟨rfl, kz0⟩
      · skip
        have hsz0 : szOf x0.length (1048576) = -1 := by unfold szOf; rw [if_pos (by omega)]
        go_enter Try.func5, Try.ntmps5
        go_wp2_with fail
        refine (szNet_any _ _ _ _ _ _ (by omega) (by omega) (by omega)).mono ?_
        rintro e z0 ⟨rfl, hz0⟩
        have kz0 := bw.then hz0
        replace B0 := B0.to hz0
        clear hz0
        rw [hsz0]
        clear hsz0
        go_wp2_with fail
        go_ret
        exact ⟨rfl, kz0⟩
    · skip
      go_enter Try.func5, Try.ntmps5
      go_wp2_with fail
      go_ret
      exact ⟨rfl, bw⟩
  · skip
    go_enter Try.func5, Try.ntmps5
    go_wp2_with fail
    go_ret
    exact ⟨rfl, bw⟩

end Go.Proofs.Ytkocagdiikaneaa
