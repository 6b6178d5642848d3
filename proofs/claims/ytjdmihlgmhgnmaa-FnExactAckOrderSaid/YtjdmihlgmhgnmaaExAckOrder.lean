/-
  The walk of the law FnExactAckOrder. (Written by a program of mine, wip/tools/genex.py.)
-/
import Derived.Test.YtjdmihlgmhgnmaaAckS
import Derived.Test.YtjdmihlgmhgnmaaAppend
namespace Go.Proofs.Ytjdmihlgmhgnmaa
open Go.RowKit
set_option linter.unusedVariables false

theorem fnExactAckOrder_walk (A0 : Option Addr) (c0 : Nat) (x0 : List (Int × Int × Int)) (w : World) (l0 : x0.length ≤ c0) (m0 : c0 ≤ maxLen) (s0 : Sl w w.heap.size 3 A0 x0.length (enc3 x0)) (i0 : ∀ p ∈ x0, I64 p.1 ∧ I64 p.2.1 ∧ I64 p.2.2) :
    Calls Try.prog 9 #[.slice A0 x0.length c0] w fun e w' => e = .returned (.bool true) ∧ Below w.heap.size w w' := by
  unfold maxLen at m0
  by_cases hm : x0.length ≤ 1048576
  · have hsz : szOf x0.length 1048576 = 1048576 - x0.length := by unfold szOf; rw [if_neg (by omega)]
    go_enter Try.func9, Try.ntmps9
    go_wp2_with fail
    refine (szAlarmS_any _ _ _ _ _ (by omega) (by omega) (by omega)).mono ?_
    rintro e w' ⟨rfl, rfl⟩
    rw [hsz]
    clear hsz
    go_wp2_with fail
    refine (toAlarmS_any _ _ _ _ s0 hm).mono ?_
    rintro e w1 ⟨D1, d1, rfl, ho1, hb1⟩
    have K := hb1
    go_wp2_with fail
    refine (specAckOrder_any _ _ _ _ (Sl.of_own ho1) hm).mono ?_
    rintro e w2 ⟨r, E2, e2, hR, rfl, hoW, hb2⟩
    have hrl := AkO_len hR
    clear ho1 hb1
    replace K := K.then hb2
    clear hb2
    go_wp2_with fail
    refine (toAlarmS_any _ _ _ _ (s0.to K) hm).mono ?_
    rintro e w3 ⟨D3, d3, rfl, hoX, hb3⟩
    have bX := K.size
    have nWX := own_ne hoW hoX (Nat.le_refl _)
    replace K := K.then hb3
    replace hoW := hoW.keepB hb3
    clear hb3
    go_wp2_with fail
    refine (implAckOrder_any _ _ _ _ (Sl.of_own hoX) hm).mono ?_
    rintro e w4 ⟨r', E4, e4, hR', rfl, hoG, hb4⟩
    obtain rfl := AkO_unique hR' hR
    clear hR'
    have bG := K.size
    have nWG := own_ne hoW hoG (Nat.le_refl _)
    have nGX := own_ne' hoX hoG (Nat.le_refl _)
    replace K := K.then hb4
    replace hoW := hoW.keepB hb4
    replace hoX := hoX.keepB hb4
    clear hb4
    go_wp2_with fail
    refine (eqIntS_any _ _ _ _ _ _ _ (Sl.of_own hoG) (Sl.of_own hoW) (by omega)).mono ?_
    rintro e w5 ⟨rfl, hb5⟩
    rw [eqI_self]
    replace K := K.then hb5
    replace hoW := hoW.keepB hb5
    replace hoX := hoX.keepB hb5
    replace hoG := hoG.keepB hb5
    clear hb5
    go_wp2_with fail
    refine (toAlarmS_any _ _ _ _ (s0.to K) hm).mono ?_
    rintro e w6 ⟨D6, d6, rfl, ho6, hb6⟩
    replace K := K.then hb6
    replace hoW := hoW.keepB hb6
    replace hoX := hoX.keepB hb6
    replace hoG := hoG.keepB hb6
    clear hb6
    go_wp2_with fail
    refine (eqAlarmS_any _ _ _ _ _ _ _ (Sl.of_own hoX) (Sl.of_own ho6) hm).mono ?_
    rintro e w7 ⟨rfl, hb7⟩
    rw [eq3_self]
    clear ho6
    replace K := K.then hb7
    replace hoW := hoW.keepB hb7
    replace hoX := hoX.keepB hb7
    replace hoG := hoG.keepB hb7
    clear hb7
    go_wp2_with fail
    refine (markAlarmS_any _ _ _ _ _ _ hm hoX).mono ?_
    rintro e w8 ⟨rfl, hg8, hz8⟩
    replace K := K.grown hg8 K.size (fun k hk => by have := (hoX.lt k hk).1; omega)
    replace hoW := hoW.kept hg8 nWX
    replace hoG := hoG.kept hg8 nGX
    clear hg8 hz8 nWX nGX hoX
    go_wp2_with fail
    refine (eqIntS_any _ _ _ _ _ _ _ (Sl.of_own hoG) (Sl.of_own hoW) (by omega)).mono ?_
    rintro e w9 ⟨rfl, hb9⟩
    rw [eqI_self]
    replace K := K.then hb9
    replace hoW := hoW.keepB hb9
    replace hoG := hoG.keepB hb9
    clear hb9
    go_wp2_with fail
    refine (markIntS_any _ _ _ _ _ _ (by omega) hoG).mono ?_
    rintro e w10 ⟨rfl, hoM, hg10, hz10⟩
    replace K := K.grown hg10 K.size (fun k hk => by have := (hoG.lt k hk).1; omega)
    replace hoW := hoW.kept hg10 nWG
    clear hg10 hz10 nWG hoG
    go_wp2_with fail
    refine (heldIntS_any _ _ _ _ (by omega) (Sl.of_own hoM)).mono ?_
    rintro e w11 ⟨rfl, hb11⟩
    replace K := K.then hb11
    replace hoW := hoW.keepB hb11
    replace hoM := hoM.keepB hb11
    clear hb11
    go_wp2_with fail
    refine (toAlarmS_any _ _ _ _ (s0.to K) hm).mono ?_
    rintro e w12 ⟨D12, d12, rfl, ho12, hb12⟩
    replace K := K.then hb12
    replace hoW := hoW.keepB hb12
    replace hoM := hoM.keepB hb12
    clear hb12
    go_wp2_with fail
    refine (implAckOrder_any _ _ _ _ (Sl.of_own ho12) hm).mono ?_
    rintro e w13 ⟨r', E13, e13, hR', rfl, hoH, hb13⟩
    obtain rfl := AkO_unique hR' hR
    clear hR' ho12
    replace K := K.then hb13
    replace hoW := hoW.keepB hb13
    replace hoM := hoM.keepB hb13
    clear hb13
    go_wp2_with fail
    refine (eqIntS_any _ _ _ _ _ _ _ (Sl.of_own hoH) (Sl.of_own hoW) (by omega)).mono ?_
    rintro e w14 ⟨rfl, hb14⟩
    rw [eqI_self]
    replace K := K.then hb14
    replace hoM := hoM.keepB hb14
    clear hb14
    go_wp2_with fail
    refine (heldIntS_any _ _ _ _ (by omega) (Sl.of_own hoM)).mono ?_
    rintro e w15 ⟨rfl, hb15⟩
    replace K := K.then hb15
    clear hb15
    go_wp2_with fail
    go_ret
    exact ⟨rfl, K⟩
  · have hsz : szOf x0.length 1048576 = -1 := by unfold szOf; rw [if_pos (by omega)]
    go_enter Try.func9, Try.ntmps9
    go_wp2_with fail
    refine (szAlarmS_any _ _ _ _ _ (by omega) (by omega) (by omega)).mono ?_
    rintro e w' ⟨rfl, rfl⟩
    rw [hsz]
    clear hsz
    go_wp2_with fail
    go_ret
    exact ⟨rfl, Below.refl _ _⟩

end Go.Proofs.Ytjdmihlgmhgnmaa
