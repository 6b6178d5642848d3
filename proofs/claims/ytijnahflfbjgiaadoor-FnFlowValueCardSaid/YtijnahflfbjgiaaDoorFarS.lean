/-
  Chapter 34: how far buses are away, by rounds over all lines; what the reference's function computes.
-/
import Derived.Test.YtijnahflfbjgiaaDoorBell
import Derived.Test.YtijnahflfbjgiaaDoorRoomS
import Derived.Test.YtijnahflfbjgiaaDoorDist
import Derived.StillTailTactics
namespace Go.Proofs.YtijnahflfbjgiaaDoor
open Go.RowKit
set_option linter.unusedVariables false

theorem nines_snoc (n : Nat) : nines n ++ [99] = nines (n + 1) := by simp [nines, List.replicate_succ']

theorem Bell.both {ls : List (Int × Int × Int)} {os : List Bool} {fl : List Int} {to : Int} {nb s k : Nat} {far : List Int} (h : Bell ls os fl to nb s k far) (a c : Nat) (ea : (at3 ls k).1 = a) (ec : (at3 ls k).2.1 = c) (hne : a ≠ c)
    (ha : 0 < roomF ls os fl k a → ∀ t : Nat, t ≤ s → Rch (Res ls os fl) to t c → at_ far a ≤ t + 1) (hc : 0 < roomF ls os fl k c → ∀ t : Nat, t ≤ s → Rch (Res ls os fl) to t a → at_ far c ≤ t + 1) : Bell ls os fl to nb s (k + 1) far := by
  refine h.line fun u v hu hv ho hr t ht hrc => ?_
  rcases otherF_cases (x := at3 ls k) (u := (u : Int)) (by omega) with ⟨e1, e2⟩ | ⟨e1, _, e2⟩
  · obtain rfl : u = a := by omega
    obtain rfl : v = c := by omega
    exact ha hr t ht hrc
  · obtain rfl : u = c := by omega
    obtain rfl : v = a := by omega
    exact hc hr t ht hrc

set_option maxRecDepth 8000 in
set_option maxHeartbeats 4000000 in
theorem l34Far_any (nb : Nat) (A D F : Option Addr) (c d f : Nat) (ls : List (Int × Int × Int)) (os : List Bool) (fl : List Int) (nt : Nat) (w : World) (h : Sl w w.heap.size 3 A ls.length (enc3 ls)) (g : Sl w w.heap.size 1 D os.length (encB os)) (s : Sl w w.heap.size 1 F fl.length (encI fl))
    (hv : netB nb ls = true) (ho : os.length = ls.length) (hf : FlOk ls os fl) (ht : nt < nb) :
    Calls Tryd.prog 85 #[.agg #[.int .i64 nb, .slice A ls.length c], .slice D os.length d, .slice F fl.length f, .int .i64 nt] w (MadeInts (Far99 ls os fl nt nb) w) := by
  have bw := (Below.refl _ w).alloc (Nat.le_refl _) (.cells #[.int .i64 nb, .slice A ls.length c] 50)
  have B0 := Blk.new w 50 #[.int .i64 nb, .slice A ls.length c]
  obtain ⟨⟨n1, n2⟩, n3⟩ := net_len hv
  have HV := hide hv
  have HL := hide ho
  have HF := hide hf
  have HH := hide h
  have HG := hide g
  have HS := hide s
  have hl2 : os.length ≤ ls.length := by omega
  have hl3 : ls.length ≤ os.length := by omega
  have O0 := hide (World.ownsRow_lit (base := w.heap.size + 1) (e := 3) (size := 1) (w.alloc (.cells #[.int .i64 nb, .slice A ls.length c] 50)) #[] 0 (by simp) (Nat.zero_le _) rfl)
  simp only [World.size_alloc] at O0
  have K0 := hide (bw.alloc (by simp) (.cells #[] 3))
  have N0 := hide (B0.alloc (.cells #[] 3))
  clear bw B0 hv ho hf h g s
  go_enter Tryd.func85, Tryd.ntmps85
  go_wp2_with fail
  go_loopw [9, 10] (fun o x wr => ∃ (k : Nat) (D2 : Option Addr) (d2 : Nat), k ≤ nb ∧ o = .slice D2 k d2 ∧ x = .int .i64 k ∧ Hid (wr.ownsRow (w.heap.size + 1) 3 1 (.slice D2 k d2) k (encI (nines k))) ∧ Hid (Blk wr w.heap.size 50 #[.int .i64 nb, .slice A ls.length c]) ∧ Hid (Below w.heap.size w wr)) (fun _ x _ => nb - (intOf x).toNat)
  case atStart => exact ⟨0, _, _, Nat.zero_le _, rfl, rfl, O0, N0, K0⟩
  case round =>
    obtain ⟨k, D2, d2, hk, rfl, rfl, HO, HB, HK⟩ := hrel
    obtain ⟨g0, g1⟩ := HB.out.two
    have hz := HB.out.lt
    by_cases hlt : k < nb
    · go_wp2_with (at_builtin; refine app_int wr rfl (.tmp 21) (.tmp 22) rfl (w.heap.size + 1) D2 k d2 (nines k) 99 rfl HO.out wr.heap.size rfl rfl (by omega) (by omega) ?_; intro D3 d3 w3 ho3 hg3)
      have O3 := hide ho3
      have K3 := hide (grown_below HO.out hg3 (by omega))
      clear ho3 hg3
      go_roundw
      case rel => exact ⟨k + 1, D3, d3, by omega, rfl, by go_num, by rw [← nines_snoc]; exact O3, hide (HB.out.below K3.out (by omega)), hide (HK.out.trans (K3.out.mono (by omega)))⟩
      case measure => simp [intOf]; omega
    · obtain rfl : k = nb := by omega
      obtain ⟨gF, cF, hvF, hgF, hgF2⟩ := HO.out.form (by omega)
      cases hvF
      have z1 := HO.out.frozenAt nt
      obtain ⟨u1, hu1⟩ := own_cell HO.out nt (by omega)
      have t0 : (0 : Int) ≤ nt := by omega
      have t1 : (nt : Int) < k := by omega
      have O4 := hide ((HO.out.stored nt (.int .i64 0)).1)
      rw [← encI_set] at O4
      have N4 := hide (HB.out.far (p := ⟨gF, nt, none⟩) (by show w.heap.size ≠ gF; omega) (.int .i64 0))
      have K4 := hide (HK.out.setCell (p := ⟨gF, nt, none⟩) (by show w.heap.size ≤ gF; omega) (.int .i64 0))
      have HST := hide (Bell.start (ls := ls) (os := os) (fl := fl) (to := (nt : Int)) (nb := k) t0 t1)
      clear HO HB HK O0 K0 N0
      go_wp2_with fail
      clear g0 g1 z1 hu1
      go_loopw [11] (fun x wr => ∃ (st : Nat) (far : List Int), st ≤ k ∧ x = .int .i64 st ∧ Hid (Bell ls os fl nt k st 0 far) ∧ Hid (wr.ownsRow (w.heap.size + 1) 3 1 (.slice (some ⟨gF, 0, none⟩) k d2) k (encI far)) ∧ Hid (Blk wr w.heap.size 50 #[.int .i64 k, .slice A ls.length c]) ∧ Hid (Below w.heap.size w wr)) (fun x _ => k - (intOf x).toNat)
      case atStart => exact ⟨0, _, Nat.zero_le _, rfl, by simpa using HST, O4, N4, K4⟩
      case round =>
        obtain ⟨st, far, hst, rfl, HBe, HO, HB, HK⟩ := hrel
        clear O4 N4 K4 HST
        obtain ⟨g0, g1⟩ := HB.out.two
        by_cases hlt2 : st < k
        · go_wp2_with fail
          clear g0 g1
          go_loopw [12] (fun x wr => ∃ (j : Nat) (far : List Int), j ≤ ls.length ∧ x = .int .i64 j ∧ Hid (Bell ls os fl nt k st j far) ∧ Hid (wr.ownsRow (w.heap.size + 1) 3 1 (.slice (some ⟨gF, 0, none⟩) k d2) k (encI far)) ∧ Hid (Blk wr w.heap.size 50 #[.int .i64 k, .slice A ls.length c]) ∧ Hid (Below w.heap.size w wr)) (fun x _ => ls.length - (intOf x).toNat)
          case atStart => exact ⟨0, far, Nat.zero_le _, rfl, HBe, HO, HB, HK⟩
          case round =>
            obtain ⟨j, far, hj, rfl, HBe, HO, HB, HK⟩ := hrel
            by_cases hjl : j < ls.length
            · obtain ⟨g0, g1⟩ := HB.out.two
              obtain ⟨b0, o0, hA, hb, hd0, hd1, hd2⟩ := HH.out.three j hjl
              have hzk := HK.out.size
              have hzb := HB.out.lt
              have hgF3 : gF < wr.heap.size := (HO.out.lt gF rfl).2
              have d0 := (HK.out.cell (p := ⟨b0, o0 + j * 3, none⟩) hb).trans hd0
              have d1 := (HK.out.cell (p := ⟨b0, o0 + j * 3 + 1, none⟩) hb).trans hd1
              have d2' := (HK.out.cell (p := ⟨b0, o0 + j * 3 + 2, none⟩) hb).trans hd2
              have hb0 : b0 < wr.heap.size := by omega
              obtain ⟨⟨m1, m2⟩, ⟨m3, m4⟩, m5, m6, m7⟩ := net_at HV.out j hjl
              obtain ⟨na, ea⟩ := Int.eq_ofNat_of_zero_le m1
              obtain ⟨nc, ec⟩ := Int.eq_ofNat_of_zero_le m3
              rw [ea] at d0
              rw [ec] at d1
              have hac : na ≠ nc := by omega
              have la : na < k := by omega
              have lc : nc < k := by omega
              have oA : otherF (at3 ls j) na = nc := by rw [← ea, otherF_A, ec]
              have oC : otherF (at3 ls j) nc = na := by rw [← ec, otherF_B m5, ea]
              have OA := hide oA
              have OC := hide oC
              have EA := hide ea
              have EC := hide ec
              have kk := (Below.refl _ wr).alloc (Nat.le_refl _) (.cells #[.int .i64 na, .int .i64 nc, .int .i64 (at3 ls j).2.2] 76)
              have XB := hide (Blk.new wr 76 #[.int .i64 na, .int .i64 nc, .int .i64 (at3 ls j).2.2])
              have O2 := hide (HO.out.keepB kk)
              have N2 := hide (HB.out.to kk)
              have K2 := hide (HK.out.then kk)
              have i0 : (0 : Int) ≤ j := by omega
              have i1 : (j : Int) < ls.length := by omega
              have i2 : (j : Int) < os.length := by omega
              subst hA
              clear oA oC ea ec m1 m2 m3 m4 m5 kk hd0 hd1 hd2
              go_wp2_with fail
              refine (l34Room_any _ _ _ _ _ _ _ _ _ _ _ _ _ (HH.out.to K2.out) (HG.out.to K2.out) (HS.out.to K2.out) HV.out HL.out HF.out hjl).mono ?_
              rintro e w3 ⟨rfl, hb3⟩
              have O3 := hide (O2.out.keepB hb3)
              have N3 := hide (N2.out.to hb3)
              have K3 := hide (K2.out.then hb3)
              have X3 := hide (XB.out.to hb3)
              clear hb3 O2 N2 K2 XB d0 d1 d2' g0 g1
              have hs3 := X3.out.lt
              have hg3 : gF < w3.heap.size := by omega
              by_cases hr1 : 0 < roomF ls os fl j na
              · obtain ⟨p0, p1, p2⟩ := X3.out.three
                have a1 := O3.out.cellAt na (by omega)
                rw [encI_at far na (by rw [HBe.out.len]; exact la)] at a1
                have a2 := O3.out.cellAt nc (by omega)
                rw [encI_at far nc (by rw [HBe.out.len]; exact lc)] at a2
                have z2 := O3.out.frozenAt na
                have la' : (na : Int) < k := by omega
                have lc' : (nc : Int) < k := by omega
                obtain ⟨s1, s2⟩ := HBe.out.bnd na la
                obtain ⟨s3, s4⟩ := HBe.out.bnd nc lc
                have HRx := hide (HBe.out.relax j hjl na nc la lc OA.out hr1 (by omega) t1)
                have hw1 : IntKind.i64.wrap (at_ far nc + 1) = at_ far nc + 1 := IntWalk.i64_in _ (by omega)
                have v0 : w3.cell? ⟨w.heap.size, 0, none⟩ = some (.int .i64 k) := N3.out.cell 0
                have v1 : w3.cell? ⟨w.heap.size, 1, none⟩ = some (.slice (some ⟨b0, o0, none⟩) ls.length c) := N3.out.cell 1
                have ne1 : gF ≠ w.heap.size := by omega
                have ne2 : gF ≠ wr.heap.size := by omega
                have ne3 : w.heap.size ≠ gF := by omega
                have ne4 : wr.heap.size ≠ gF := by omega
                by_cases hm1 : at_ far na ≤ at_ far nc + 1
                · have hmn : min (at_ far na) (at_ far nc + 1) = at_ far na := by omega
                  rw [hmn] at HRx
                  clear hmn
                  go_wp2_with fail
                  refine wp_region_still_tail 16 (by kernel_rfl) (by kernel_rfl) ?_
                  simp only [List.take_succ_cons, List.take_zero, List.drop_succ_cons, List.drop_zero]
                  change wpStill _ _ (World.drew _) (fun a' => wpList _ _ _ _ a' (World.drew _)) _ _
                  repeat still_step
                  refine wpStill_nil ?_
                  have O4 : Hid ((w3.setCell ⟨gF, na, none⟩ (.int .i64 (at_ far na))).drew.ownsRow (w.heap.size + 1) 3 1 (.slice (some ⟨gF, 0, none⟩) k d2) k (encI (far.set na (at_ far na)))) := by rw [encI_set]; exact (O3.out.stored na _).1
                  have N4 : Hid (Blk (w3.setCell ⟨gF, na, none⟩ (.int .i64 (at_ far na))).drew w.heap.size 50 #[.int .i64 k, .slice (some ⟨b0, o0, none⟩) ls.length c]) := N3.out.far (by show w.heap.size ≠ gF; omega) _
                  have K4 := hide (K3.out.setCell (p := ⟨gF, na, none⟩) (by show w.heap.size ≤ gF; omega) (.int .i64 (at_ far na))).drew
                  have X4 : Hid (Blk (w3.setCell ⟨gF, na, none⟩ (.int .i64 (at_ far na))).drew wr.heap.size 76 #[.int .i64 na, .int .i64 nc, .int .i64 (at3 ls j).2.2]) := X3.out.far (by show wr.heap.size ≠ gF; omega) _
                  have HBe4 := hide HRx.out.1
                  have HP4 : Hid (0 < roomF ls os fl j na → ∀ t : Nat, t ≤ st → Rch (Res ls os fl) nt t nc → at_ (far.set na (at_ far na)) na ≤ t + 1) := fun _ => HRx.out.2
                  clear HRx
                  have y0 : (w3.setCell ⟨gF, na, none⟩ (.int .i64 (at_ far na))).drew.cell? ⟨w.heap.size, 0, none⟩ = some (.int .i64 k) := N4.out.cell 0
                  have y1 : (w3.setCell ⟨gF, na, none⟩ (.int .i64 (at_ far na))).drew.cell? ⟨w.heap.size, 1, none⟩ = some (.slice (some ⟨b0, o0, none⟩) ls.length c) := N4.out.cell 1
                  obtain ⟨p0, p1, p2⟩ := X4.out.three
                  go_wp2_with fail
                  refine (l34Room_any _ _ _ _ _ _ _ _ _ _ _ _ _ (HH.out.to K4.out) (HG.out.to K4.out) (HS.out.to K4.out) HV.out HL.out HF.out hjl).mono ?_
                  rintro e w6 ⟨rfl, hb6⟩
                  have O6 := hide (O4.out.keepB hb6)
                  have N6 := hide (N4.out.to hb6)
                  have K6 := hide (K4.out.then hb6)
                  have X6 := hide (X4.out.to hb6)
                  clear hb6 y0 y1 p0 p1 p2
                  by_cases hr2 : 0 < roomF ls os fl j nc
                  · obtain ⟨p0, p1, p2⟩ := X6.out.three
                    have a1 := O6.out.cellAt na (by omega)
                    rw [encI_at (far.set na (at_ far na)) na (by rw [HBe4.out.len]; exact la)] at a1
                    have a2 := O6.out.cellAt nc (by omega)
                    rw [encI_at (far.set na (at_ far na)) nc (by rw [HBe4.out.len]; exact lc)] at a2
                    have z2 := O6.out.frozenAt nc
                    have la' : (na : Int) < k := by omega
                    have lc' : (nc : Int) < k := by omega
                    obtain ⟨s1, s2⟩ := HBe4.out.bnd na la
                    obtain ⟨s3, s4⟩ := HBe4.out.bnd nc lc
                    have HRx := hide (HBe4.out.relax j hjl nc na lc la OC.out hr2 (by omega) t1)
                    have hw2 : IntKind.i64.wrap (at_ (far.set na (at_ far na)) na + 1) = at_ (far.set na (at_ far na)) na + 1 := IntWalk.i64_in _ (by omega)
                    by_cases hm2 : at_ (far.set na (at_ far na)) nc ≤ at_ (far.set na (at_ far na)) na + 1
                    · have hmn : min (at_ (far.set na (at_ far na)) nc) (at_ (far.set na (at_ far na)) na + 1) = at_ (far.set na (at_ far na)) nc := by omega
                      have HMN := hide hmn
                      rw [hmn] at HRx
                      clear hmn
                      go_wp2_with fail
                      refine wp_region_still_tail 16 (by kernel_rfl) (by kernel_rfl) ?_
                      simp only [List.take_succ_cons, List.take_zero, List.drop_succ_cons, List.drop_zero]
                      change wpStill _ _ (World.drew _) (fun a' => wpList _ _ _ _ a' (World.drew _)) _ _
                      repeat still_step
                      refine wpStill_nil ?_
                      go_wp2_with fail
                      go_roundw
                      case rel =>
                        refine ⟨j + 1, ((far.set na (at_ far na))).set nc (at_ (far.set na (at_ far na)) nc), by omega, by go_num, hide ?_, hide ?_, hide ?_, hide ?_⟩
                        · exact HRx.out.1.both na nc EA.out EC.out hac (fun hr t ht hrc => by rw [at_set_ne _ _ _ _ (Ne.symm hac)]; exact HP4.out hr t ht hrc) (fun _ => HRx.out.2)
                        · rw [encI_set]; exact (O6.out.stored nc _).1
                        · exact N6.out.far (by show w.heap.size ≠ gF; omega) _
                        · exact (K6.out.setCell (by show w.heap.size ≤ gF; omega) _).drew
                      case measure => simp [intOf]; omega
                    · have hmn : min (at_ (far.set na (at_ far na)) nc) (at_ (far.set na (at_ far na)) na + 1) = at_ (far.set na (at_ far na)) na + 1 := by omega
                      have HMN := hide hmn
                      rw [hmn] at HRx
                      clear hmn
                      go_wp2_with fail
                      refine wp_region_still_tail 16 (by kernel_rfl) (by kernel_rfl) ?_
                      simp only [List.take_succ_cons, List.take_zero, List.drop_succ_cons, List.drop_zero]
                      change wpStill _ _ (World.drew _) (fun a' => wpList _ _ _ _ a' (World.drew _)) _ _
                      repeat still_step
                      refine wpStill_nil ?_
                      go_wp2_with fail
                      go_roundw
                      case rel =>
                        refine ⟨j + 1, ((far.set na (at_ far na))).set nc (at_ (far.set na (at_ far na)) na + 1), by omega, by go_num, hide ?_, hide ?_, hide ?_, hide ?_⟩
                        · exact HRx.out.1.both na nc EA.out EC.out hac (fun hr t ht hrc => by rw [at_set_ne _ _ _ _ (Ne.symm hac)]; exact HP4.out hr t ht hrc) (fun _ => HRx.out.2)
                        · rw [encI_set]; exact (O6.out.stored nc _).1
                        · exact N6.out.far (by show w.heap.size ≠ gF; omega) _
                        · exact (K6.out.setCell (by show w.heap.size ≤ gF; omega) _).drew
                      case measure => simp [intOf]; omega
                  · go_wp2_with fail
                    go_roundw
                    case rel => exact ⟨j + 1, (far.set na (at_ far na)), by omega, by go_num, hide (HBe4.out.both na nc EA.out EC.out hac HP4.out (fun h => absurd h (by omega))), O6, N6, K6⟩
                    case measure => simp [intOf]; omega
                · have hmn : min (at_ far na) (at_ far nc + 1) = at_ far nc + 1 := by omega
                  rw [hmn] at HRx
                  clear hmn
                  go_wp2_with fail
                  refine wp_region_still_tail 16 (by kernel_rfl) (by kernel_rfl) ?_
                  simp only [List.take_succ_cons, List.take_zero, List.drop_succ_cons, List.drop_zero]
                  change wpStill _ _ (World.drew _) (fun a' => wpList _ _ _ _ a' (World.drew _)) _ _
                  repeat still_step
                  refine wpStill_nil ?_
                  have O4 : Hid ((w3.setCell ⟨gF, na, none⟩ (.int .i64 (at_ far nc + 1))).drew.ownsRow (w.heap.size + 1) 3 1 (.slice (some ⟨gF, 0, none⟩) k d2) k (encI (far.set na (at_ far nc + 1)))) := by rw [encI_set]; exact (O3.out.stored na _).1
                  have N4 : Hid (Blk (w3.setCell ⟨gF, na, none⟩ (.int .i64 (at_ far nc + 1))).drew w.heap.size 50 #[.int .i64 k, .slice (some ⟨b0, o0, none⟩) ls.length c]) := N3.out.far (by show w.heap.size ≠ gF; omega) _
                  have K4 := hide (K3.out.setCell (p := ⟨gF, na, none⟩) (by show w.heap.size ≤ gF; omega) (.int .i64 (at_ far nc + 1))).drew
                  have X4 : Hid (Blk (w3.setCell ⟨gF, na, none⟩ (.int .i64 (at_ far nc + 1))).drew wr.heap.size 76 #[.int .i64 na, .int .i64 nc, .int .i64 (at3 ls j).2.2]) := X3.out.far (by show wr.heap.size ≠ gF; omega) _
                  have HBe4 := hide HRx.out.1
                  have HP4 : Hid (0 < roomF ls os fl j na → ∀ t : Nat, t ≤ st → Rch (Res ls os fl) nt t nc → at_ (far.set na (at_ far nc + 1)) na ≤ t + 1) := fun _ => HRx.out.2
                  clear HRx
                  have y0 : (w3.setCell ⟨gF, na, none⟩ (.int .i64 (at_ far nc + 1))).drew.cell? ⟨w.heap.size, 0, none⟩ = some (.int .i64 k) := N4.out.cell 0
                  have y1 : (w3.setCell ⟨gF, na, none⟩ (.int .i64 (at_ far nc + 1))).drew.cell? ⟨w.heap.size, 1, none⟩ = some (.slice (some ⟨b0, o0, none⟩) ls.length c) := N4.out.cell 1
                  obtain ⟨p0, p1, p2⟩ := X4.out.three
                  go_wp2_with fail
                  refine (l34Room_any _ _ _ _ _ _ _ _ _ _ _ _ _ (HH.out.to K4.out) (HG.out.to K4.out) (HS.out.to K4.out) HV.out HL.out HF.out hjl).mono ?_
                  rintro e w6 ⟨rfl, hb6⟩
                  have O6 := hide (O4.out.keepB hb6)
                  have N6 := hide (N4.out.to hb6)
                  have K6 := hide (K4.out.then hb6)
                  have X6 := hide (X4.out.to hb6)
                  clear hb6 y0 y1 p0 p1 p2
                  by_cases hr2 : 0 < roomF ls os fl j nc
                  · obtain ⟨p0, p1, p2⟩ := X6.out.three
                    have a1 := O6.out.cellAt na (by omega)
                    rw [encI_at (far.set na (at_ far nc + 1)) na (by rw [HBe4.out.len]; exact la)] at a1
                    have a2 := O6.out.cellAt nc (by omega)
                    rw [encI_at (far.set na (at_ far nc + 1)) nc (by rw [HBe4.out.len]; exact lc)] at a2
                    have z2 := O6.out.frozenAt nc
                    have la' : (na : Int) < k := by omega
                    have lc' : (nc : Int) < k := by omega
                    obtain ⟨s1, s2⟩ := HBe4.out.bnd na la
                    obtain ⟨s3, s4⟩ := HBe4.out.bnd nc lc
                    have HRx := hide (HBe4.out.relax j hjl nc na lc la OC.out hr2 (by omega) t1)
                    have hw2 : IntKind.i64.wrap (at_ (far.set na (at_ far nc + 1)) na + 1) = at_ (far.set na (at_ far nc + 1)) na + 1 := IntWalk.i64_in _ (by omega)
                    by_cases hm2 : at_ (far.set na (at_ far nc + 1)) nc ≤ at_ (far.set na (at_ far nc + 1)) na + 1
                    · have hmn : min (at_ (far.set na (at_ far nc + 1)) nc) (at_ (far.set na (at_ far nc + 1)) na + 1) = at_ (far.set na (at_ far nc + 1)) nc := by omega
                      have HMN := hide hmn
                      rw [hmn] at HRx
                      clear hmn
                      go_wp2_with fail
                      refine wp_region_still_tail 16 (by kernel_rfl) (by kernel_rfl) ?_
                      simp only [List.take_succ_cons, List.take_zero, List.drop_succ_cons, List.drop_zero]
                      change wpStill _ _ (World.drew _) (fun a' => wpList _ _ _ _ a' (World.drew _)) _ _
                      repeat still_step
                      refine wpStill_nil ?_
                      go_wp2_with fail
                      go_roundw
                      case rel =>
                        refine ⟨j + 1, ((far.set na (at_ far nc + 1))).set nc (at_ (far.set na (at_ far nc + 1)) nc), by omega, by go_num, hide ?_, hide ?_, hide ?_, hide ?_⟩
                        · exact HRx.out.1.both na nc EA.out EC.out hac (fun hr t ht hrc => by rw [at_set_ne _ _ _ _ (Ne.symm hac)]; exact HP4.out hr t ht hrc) (fun _ => HRx.out.2)
                        · rw [encI_set]; exact (O6.out.stored nc _).1
                        · exact N6.out.far (by show w.heap.size ≠ gF; omega) _
                        · exact (K6.out.setCell (by show w.heap.size ≤ gF; omega) _).drew
                      case measure => simp [intOf]; omega
                    · have hmn : min (at_ (far.set na (at_ far nc + 1)) nc) (at_ (far.set na (at_ far nc + 1)) na + 1) = at_ (far.set na (at_ far nc + 1)) na + 1 := by omega
                      have HMN := hide hmn
                      rw [hmn] at HRx
                      clear hmn
                      go_wp2_with fail
                      refine wp_region_still_tail 16 (by kernel_rfl) (by kernel_rfl) ?_
                      simp only [List.take_succ_cons, List.take_zero, List.drop_succ_cons, List.drop_zero]
                      change wpStill _ _ (World.drew _) (fun a' => wpList _ _ _ _ a' (World.drew _)) _ _
                      repeat still_step
                      refine wpStill_nil ?_
                      go_wp2_with fail
                      go_roundw
                      case rel =>
                        refine ⟨j + 1, ((far.set na (at_ far nc + 1))).set nc (at_ (far.set na (at_ far nc + 1)) na + 1), by omega, by go_num, hide ?_, hide ?_, hide ?_, hide ?_⟩
                        · exact HRx.out.1.both na nc EA.out EC.out hac (fun hr t ht hrc => by rw [at_set_ne _ _ _ _ (Ne.symm hac)]; exact HP4.out hr t ht hrc) (fun _ => HRx.out.2)
                        · rw [encI_set]; exact (O6.out.stored nc _).1
                        · exact N6.out.far (by show w.heap.size ≠ gF; omega) _
                        · exact (K6.out.setCell (by show w.heap.size ≤ gF; omega) _).drew
                      case measure => simp [intOf]; omega
                  · go_wp2_with fail
                    go_roundw
                    case rel => exact ⟨j + 1, (far.set na (at_ far nc + 1)), by omega, by go_num, hide (HBe4.out.both na nc EA.out EC.out hac HP4.out (fun h => absurd h (by omega))), O6, N6, K6⟩
                    case measure => simp [intOf]; omega
              · have HP4 : Hid (0 < roomF ls os fl j na → ∀ t : Nat, t ≤ st → Rch (Res ls os fl) nt t nc → at_ far na ≤ t + 1) := fun h => absurd h (by omega)
                have y0 : w3.cell? ⟨w.heap.size, 0, none⟩ = some (.int .i64 k) := N3.out.cell 0
                have y1 : w3.cell? ⟨w.heap.size, 1, none⟩ = some (.slice (some ⟨b0, o0, none⟩) ls.length c) := N3.out.cell 1
                obtain ⟨p0, p1, p2⟩ := X3.out.three
                go_wp2_with fail
                refine (l34Room_any _ _ _ _ _ _ _ _ _ _ _ _ _ (HH.out.to K3.out) (HG.out.to K3.out) (HS.out.to K3.out) HV.out HL.out HF.out hjl).mono ?_
                rintro e w6 ⟨rfl, hb6⟩
                have O6 := hide (O3.out.keepB hb6)
                have N6 := hide (N3.out.to hb6)
                have K6 := hide (K3.out.then hb6)
                have X6 := hide (X3.out.to hb6)
                clear hb6 y0 y1 p0 p1 p2
                by_cases hr2 : 0 < roomF ls os fl j nc
                · obtain ⟨p0, p1, p2⟩ := X6.out.three
                  have a1 := O6.out.cellAt na (by omega)
                  rw [encI_at far na (by rw [HBe.out.len]; exact la)] at a1
                  have a2 := O6.out.cellAt nc (by omega)
                  rw [encI_at far nc (by rw [HBe.out.len]; exact lc)] at a2
                  have z2 := O6.out.frozenAt nc
                  have la' : (na : Int) < k := by omega
                  have lc' : (nc : Int) < k := by omega
                  obtain ⟨s1, s2⟩ := HBe.out.bnd na la
                  obtain ⟨s3, s4⟩ := HBe.out.bnd nc lc
                  have HRx := hide (HBe.out.relax j hjl nc na lc la OC.out hr2 (by omega) t1)
                  have hw2 : IntKind.i64.wrap (at_ far na + 1) = at_ far na + 1 := IntWalk.i64_in _ (by omega)
                  by_cases hm2 : at_ far nc ≤ at_ far na + 1
                  · have hmn : min (at_ far nc) (at_ far na + 1) = at_ far nc := by omega
                    have HMN := hide hmn
                    rw [hmn] at HRx
                    clear hmn
                    go_wp2_with fail
                    refine wp_region_still_tail 16 (by kernel_rfl) (by kernel_rfl) ?_
                    simp only [List.take_succ_cons, List.take_zero, List.drop_succ_cons, List.drop_zero]
                    change wpStill _ _ (World.drew _) (fun a' => wpList _ _ _ _ a' (World.drew _)) _ _
                    repeat still_step
                    refine wpStill_nil ?_
                    go_wp2_with fail
                    go_roundw
                    case rel =>
                      refine ⟨j + 1, (far).set nc (at_ far nc), by omega, by go_num, hide ?_, hide ?_, hide ?_, hide ?_⟩
                      · exact HRx.out.1.both na nc EA.out EC.out hac (fun hr t ht hrc => by rw [at_set_ne _ _ _ _ (Ne.symm hac)]; exact HP4.out hr t ht hrc) (fun _ => HRx.out.2)
                      · rw [encI_set]; exact (O6.out.stored nc _).1
                      · exact N6.out.far (by show w.heap.size ≠ gF; omega) _
                      · exact (K6.out.setCell (by show w.heap.size ≤ gF; omega) _).drew
                    case measure => simp [intOf]; omega
                  · have hmn : min (at_ far nc) (at_ far na + 1) = at_ far na + 1 := by omega
                    have HMN := hide hmn
                    rw [hmn] at HRx
                    clear hmn
                    go_wp2_with fail
                    refine wp_region_still_tail 16 (by kernel_rfl) (by kernel_rfl) ?_
                    simp only [List.take_succ_cons, List.take_zero, List.drop_succ_cons, List.drop_zero]
                    change wpStill _ _ (World.drew _) (fun a' => wpList _ _ _ _ a' (World.drew _)) _ _
                    repeat still_step
                    refine wpStill_nil ?_
                    go_wp2_with fail
                    go_roundw
                    case rel =>
                      refine ⟨j + 1, (far).set nc (at_ far na + 1), by omega, by go_num, hide ?_, hide ?_, hide ?_, hide ?_⟩
                      · exact HRx.out.1.both na nc EA.out EC.out hac (fun hr t ht hrc => by rw [at_set_ne _ _ _ _ (Ne.symm hac)]; exact HP4.out hr t ht hrc) (fun _ => HRx.out.2)
                      · rw [encI_set]; exact (O6.out.stored nc _).1
                      · exact N6.out.far (by show w.heap.size ≠ gF; omega) _
                      · exact (K6.out.setCell (by show w.heap.size ≤ gF; omega) _).drew
                    case measure => simp [intOf]; omega
                · go_wp2_with fail
                  go_roundw
                  case rel => exact ⟨j + 1, far, by omega, by go_num, hide (HBe.out.both na nc EA.out EC.out hac HP4.out (fun h => absurd h (by omega))), O6, N6, K6⟩
                  case measure => simp [intOf]; omega
            · obtain rfl : j = ls.length := by omega
              go_wp2_with fail
              refine ⟨⟨st + 1, far, by omega, by go_num, hide (HBe.out.round (fun u v huv => by have := Res.range HV.out huv; omega)), HO, HB, HK⟩, by simp [intOf]; omega⟩
        · obtain rfl : st = k := by omega
          go_wp2_with fail
          go_ret
          exact ⟨far, some ⟨gF, 0, none⟩, d2, ⟨HBe.out.len, HBe.out.far_ (fun u v huv => by have := Res.range HV.out huv; omega) t0 t1 (by omega), HBe.out.bnd⟩, by rw [HBe.out.len]; rfl, by rw [HBe.out.len]; exact own_mono HO.out (by omega), HK.out⟩

end Go.Proofs.YtijnahflfbjgiaaDoor
