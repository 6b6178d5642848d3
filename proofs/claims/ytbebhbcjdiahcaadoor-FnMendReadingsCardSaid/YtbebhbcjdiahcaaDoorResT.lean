/-
  Residuals: what the reference's function computes.
-/
import Derived.Test.YtbebhbcjdiahcaaDoorResS
namespace Go.Proofs.YtbebhbcjdiahcaaDoor
open Go.RowKit
set_option linter.unusedVariables false

theorem resL_snoc {ls : List (Int × Int × Int)} {on : List Bool} {bs : List (Int × Int)} {rs ps : List Int} {k : Nat} (h : k < bs.length) : (resL ls on bs rs ps).take k ++ [resF ls on bs rs ps k] = (resL ls on bs rs ps).take (k + 1) := by
  rw [← take_snoc_at (by rw [resL_len]; exact h), resL_at h]

set_option maxRecDepth 8000 in
set_option maxHeartbeats 4000000 in
theorem specResiduals_any (b : Int) (A D B R : Option Addr) (c d f n rc : Nat) (ls : List (Int × Int × Int)) (on : List Bool) (bs : List (Int × Int)) (rs : List Int) (w : World) (h : Sl w w.heap.size 3 A ls.length (enc3 ls)) (g : Sl w w.heap.size 1 D n (encB on)) (hon : on.length = n) (s : Sl w w.heap.size 2 B bs.length (enc2 bs)) (r : Sl w w.heap.size 1 R rs.length (encI rs)) (hm : ls.length ≤ 1048576) (hn : bs.length ≤ 1048576) (hrn : rs.length ≤ 1048576) :
    Calls Tryd.prog 9 #[.agg #[.int .i64 b, .slice A ls.length c], .slice D n d, .slice B bs.length f, .slice R rs.length rc] w (MadeInts (ResR b ls on bs rs) w) := by
  have hsz : (w.alloc (.cells #[.int .i64 b, .slice A ls.length c] 25)).heap.size = w.heap.size + 1 := by simp
  have B0 := hide ((Blk.new w 25 #[.int .i64 b, .slice A ls.length c]).alloc (.cells #[] 3))
  have K0 := hide (((Below.refl _ w).alloc (Nat.le_refl _) (.cells #[.int .i64 b, .slice A ls.length c] 25)).alloc (by omega) (.cells #[] 3))
  have ho0 := World.ownsRow_lit (base := w.heap.size + 1) (e := 3) (size := 1) (w.alloc (.cells #[.int .i64 b, .slice A ls.length c] 25)) #[] 0 (by simp) (by unfold maxLen; omega) rfl
  rw [hsz] at ho0
  have O0 := hide ho0
  have hz0 : w.heap.size + 2 ≤ ((w.alloc (.cells #[.int .i64 b, .slice A ls.length c] 25)).alloc (.cells #[] 3)).heap.size := by simp
  have HH := hide h
  have GG := hide g
  have SS := hide s
  have RR := hide r
  clear h g s r hsz ho0
  go_enter Tryd.func9, Tryd.ntmps9
  go_wp2_with fail
  refine (l31Ok_any b A D B R c d f n rc ls on bs rs _ (HH.out.to K0.out) (GG.out.to K0.out) hon (SS.out.to K0.out) (RR.out.to K0.out) hm hn hrn).mono ?_
  rintro e w1 ⟨rfl, hb1⟩
  have K1 := hide (K0.out.then hb1)
  have B1 := hide (B0.out.to hb1)
  have O1 := hide (O0.out.keepB hb1)
  have hz1 : w.heap.size + 2 ≤ w1.heap.size := by have := hb1.size; omega
  clear hb1 K0 B0 O0 hz0
  cases hk : okB b ls on bs rs
  · have HQ := hide hk
    clear hk
    go_wp2_with fail
    go_ret
    exact ⟨[], _, 0, .inl ⟨HQ.out, rfl⟩, rfl, own_mono O1.out (by omega), K1.out⟩
  · obtain ⟨hr, hrd⟩ := okB_true hk
    obtain ⟨hf, hcy, hon1⟩ := (radB_iff _ _ _ _).1 hr
    obtain ⟨hv, hnl, hbl, hok⟩ := fedB_true hf
    rw [hon] at hnl
    subst hnl
    obtain ⟨nb, rfl⟩ : ∃ nb : Nat, b = nb := ⟨bs.length, hbl.symm⟩
    obtain ⟨⟨n1, n2⟩, n3⟩ := net_len hv
    have hb1 : bs.length ≤ nb := by omega
    have hb2 : nb ≤ bs.length := by omega
    obtain ⟨hrl, hrr⟩ := rdB_true hrd
    have hrl1 : rs.length ≤ ls.length := by omega
    have hrl2 : ls.length ≤ rs.length := by omega
    have HRR := hide hrr
    have HQ := hide hk
    have HR := hide hrd
    have HF := hide hf
    have HV := hide hv
    have HOK := hide hok
    obtain ⟨g0, g1⟩ := B1.out.two
    clear hr hrd hf hcy hon1 hv hbl hok hk hrl hrr
    go_wp2_with fail
    refine (l6Parents_any nb A D B c d f ls on bs w1 (HH.out.to K1.out) (GG.out.to K1.out) hon (SS.out.to K1.out) HF.out).mono ?_
    rintro e w2 ⟨ps, P, pc, hp, rfl, hop, hb2'⟩
    have hpl := hp.len
    obtain ⟨pq, cp, hP, _, _⟩ := hop.form (by omega)
    cases hP
    have hpq : w1.heap.size ≤ pq ∧ pq < w2.heap.size := hop.lt _ rfl
    have HP := hide hp
    have K2 := hide (K1.out.then hb2')
    have B2 := hide (B1.out.to hb2')
    have O2 := hide (O1.out.keepB hb2')
    have P2 := hide (own_mono hop (show w.heap.size + 1 ≤ w1.heap.size by omega))
    have hz2 := hb2'.size
    have hpl1 : ps.length ≤ bs.length := by omega
    have hpl2 : bs.length ≤ ps.length := by omega
    clear hp hop hb2' K1 B1 O1 g0 g1 hpl
    obtain ⟨g0, g1⟩ := B2.out.two
    go_wp2_with fail
    go_loopw [9, 11] (fun o x wr => ∃ (k : Nat) (E : Option Addr) (e : Nat), k ≤ nb ∧ o = .slice E k e ∧ x = .int .i64 k ∧ w2.heap.size ≤ wr.heap.size ∧ Hid (wr.ownsRow (w.heap.size + 1) 3 1 (.slice E k e) k (encI ((resL ls on bs rs ps).take k))) ∧ Hid (∀ g, (Value.slice E k e).ownBlock = some g → ¬ g = pq) ∧ Hid (wr.ownsRow (w.heap.size + 1) 3 1 (.slice (some ⟨pq, 0, none⟩) ps.length pc) ps.length (encI ps)) ∧ Hid (Blk wr w.heap.size 25 #[.int .i64 nb, .slice A ls.length c]) ∧ Hid (Below w.heap.size w wr)) (fun _ x _ => nb - (intOf x).toNat)
    case atStart => exact ⟨0, _, 0, Nat.zero_le _, rfl, rfl, Nat.le_refl _, O2, hide (fun g hg => by simp [Value.ownBlock] at hg; omega), P2, B2, K2⟩
    case round =>
      clear O2 P2 B2 K2 g0 g1
      obtain ⟨k, E, e, hkn, rfl, rfl, hzw, HO, HD, HPO, HB, HK⟩ := hrel
      obtain ⟨g0, g1⟩ := HB.out.two
      by_cases hlt : k < nb
      · have hkb : k < bs.length := by omega
        have x1 := HPO.out.cellAt k (by omega)
        rw [encI_at ps k (by omega)] at x1
        have i0 : (0 : Int) ≤ k := by omega
        have i1 : (k : Int) < ps.length := by omega
        have i2 : (k : Int) < bs.length := by omega
        have HSN := hide (resL_snoc (ls := ls) (on := on) (rs := rs) (ps := ps) hkb)
        have hz3 : w.heap.size + 1 ≤ wr.heap.size := by omega
        by_cases hneg : at_ ps k < 0
        · have hge : decide (0 ≤ at_ ps k) = false := by simp; omega
          have hres : resF ls on bs rs ps k = 0 := by unfold resF; rw [if_pos hneg]
          rw [hres] at HSN
          clear hneg hres
          go_wp2_with (at_builtin; refine app_int2 wr rfl (.tmp 87) (.tmp 89) rfl (w.heap.size + 1) E k e ((resL ls on bs rs ps).take k) 0 rfl HO.out wr.heap.size rfl rfl hz3 (by omega) ?_; intro D2 d2 w3 ho3 hg3 hw3; rw [HSN.out] at ho3)
          have K3 := hide (HK.out.trans ((grown_below HO.out hg3 hz3).mono (by omega)))
          have B3 := hide (HB.out.below (grown_below HO.out hg3 hz3) (by omega))
          have O3 := hide ho3
          have P3 := hide (own_apart HPO.out hg3 (fun g hg he => by
            have hgq : pq = g := by simpa [Value.ownBlock] using hg
            exact HD.out g he hgq.symm))
          have hs3 := hg3.size
          have D3 : Hid (∀ g, (Value.slice D2 (k + 1) d2).ownBlock = some g → ¬ g = pq) := hide fun g hg => by
            rcases hw3 g hg with h | h
            · exact HD.out g h
            · omega
          clear ho3 hg3 hw3
          go_roundw
          case rel => exact ⟨k + 1, D2, d2, by omega, rfl, by go_num, by omega, O3, D3, P3, B3, K3⟩
          case measure => simp [intOf]; omega
        · obtain ⟨pp, hpp⟩ := Int.eq_ofNat_of_zero_le (show 0 ≤ at_ ps k by omega)
          obtain ⟨hq1, _, _⟩ := HP.out.inc hkb (by omega)
          have hres := resF_spec (rs := rs) HP.out hkb (show 0 ≤ at_ ps k by omega)
          rw [hpp, Int.toNat_natCast] at hres
          rw [hpp, Int.toNat_natCast] at hq1
          rw [hpp] at x1
          have hge : decide (0 ≤ (pp : Int)) = true := by simp
          obtain ⟨b2, o2, hA2, hb2', he⟩ := RR.out.int pp (by omega)
          subst hA2
          have e0 := (HK.out.cell (p := ⟨b2, o2 + pp, none⟩) hb2').trans he
          obtain ⟨b3, o3, hA3, hb3, hf0, hf1⟩ := SS.out.two k hkb
          subst hA3
          have f1 := (HK.out.cell (p := ⟨b3, o3 + k * 2 + 1, none⟩) hb3).trans hf1
          obtain ⟨r1, r2⟩ := HRR.out pp (by omega)
          obtain ⟨l1, l2⟩ : 0 ≤ (at2 bs k).2 ∧ (at2 bs k).2 ≤ 999 := by
            have := HOK.out k hkb
            simp only [busOk, Bool.and_eq_true] at this
            exact inB_true this.2
          have hw1 : IntKind.i64.wrap (at_ rs pp - (at2 bs k).2) = at_ rs pp - (at2 bs k).2 := IntWalk.i64_in _ (by omega)
          have q0 : (0 : Int) ≤ pp := by omega
          have q1 : (pp : Int) < rs.length := by omega
          have HRES := hide hres
          have HRES0 := hide hpp
          clear hneg he hf0 hf1 hpp hres hq1
          go_wp2_with fail
          go_quiet (fail)
          go_wp2_with fail
          refine (linesAt_any nb k A c ls _ (HH.out.to (below_drewN HK.out _)) HV.out).mono ?_
          rintro e' w5 ⟨L, LD, ld, hL, rfl, hoL, hb5⟩
          have K5 := hide ((below_drewN HK.out _).then hb5)
          have B5 := hide ((HB.out.drewN _).to hb5)
          have O5 := hide ((show (wr.drewN _).ownsRow _ _ _ _ _ _ from HO.out).keepB hb5)
          have P5 := hide ((show (wr.drewN _).ownsRow _ _ _ _ _ _ from HPO.out).keepB hb5)
          have S5 := hide (Sl.of_own hoL)
          have hz5 : wr.heap.size ≤ w5.heap.size := hb5.size
          have hLin := linesL_in ls (k : Int) ls.length
          have hLs := sumO_lines ls on rs (k : Int) (pp : Int) ls.length
          rw [← hL] at hLin hLs
          obtain ⟨hL1, hL2⟩ := hLin
          have HL2 := hide hL2
          have HLS := hide hLs
          clear hL hoL hb5 hL2 hLs x1 e0 f1 g0 g1 HO HPO HB HK
          go_wp2_with fail
          go_loopw [12, 14] (fun a z wr => ∃ j : Nat, j ≤ L.length ∧ a = .int .i64 (at_ rs pp - (at2 bs k).2 - sumO on rs pp (L.take j)) ∧ z = .int .i64 j ∧ Hid (Below w5.heap.size w5 wr)) (fun _ z _ => L.length - (intOf z).toNat)
          case atStart => exact ⟨0, Nat.zero_le _, vint (by simp [sumO]), rfl, hide (Below.refl _ _)⟩
          case round =>
            obtain ⟨j, hj, rfl, rfl, HW⟩ := hrel
            obtain ⟨s1, s2⟩ := sumO_in (on := on) HR.out (pp : Int) L HL2.out j hj
            by_cases hjl : j < L.length
            · obtain ⟨z1, z2⟩ := HL2.out _ (mem_at j hjl)
              obtain ⟨v, hv⟩ := Int.eq_ofNat_of_zero_le z1
              rw [hv] at z2
              obtain ⟨b6, o6, hA6, hb6, he6⟩ := S5.out.int j hjl
              subst hA6
              rw [hv] at he6
              have e6 := (HW.out.cell (p := ⟨b6, o6 + j, none⟩) hb6).trans he6
              have K6 := hide (K5.out.then HW.out)
              obtain ⟨b7, o7, hA7, hb7, he7⟩ := GG.out.boolL hon v (by omega)
              subst hA7
              have e7 := (K6.out.cell (p := ⟨b7, o7 + v, none⟩) hb7).trans he7
              obtain ⟨_, _, hA8, _, he8⟩ := RR.out.int v (by omega)
              cases hA8
              have e8 := (K6.out.cell (p := ⟨b2, o2 + v, none⟩) hb2').trans he8
              have x1 := (P5.out.keepB HW.out).cellAt k (by omega)
              rw [encI_at ps k (by omega), HRES0.out] at x1
              obtain ⟨t1, t2⟩ := HRR.out v (by omega)
              have hsn := sumO_snoc on rs pp (L.take j) (v : Int)
              rw [← hv, take_snoc_at hjl, hv, Int.toNat_natCast] at hsn
              have j0 : (0 : Int) ≤ j := by omega
              have j1 : (j : Int) < L.length := by omega
              have v0 : (0 : Int) ≤ v := by omega
              have v1 : (v : Int) < ls.length := by omega
              have v2 : (v : Int) < rs.length := by omega
              have HSN2 := hide hsn
              clear he6 he7 he8 hv z1 hsn
              cases hov : atB on v
              · have HS := hide (show sumO on rs pp (L.take (j + 1)) = sumO on rs pp (L.take j) by rw [HSN2.out, if_neg (by simp [hov])]; omega)
                rw [hov] at e7
                clear hov
                go_wp2_with fail
                go_quiet (fail)
                go_wp2_with fail
                go_roundw
                case rel => exact ⟨j + 1, by omega, by rw [HS.out], by go_num, hide (below_drewN HW.out _)⟩
                case measure => simp [intOf]; omega
              · rw [hov] at e7
                by_cases hvp : (v : Int) = pp
                · have hbn : ((v : Int) != (pp : Int)) = false := by simp [hvp]
                  have HS := hide (show sumO on rs pp (L.take (j + 1)) = sumO on rs pp (L.take j) by rw [HSN2.out, if_neg (fun h => h.2 hvp)]; omega)
                  clear hov hvp
                  go_wp2_with fail
                  go_quiet (fail)
                  go_wp2_with fail
                  go_roundw
                  case rel => exact ⟨j + 1, by omega, by rw [HS.out], by go_num, hide (below_drewN HW.out _)⟩
                  case measure => simp [intOf]; omega
                · have hbn : ((v : Int) != (pp : Int)) = true := by simp; omega
                  have HS := hide (show sumO on rs pp (L.take (j + 1)) = sumO on rs pp (L.take j) + at_ rs v by rw [HSN2.out, if_pos ⟨hov, hvp⟩])
                  have hw3 : IntKind.i64.wrap (at_ rs pp - (at2 bs k).2 - sumO on rs pp (L.take j) - at_ rs v) = at_ rs pp - (at2 bs k).2 - sumO on rs pp (L.take j) - at_ rs v := IntWalk.i64_in _ (by omega)
                  clear hov hvp
                  go_wp2_with fail
                  go_quiet (fail)
                  go_wp2_with fail
                  go_roundw
                  case rel => exact ⟨j + 1, by omega, vint (by rw [HS.out]; omega), by go_num, hide (below_drewN HW.out _)⟩
                  case measure => simp [intOf]; omega
            · obtain rfl : j = L.length := by omega
              have hacc : at_ rs pp - (at2 bs k).2 - sumO on rs pp (L.take L.length) = resF ls on bs rs ps k := by rw [take_all, HLS.out, HRES.out]
              rw [hacc]
              have HK := hide (K5.out.then HW.out)
              have HB := hide (B5.out.to HW.out)
              have HO := hide (O5.out.keepB HW.out)
              have HPO := hide (P5.out.keepB HW.out)
              have hz6 := HW.out.size
              have hz3 : w.heap.size + 1 ≤ wr.heap.size := by omega
              have hzw : w2.heap.size ≤ wr.heap.size := by omega
              clear hacc s1 s2
              go_wp2_with (at_builtin; refine app_int2 wr rfl (.tmp 87) (.tmp 89) rfl (w.heap.size + 1) E k e ((resL ls on bs rs ps).take k) (resF ls on bs rs ps k) rfl HO.out wr.heap.size rfl rfl hz3 (by omega) ?_; intro D2 d2 w3 ho3 hg3 hw3; rw [HSN.out] at ho3)
              have K3 := hide (HK.out.trans ((grown_below HO.out hg3 hz3).mono (by omega)))
              have B3 := hide (HB.out.below (grown_below HO.out hg3 hz3) (by omega))
              have O3 := hide ho3
              have P3 := hide (own_apart HPO.out hg3 (fun g hg he => by
                have hgq : pq = g := by simpa [Value.ownBlock] using hg
                exact HD.out g he hgq.symm))
              have hs3 := hg3.size
              have D3 : Hid (∀ g, (Value.slice D2 (k + 1) d2).ownBlock = some g → ¬ g = pq) := hide fun g hg => by
                rcases hw3 g hg with h | h
                · exact HD.out g h
                · omega
              clear ho3 hg3 hw3
              go_roundw
              case rel => exact ⟨k + 1, D2, d2, by omega, rfl, by go_num, by omega, O3, D3, P3, B3, K3⟩
              case measure => simp [intOf]; omega
      · obtain rfl : k = nb := by omega
        have hRL : (resL ls on bs rs ps).take k = resL ls on bs rs ps := List.take_of_length_le (by rw [resL_len]; omega)
        have hRN : (resL ls on bs rs ps).length = k := by rw [resL_len]; omega
        have HRN := hide hRN
        rw [hRL] at HO
        clear hRL hRN
        go_wp2_with fail
        go_ret
        exact ⟨resL ls on bs rs ps, E, e, .inr ⟨HQ.out, ps, HP.out, rfl⟩, by rw [HRN.out]; rfl, by rw [HRN.out]; exact own_mono HO.out (by omega), HK.out⟩

end Go.Proofs.YtbebhbcjdiahcaaDoor
