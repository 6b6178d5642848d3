/-
  Readings: what the program's functions compute.
-/
import Derived.Test.YtbebhbcjdiahcaaDoorResP
import Derived.Test.YtbebhbcjdiahcaaDoorSearch
namespace Go.Proofs.YtbebhbcjdiahcaaDoor
open Go.RowKit
set_option linter.unusedVariables false

theorem inB_cases (x lo hi : Int) : (x < lo ∧ inB x lo hi = false) ∨ (lo ≤ x ∧ hi < x ∧ inB x lo hi = false) ∨ (lo ≤ x ∧ x ≤ hi ∧ inB x lo hi = true) := by
  by_cases h1 : x < lo
  · exact .inl ⟨h1, inB_no (.inl h1)⟩
  · by_cases h2 : hi < x
    · exact .inr (.inl ⟨by omega, h2, inB_no (.inr h2)⟩)
    · exact .inr (.inr ⟨by omega, by omega, inB_mk (by omega) (by omega)⟩)

theorem readingsValid_any (b : Int) (A R : Option Addr) (c rc : Nat) (ls : List (Int × Int × Int)) (rs : List Int) (w : World) (r : Sl w w.heap.size 1 R rs.length (encI rs)) (hm : ls.length ≤ 1048576) (hn : rs.length ≤ 1048576) :
    Calls Tryd.prog 25 #[.agg #[.int .i64 b, .slice A ls.length c], .slice R rs.length rc] w fun e w' => e = .returned (.bool (rdB ls.length rs)) ∧ Below w.heap.size w w' := by
  have K0 := hide ((Below.refl _ w).alloc (Nat.le_refl _) (.cells #[.int .i64 b, .slice A ls.length c] 25))
  have RR := hide r
  clear r
  by_cases hl : rs.length = ls.length
  · have hne : ((rs.length : Int) != ls.length) = false := by simp [hl]
    have HL := hide hl
    clear hl
    go_enter Tryd.func25, Tryd.ntmps25
    go_wp2_with fail
    go_loopw [15] (fun x wr => ∃ k : Nat, k ≤ rs.length ∧ x = .int .i64 k ∧ Hid (∀ j, j < k → inB (at_ rs j) 0 15984 = true) ∧ Hid (Below w.heap.size w wr)) (fun x _ => rs.length - (intOf x).toNat)
    case atStart => exact ⟨0, Nat.zero_le _, rfl, hide (fun j hj => absurd hj (by omega)), K0⟩
    case round =>
      clear K0
      obtain ⟨k, hk, rfl, HN, HK⟩ := hrel
      by_cases hlt : k < rs.length
      · obtain ⟨b0, o0, rfl, hb, hd⟩ := RR.out.int k hlt
        have d0 := (HK.out.cell (p := ⟨b0, o0 + k, none⟩) hb).trans hd
        clear hd
        rcases inB_cases (at_ rs k) 0 15984 with ⟨q1, q⟩ | ⟨q1, q2, q⟩ | ⟨q1, q2, q⟩
        · have Q := hide q
          clear q
          go_wp2_with fail
          go_ret
          exact ⟨ret_bool (rdB_no k hlt Q.out).symm, HK.out⟩
        · have Q := hide q
          clear q
          go_wp2_with fail
          go_ret
          exact ⟨ret_bool (rdB_no k hlt Q.out).symm, HK.out⟩
        · have Q := hide q
          clear q
          go_wp2_with fail
          go_roundw
          case rel => exact ⟨k + 1, by omega, by go_num, hide (fun j hj => by
              by_cases hjk : j = k
              · subst hjk; exact Q.out
              · exact HN.out j (by omega)), HK⟩
          case measure => simp [intOf]; omega
      · obtain rfl : k = rs.length := by omega
        go_wp2_with fail
        go_ret
        exact ⟨ret_bool (rdB_yes HL.out HN.out).symm, HK.out⟩
  · have hne : ((rs.length : Int) != ls.length) = true := by simp; omega
    have HQ := hide (rdB_len hl)
    clear hl
    go_enter Tryd.func25, Tryd.ntmps25
    go_wp2_with fail
    go_ret
    exact ⟨ret_bool HQ.out.symm, K0.out⟩

/-- What is left, as far as it has been reckoned. -/
def midL (ls : List (Int × Int × Int)) (on : List Bool) (bs : List (Int × Int)) (rs ps : List Int) (i : Nat) : List Int := (List.range bs.length).map fun x => if x < i then resF ls on bs rs ps x else 0
section
variable {ls : List (Int × Int × Int)} {on : List Bool} {bs : List (Int × Int)} {rs ps : List Int}
theorem midL_len (i : Nat) : (midL ls on bs rs ps i).length = bs.length := by simp [midL]
theorem midL_at {i x : Nat} (h : x < bs.length) : at_ (midL ls on bs rs ps i) x = if x < i then resF ls on bs rs ps x else 0 := by simp [at_, midL, h]
theorem midL_zero : encI (midL ls on bs rs ps 0) = (zrow bs.length).toList := by
  refine List.ext_getElem (by simp [encI, midL, zrow]) fun j h1 h2 => by simp [encI, midL, zrow]
theorem midL_all : midL ls on bs rs ps bs.length = resL ls on bs rs ps :=
  same_of_at (by simp [midL_len, resL_len]) fun j hj => by
    rw [midL_len] at hj
    rw [midL_at hj, resL_at hj, if_pos hj]
theorem midL_set {i : Nat} (h : i < bs.length) : (midL ls on bs rs ps i).set i (resF ls on bs rs ps i) = midL ls on bs rs ps (i + 1) :=
  same_of_at (by simp [midL_len]) fun j hj => by
    rw [List.length_set, midL_len] at hj
    rw [at_setN _ _ _ _ (by rw [midL_len]; exact h), midL_at hj, midL_at hj]
    by_cases h1 : j = i
    · subst h1; simp
    · rw [if_neg h1]
      by_cases h2 : j < i
      · rw [if_pos h2, if_pos (by omega)]
      · rw [if_neg h2, if_neg (by omega)]
theorem midL_skip {i : Nat} (h : i < bs.length) (hp : at_ ps i < 0) : midL ls on bs rs ps i = midL ls on bs rs ps (i + 1) :=
  same_of_at (by simp [midL_len]) fun j hj => by
    rw [midL_len] at hj
    rw [midL_at hj, midL_at hj]
    by_cases h1 : j = i
    · subst h1
      rw [if_neg (Nat.lt_irrefl _), if_pos (by omega)]
      unfold resF; rw [if_pos hp]
    · by_cases h2 : j < i
      · rw [if_pos h2, if_pos (by omega)]
      · rw [if_neg h2, if_neg (by omega)]
end
theorem inc_other {nb : Nat} {ls : List (Int × Int × Int)} (hv : netB nb ls = true) {k : Nat} (hk : k < ls.length) (x : Nat) : (0 ≤ otherF (at3 ls k) x ∧ incB ls x k = true) ∨ (otherF (at3 ls k) x < 0 ∧ incB ls x k = false) := by
  obtain ⟨m1, m2, _⟩ := net_at hv k hk
  unfold otherF incB
  by_cases h1 : (x : Int) = (at3 ls k).1
  · rw [if_pos h1, decide_eq_true h1.symm]; exact .inl ⟨m2.1, rfl⟩
  · rw [if_neg h1, decide_eq_false fun h => h1 h.symm]
    by_cases h2 : (x : Int) = (at3 ls k).2.1
    · rw [if_pos h2, decide_eq_true h2.symm]; exact .inl ⟨m1.1, rfl⟩
    · rw [if_neg h2, decide_eq_false fun h => h2 h.symm]; exact .inr ⟨by omega, rfl⟩

set_option maxRecDepth 8000 in
set_option maxHeartbeats 4000000 in
theorem residualsT_any (nb : Nat) (A D F P O B R : Option Addr) (c d fn fc pc on_ oc f rc : Nat) (ls : List (Int × Int × Int)) (on : List Bool) (bs : List (Int × Int)) (rs ps : List Int) (w : World)
    (h : Sl w w.heap.size 3 A ls.length (enc3 ls)) (g : Sl w w.heap.size 1 D ls.length (encB on)) (hon : on.length = ls.length) (s : Sl w w.heap.size 2 B bs.length (enc2 bs)) (r : Sl w w.heap.size 1 R rs.length (encI rs)) (p : Sl w w.heap.size 1 P ps.length (encI ps))
    (hf : fedB nb ls on.length bs = true) (hr : rdB ls.length rs = true) (hp : PL ls on bs ps) :
    Calls Tryd.prog 26 #[.agg #[.int .i64 nb, .slice A ls.length c, .slice F fn fc, .slice P ps.length pc, .slice O on_ oc], .slice D ls.length d, .slice B bs.length f, .slice R rs.length rc] w (MadeInts (fun l => l = resL ls on bs rs ps) w) := by
  obtain ⟨hv, _, hbl, hok⟩ := fedB_true hf
  obtain ⟨⟨n1, n2⟩, n3⟩ := net_len hv
  have hb8 : bs.length ≤ 8 := by omega
  obtain ⟨hrl, hrr⟩ := rdB_true hr
  have hrl1 : rs.length ≤ ls.length := by omega
  have hrl2 : ls.length ≤ rs.length := by omega
  have hpl := hp.len
  have hpl1 : ps.length ≤ bs.length := by omega
  have hpl2 : bs.length ≤ ps.length := by omega
  have hmk := run_make_z (P := Tryd.prog) 28 3 _ 1 8 Tryd.underlying28 infoI rfl (by omega) bs.length bs.length (Nat.le_refl _) (by omega) (by omega)
  simp only [Nat.mul_one] at hmk
  have hsz : (w.alloc (.cells #[.int .i64 nb, .slice A ls.length c, .slice F fn fc, .slice P ps.length pc, .slice O on_ oc] 47)).heap.size = w.heap.size + 1 := by simp
  have O0 := World.ownsRow_lit (base := w.heap.size + 1) (e := 3) (size := 1) (w.alloc (.cells #[.int .i64 nb, .slice A ls.length c, .slice F fn fc, .slice P ps.length pc, .slice O on_ oc] 47)) (zrow bs.length) bs.length (by simp) (by unfold maxLen; omega) (by simp [zrow])
  rw [hsz, ← midL_zero (ls := ls) (on := on) (rs := rs) (ps := ps)] at O0
  have OO := hide O0
  have B0 := hide ((Blk.new w 47 #[.int .i64 nb, .slice A ls.length c, .slice F fn fc, .slice P ps.length pc, .slice O on_ oc]).alloc (.cells (zrow bs.length) 3))
  have K0 := hide (((Below.refl _ w).alloc (Nat.le_refl _) (.cells #[.int .i64 nb, .slice A ls.length c, .slice F fn fc, .slice P ps.length pc, .slice O on_ oc] 47)).alloc (by omega) (.cells (zrow bs.length) 3))
  have HV := hide hv
  have HH := hide h
  have GG := hide g
  have SS := hide s
  have RR := hide r
  have PP := hide p
  have HP := hide hp
  have HR := hide hr
  have HRR := hide hrr
  have HOK := hide hok
  clear hbl hf hpl hrl hrr hok hsz O0 h g s r p hv hp hr
  go_enter Tryd.func26, Tryd.ntmps26
  go_wp2_with fail
  go_loopw [20] (fun x wr => ∃ i : Nat, i ≤ ps.length ∧ x = .int .i64 i ∧ Hid (wr.ownsRow (w.heap.size + 1) 3 1 (.slice (some ⟨w.heap.size + 1, 0, none⟩) bs.length bs.length) bs.length (encI (midL ls on bs rs ps i))) ∧ Hid (Blk wr w.heap.size 47 #[.int .i64 nb, .slice A ls.length c, .slice F fn fc, .slice P ps.length pc, .slice O on_ oc]) ∧ Hid (Below w.heap.size w wr)) (fun x _ => ps.length - (intOf x).toNat)
  case atStart => exact ⟨0, Nat.zero_le _, rfl, OO, B0, K0⟩
  case round =>
    clear OO B0 K0
    obtain ⟨i, hi, rfl, HO, HB, HK⟩ := hrel
    have y1 : wr.cell? ⟨w.heap.size, 1, none⟩ = some (.slice A ls.length c) := HB.out.cell 1
    by_cases hlt : i < ps.length
    · have hib : i < bs.length := by omega
      obtain ⟨b0, o0, rfl, hb, hd⟩ := PP.out.int i hlt
      have d0 := (HK.out.cell (p := ⟨b0, o0 + i, none⟩) hb).trans hd
      clear hd
      by_cases hneg : at_ ps i < 0
      · have HM := hide (midL_skip (ls := ls) (on := on) (rs := rs) hib hneg)
        go_wp2_with fail
        go_roundw
        case rel => exact ⟨i + 1, by omega, by go_num, by rw [← HM.out]; exact HO, HB, HK⟩
        case measure => simp [intOf]; omega
      · obtain ⟨q, hq⟩ := Int.eq_ofNat_of_zero_le (show 0 ≤ at_ ps i by omega)
        obtain ⟨hq1, hq2, hq3⟩ := HP.out.inc hib (by omega)
        rw [hq, Int.toNat_natCast] at hq1
        obtain ⟨b2, o2, rfl, hb2, he⟩ := RR.out.int q (by omega)
        have e0 := (HK.out.cell (p := ⟨b2, o2 + q, none⟩) hb2).trans he
        obtain ⟨b3, o3, rfl, hb3, hf0, hf1⟩ := SS.out.two i hib
        have f1 := (HK.out.cell (p := ⟨b3, o3 + i * 2 + 1, none⟩) hb3).trans hf1
        obtain ⟨r1, r2⟩ := HRR.out q (by omega)
        obtain ⟨l1, l2⟩ : 0 ≤ (at2 bs i).2 ∧ (at2 bs i).2 ≤ 999 := by
          have := HOK.out i hib
          simp only [busOk, Bool.and_eq_true] at this
          exact inB_true this.2
        have x1 := HO.out.cellAt i (by omega)
        rw [encI_at _ i (by rw [midL_len]; exact hib)] at x1
        have x2 := HO.out.frozenAt i
        have hw1 : IntKind.i64.wrap (2 * at_ rs q) = 2 * at_ rs q := IntWalk.i64_in _ (by omega)
        have hw2 : IntKind.i64.wrap (2 * at_ rs q - (at2 bs i).2) = 2 * at_ rs q - (at2 bs i).2 := IntWalk.i64_in _ (by omega)
        have i0 : (0 : Int) ≤ i := by omega
        have i1 : (i : Int) < bs.length := by omega
        have q0 : (0 : Int) ≤ q := by omega
        have q1 : (q : Int) < rs.length := by omega
        rw [hq] at d0
        have hng : ¬ (q : Int) < 0 := by omega
        have O1 := hide (((HO.out.stored i (.int .i64 (2 * at_ rs q - (at2 bs i).2))).1).keepB (Below.refl _ _).drew)
        rw [← encI_setU] at O1
        have B1 := hide ((HB.out.far (p := ⟨w.heap.size + 1, i, none⟩) (by simp) (.int .i64 (2 * at_ rs q - (at2 bs i).2))).to (Below.refl _ _).drew)
        have K1 := hide (HK.out.setCell (p := ⟨w.heap.size + 1, i, none⟩) (by simp) (.int .i64 (2 * at_ rs q - (at2 bs i).2))).drew
        have hres : resF ls on bs rs ps i = 2 * at_ rs q - (at2 bs i).2 - incS ls on rs i ls.length := by unfold resF; rw [hq, if_neg (by omega), Int.toNat_natCast]
        have HRES := hide hres
        clear hq hq2 hq3 he hf0 hf1 hneg hres
        go_wp2_with fail
        go_big_region
        generalize (wr.setCell ⟨w.heap.size + 1, i, none⟩ (.int .i64 (2 * at_ rs q - (at2 bs i).2))).drew = w5 at *
        clear y1 d0 e0 f1 x1 x2 HO HB HK
        have y1 : w5.cell? ⟨w.heap.size, 1, none⟩ = some (.slice A ls.length c) := B1.out.cell 1
        go_wp2_with fail
        go_loopw [45] (fun x wr => ∃ k : Nat, k ≤ ls.length ∧ x = .int .i64 k ∧ Hid (wr.ownsRow (w.heap.size + 1) 3 1 (.slice (some ⟨w.heap.size + 1, 0, none⟩) bs.length bs.length) bs.length (encI ((midL ls on bs rs ps i).set i (2 * at_ rs q - (at2 bs i).2 - incS ls on rs i k)))) ∧ Hid (Blk wr w.heap.size 47 #[.int .i64 nb, .slice A ls.length c, .slice F fn fc, .slice (some ⟨b0, o0, none⟩) ps.length pc, .slice O on_ oc]) ∧ Hid (Below w.heap.size w wr)) (fun x _ => ls.length - (intOf x).toNat)
        case atStart => exact ⟨0, Nat.zero_le _, rfl, by simpa [incS] using O1, B1, K1⟩
        case round =>
          clear O1 B1 K1 y1 hw1 hw2
          obtain ⟨k, hk, rfl, HO, HB, HK⟩ := hrel
          by_cases hkl : k < ls.length
          · obtain ⟨b4, o4, rfl, hb4, hd0, hd1, hd2⟩ := HH.out.three k hkl
            obtain ⟨b5, o5, rfl, hb5, hg⟩ := GG.out.boolL hon k hkl
            obtain ⟨_, _, he, _, hr⟩ := RR.out.int k (by omega)
            cases he
            have d0 := (HK.out.cell (p := ⟨b4, o4 + k * 3, none⟩) hb4).trans hd0
            have d1 := (HK.out.cell (p := ⟨b4, o4 + k * 3 + 1, none⟩) hb4).trans hd1
            have d2 := (HK.out.cell (p := ⟨b4, o4 + k * 3 + 2, none⟩) hb4).trans hd2
            have g0 := (HK.out.cell (p := ⟨b5, o5 + k, none⟩) hb5).trans hg
            have hz3 := HK.out.size
            have hb40 : b4 < wr.heap.size := by omega
            have hb50 : b5 < wr.heap.size := by omega
            have kk := (Below.refl _ wr).alloc (Nat.le_refl _) (.cells #[.int .i64 (at3 ls k).1, .int .i64 (at3 ls k).2.1, .int .i64 (at3 ls k).2.2] 60)
            have O2 := hide (HO.out.keepB kk)
            have B2 := hide (HB.out.to kk)
            have K2 := hide (HK.out.then kk)
            have k0 : (0 : Int) ≤ k := by omega
            have k1 : (k : Int) < ls.length := by omega
            have k2 : (k : Int) < rs.length := by omega
            clear hd0 hd1 hd2 hg kk HO HB HK
            cases hok : atB on k
            · have HS := hide (show incS ls on rs i (k + 1) = incS ls on rs i k by simp [incS, hok])
              rw [hok] at g0
              clear hok
              go_wp2_with fail
              go_roundw
              case rel => exact ⟨k + 1, by omega, by go_num, by rw [HS.out]; exact O2, B2, K2⟩
              case measure => simp [intOf]; omega
            · rw [hok] at g0
              go_wp2_with fail
              refine (other_any _ _ _).mono ?_
              rintro e w6 ⟨rfl, hb6⟩
              have O3 := hide (O2.out.keepB hb6)
              have B3 := hide (B2.out.to hb6)
              have K3 := hide (K2.out.then hb6)
              clear hb6 O2 B2 K2 d0 d1 d2 g0
              rcases inc_other HV.out hkl i with ⟨h1, h2⟩ | ⟨h1, h2⟩
              · have HS := hide (show incS ls on rs i (k + 1) = incS ls on rs i k + at_ rs k by simp [incS, hok, h2])
                have hge : decide (0 ≤ otherF (at3 ls k) i) = true := by simp [h1]
                obtain ⟨s1, s2⟩ := incS_in (ls := ls) (on := on) HR.out (i : Int) k (by omega)
                obtain ⟨t1, t2⟩ := HRR.out k (by omega)
                have hr' := (K3.out.cell (p := ⟨b2, o2 + k, none⟩) hb2).trans hr
                have x1 := O3.out.cellAt i (by omega)
                rw [encI_at _ i (by rw [List.length_set, midL_len]; exact hib), at_setN _ _ _ _ (by rw [midL_len]; exact hib), if_pos rfl] at x1
                have x2 := O3.out.frozenAt i
                have hw3 : IntKind.i64.wrap (2 * at_ rs q - (at2 bs i).2 - incS ls on rs i k - at_ rs k) = 2 * at_ rs q - (at2 bs i).2 - incS ls on rs i k - at_ rs k := IntWalk.i64_in _ (by omega)
                have O4 := hide (((O3.out.stored i (.int .i64 (2 * at_ rs q - (at2 bs i).2 - incS ls on rs i k - at_ rs k))).1).keepB (Below.refl _ _).drew)
                rw [← encI_setU, List.set_set] at O4
                have B4 := hide ((B3.out.far (p := ⟨w.heap.size + 1, i, none⟩) (by simp) (.int .i64 (2 * at_ rs q - (at2 bs i).2 - incS ls on rs i k - at_ rs k))).to (Below.refl _ _).drew)
                have K4 := hide (K3.out.setCell (p := ⟨w.heap.size + 1, i, none⟩) (by simp) (.int .i64 (2 * at_ rs q - (at2 bs i).2 - incS ls on rs i k - at_ rs k))).drew
                clear hok h1 h2 hr
                go_wp2_with fail
                go_big_region
                generalize (w6.setCell ⟨w.heap.size + 1, i, none⟩ (.int .i64 (2 * at_ rs q - (at2 bs i).2 - incS ls on rs i k - at_ rs k))).drew = w7 at *
                clear x1 x2 hr'
                go_wp2_with fail
                go_roundw
                case rel => exact ⟨k + 1, by omega, by go_num, by rw [HS.out, show 2 * at_ rs q - (at2 bs i).2 - (incS ls on rs i k + at_ rs k) = 2 * at_ rs q - (at2 bs i).2 - incS ls on rs i k - at_ rs k by omega]; exact O4, B4, K4⟩
                case measure => simp [intOf]; omega
              · have HS := hide (show incS ls on rs i (k + 1) = incS ls on rs i k by simp [incS, h2])
                have hge : decide (0 ≤ otherF (at3 ls k) i) = false := by simp; omega
                clear hok h1 h2
                go_wp2_with fail
                go_roundw
                case rel => exact ⟨k + 1, by omega, by go_num, by rw [HS.out]; exact O3, B3, K3⟩
                case measure => simp [intOf]; omega
          · obtain rfl : k = ls.length := by omega
            have HM := hide (midL_set (ls := ls) (on := on) (rs := rs) (ps := ps) hib)
            rw [← HRES.out, HM.out] at HO
            go_wp2_with fail
            go_roundw
            case rel => exact ⟨i + 1, by omega, by go_num, HO, HB, HK⟩
            case measure => simp [intOf]; omega
    · obtain rfl : i = ps.length := by omega
      have HM := hide (midL_all (ls := ls) (on := on) (bs := bs) (rs := rs) (ps := ps))
      have HPB := hide (show ps.length = bs.length by omega)
      have HRL := hide (resL_len ls on bs rs ps)
      rw [HPB.out, HM.out] at HO
      go_wp2_with fail
      go_ret
      exact ⟨_, some ⟨w.heap.size + 1, 0, none⟩, bs.length, rfl, by rw [HRL.out]; rfl, by rw [HRL.out]; exact own_mono HO.out (by omega), HK.out⟩

end Go.Proofs.YtbebhbcjdiahcaaDoor
