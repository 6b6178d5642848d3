/-
  The lines through which buses are fed: what the reference's function computes.
-/
import Derived.Test.YtbebhbcjdiahcaaDoorResP
import Derived.Test.YtbebhbcjdiahcaaDoorAppAny
import Derived.Test.YtbebhbcjdiahcaaDoorBut
namespace Go.Proofs.YtbebhbcjdiahcaaDoor
open Go.RowKit
set_option linter.unusedVariables false

theorem take_snoc_at {xs : List Int} {k : Nat} (h : k < xs.length) : xs.take k ++ [at_ xs k] = xs.take (k + 1) := by
  rw [at_eq xs k h, List.take_succ_eq_append_getElem h]

set_option maxRecDepth 8000 in
set_option maxHeartbeats 4000000 in
theorem l6Parents_any (nb : Nat) (A D B : Option Addr) (c d f : Nat) (ls : List (Int × Int × Int)) (on : List Bool) (bs : List (Int × Int)) (w : World) (h : Sl w w.heap.size 3 A ls.length (enc3 ls)) (g : Sl w w.heap.size 1 D ls.length (encB on)) (hon : on.length = ls.length) (s : Sl w w.heap.size 2 B bs.length (enc2 bs)) (hf : fedB nb ls on.length bs = true) :
    Calls Tryd.prog 28 #[.agg #[.int .i64 nb, .slice A ls.length c], .slice D ls.length d, .slice B bs.length f] w (MadeInts (fun ps => PL ls on bs ps) w) := by
  obtain ⟨hv, _, hbl, hok⟩ := fedB_true hf
  obtain ⟨⟨n1, n2⟩, n3⟩ := net_len hv
  have hb1 : bs.length ≤ nb := by omega
  have hb2 : nb ≤ bs.length := by omega
  have HBN := hide (show bs.length = nb by omega)
  have hsz : (w.alloc (.cells #[.int .i64 nb, .slice A ls.length c] 25)).heap.size = w.heap.size + 1 := by simp
  have B0 := hide ((Blk.new w 25 #[.int .i64 nb, .slice A ls.length c]).alloc (.cells #[] 3))
  have K0 := hide (((Below.refl _ w).alloc (Nat.le_refl _) (.cells #[.int .i64 nb, .slice A ls.length c] 25)).alloc (by omega) (.cells #[] 3))
  have ho0 := World.ownsRow_lit (base := w.heap.size + 1) (e := 3) (size := 1) (w.alloc (.cells #[.int .i64 nb, .slice A ls.length c] 25)) #[] 0 (by simp) (by unfold maxLen; omega) rfl
  rw [hsz] at ho0
  have O0 := hide ho0
  have hz0 : w.heap.size + 2 ≤ ((w.alloc (.cells #[.int .i64 nb, .slice A ls.length c] 25)).alloc (.cells #[] 3)).heap.size := by simp
  have hpl : (par0 bs).length = bs.length := by simp [par0]
  have HPL := hide hpl
  have HV := hide hv
  have HH := hide h
  have GG := hide g
  have SS := hide s
  have HOK := hide hok
  clear hv h g s hf hbl hsz ho0 hok hpl
  go_enter Tryd.func28, Tryd.ntmps28
  go_wp2_with fail
  go_loopw [7, 8] (fun o x wr => ∃ (k : Nat) (E : Option Addr) (e : Nat), k ≤ nb ∧ o = .slice E k e ∧ x = .int .i64 k ∧ w.heap.size + 2 ≤ wr.heap.size ∧ Hid (wr.ownsRow (w.heap.size + 1) 3 1 (.slice E k e) k (encI ((par0 bs).take k))) ∧ Hid (Blk wr w.heap.size 25 #[.int .i64 nb, .slice A ls.length c]) ∧ Hid (Below w.heap.size w wr)) (fun _ x _ => nb - (intOf x).toNat)
  case atStart => exact ⟨0, _, 0, Nat.zero_le _, rfl, rfl, hz0, O0, B0, K0⟩
  case round =>
    clear O0 B0 K0 hz0
    obtain ⟨k, E, e, hk, rfl, rfl, hz, HO, HB, HK⟩ := hrel
    obtain ⟨g0, g1⟩ := HB.out.two
    by_cases hlt : k < nb
    · obtain ⟨b0, o0, rfl, hb, hd0, hd1⟩ := SS.out.two k (by omega)
      have d0 := (HK.out.cell (p := ⟨b0, o0 + k * 2, none⟩) hb).trans hd0
      have i0 : (0 : Int) ≤ k := by omega
      have i1 : (k : Int) < bs.length := by omega
      have hpa := par0_at (bs := bs) (x := k) (by omega)
      have hsn := take_snoc_at (xs := par0 bs) (k := k) (by rw [HPL.out]; omega)
      have hz3 : w.heap.size + 1 ≤ wr.heap.size := by omega
      clear hd0 hd1
      by_cases hfd : 0 < (at2 bs k).1
      · have hdc : decide (0 < (at2 bs k).1) = true := by simp [hfd]
        rw [if_pos hfd] at hpa
        rw [hpa] at hsn
        have HSN := hide hsn
        clear hfd hpa hsn
        go_wp2_with (at_builtin; refine app_int wr rfl (.tmp 25) (.tmp 26) rfl (w.heap.size + 1) E k e ((par0 bs).take k) (-1) rfl HO.out wr.heap.size rfl rfl hz3 (by omega) ?_; intro D2 d2 w3 ho3 hg3; rw [HSN.out] at ho3)
        have K3 := hide (HK.out.trans ((grown_below HO.out hg3 hz3).mono (by omega)))
        have B3 := hide (HB.out.below (grown_below HO.out hg3 hz3) (by omega))
        have O3 := hide ho3
        have hs3 := hg3.size
        clear ho3 hg3
        go_roundw
        case rel => exact ⟨k + 1, D2, d2, by omega, rfl, by go_num, by omega, O3, B3, K3⟩
        case measure => simp [intOf]; omega
      · have hdc : decide (0 < (at2 bs k).1) = false := by simp; omega
        rw [if_neg hfd] at hpa
        rw [hpa] at hsn
        have HSN := hide hsn
        clear hfd hpa hsn
        go_wp2_with (at_builtin; refine app_int wr rfl (.tmp 28) (.tmp 29) rfl (w.heap.size + 1) E k e ((par0 bs).take k) (-2) rfl HO.out wr.heap.size rfl rfl hz3 (by omega) ?_; intro D2 d2 w3 ho3 hg3; rw [HSN.out] at ho3)
        have K3 := hide (HK.out.trans ((grown_below HO.out hg3 hz3).mono (by omega)))
        have B3 := hide (HB.out.below (grown_below HO.out hg3 hz3) (by omega))
        have O3 := hide ho3
        have hs3 := hg3.size
        clear ho3 hg3
        go_roundw
        case rel => exact ⟨k + 1, D2, d2, by omega, rfl, by go_num, by omega, O3, B3, K3⟩
        case measure => simp [intOf]; omega
    · obtain rfl : k = nb := by omega
      have htk : (par0 bs).take k = par0 bs := List.take_of_length_le (by rw [HPL.out]; omega)
      rw [htk] at HO
      obtain ⟨q, cq, hE, _, _⟩ := HO.out.form (by omega)
      cases hE
      have hqb : w.heap.size + 1 ≤ q := (HO.out.lt _ rfl).1
      clear htk
      go_wp2_with fail
      go_loopw [9] (fun x wr => ∃ (t : Nat) (ps : List Int), t ≤ k ∧ x = .int .i64 t ∧ Hid (GotP ls on bs t ps) ∧ Hid (WP ls on bs ps) ∧ Hid (wr.ownsRow (w.heap.size + 1) 3 1 (.slice (some ⟨q, 0, none⟩) k e) k (encI ps)) ∧ Hid (Blk wr w.heap.size 25 #[.int .i64 k, .slice A ls.length c]) ∧ Hid (Below w.heap.size w wr)) (fun x _ => k - (intOf x).toNat)
      case atStart => exact ⟨0, par0 bs, Nat.zero_le _, rfl, hide GotP.start, hide (WP.start ls on bs), HO, HB, HK⟩
      case round =>
        clear HO HB HK g0 g1 hz
        obtain ⟨t, ps, ht, rfl, HG, HW, HO, HB, HK⟩ := hrel
        obtain ⟨g0, g1⟩ := HB.out.two
        by_cases hlt2 : t < k
        · go_wp2_with fail
          go_loopw [10] (fun x wr => ∃ (j : Nat) (qs : List Int), j ≤ ls.length ∧ x = .int .i64 j ∧ Hid (PassP ls on ps qs j) ∧ Hid (WP ls on bs qs) ∧ Hid (wr.ownsRow (w.heap.size + 1) 3 1 (.slice (some ⟨q, 0, none⟩) k e) k (encI qs)) ∧ Hid (Blk wr w.heap.size 25 #[.int .i64 k, .slice A ls.length c]) ∧ Hid (Below w.heap.size w wr)) (fun x _ => ls.length - (intOf x).toNat)
          case atStart => exact ⟨0, ps, Nat.zero_le _, rfl, hide (PassP.zero ps), HW, HO, HB, HK⟩
          case round =>
            clear HW HO HB HK g0 g1
            obtain ⟨j, qs, hj, rfl, HP, HW, HO, HB, HK⟩ := hrel
            obtain ⟨g0, g1⟩ := HB.out.two
            by_cases hkl : j < ls.length
            · obtain ⟨b0, o0, rfl, hb, hd0, hd1, hd2⟩ := HH.out.three j hkl
              obtain ⟨b1, o1, rfl, hbb, he⟩ := GG.out.boolL hon j hkl
              have d0 := (HK.out.cell (p := ⟨b0, o0 + j * 3, none⟩) hb).trans hd0
              have d1 := (HK.out.cell (p := ⟨b0, o0 + j * 3 + 1, none⟩) hb).trans hd1
              have d2 := (HK.out.cell (p := ⟨b0, o0 + j * 3 + 2, none⟩) hb).trans hd2
              have e0 := (HK.out.cell (p := ⟨b1, o1 + j, none⟩) hbb).trans he
              have hz3 := HK.out.size
              have hb0 : b0 < wr.heap.size := by omega
              have hb10 : b1 < wr.heap.size := by omega
              have hbq0 : b0 ≠ q := by omega
              have hbq1 : b1 ≠ q := by omega
              obtain ⟨m1, m2, m3, m4⟩ := net_at HV.out j hkl
              obtain ⟨x, hx⟩ := Int.eq_ofNat_of_zero_le m1.1
              obtain ⟨y, hy⟩ := Int.eq_ofNat_of_zero_le m2.1
              have HX := hide hx
              have HY := hide hy
              have hq : q < wr.heap.size := (HO.out.lt _ rfl).2
              have kk := (Below.refl _ wr).alloc (Nat.le_refl _) (.cells #[.int .i64 x, .int .i64 y, .int .i64 (at3 ls j).2.2] 60)
              have O2 := hide (HO.out.keepB kk)
              have B2 := hide (HB.out.to kk)
              have K2 := hide (HK.out.then kk)
              have L2 := hide (Blk.new wr 60 #[.int .i64 x, .int .i64 y, .int .i64 (at3 ls j).2.2])
              have hxn : x < k := by omega
              have hyn : y < k := by omega
              have j0 : (0 : Int) ≤ x := by omega
              have j1 : (x : Int) < k := by omega
              have j2 : (0 : Int) ≤ y := by omega
              have j3 : (y : Int) < k := by omega
              have q0 : (0 : Int) ≤ j := by omega
              have q1 : (j : Int) < ls.length := by omega
              rw [hx] at d0
              rw [hy] at d1
              have hql := HW.out.len
              have hxy : x ≠ y := by omega
              have y1 := O2.out.cellAt x (by omega)
              rw [encI_at _ x (by omega)] at y1
              have y2 := O2.out.cellAt y (by omega)
              rw [encI_at _ y (by omega)] at y2
              have y3 := O2.out.frozenAt x
              have y4 := O2.out.frozenAt y
              have hrx := HW.out.rng x (by omega)
              have hry := HW.out.rng y (by omega)
              have HQL := hide hql
              clear hd0 hd1 hd2 kk HB HK he m1 m2 m3 m4 hx hy hql
              cases ho : atB on j
              · have HON := hide ho
                rw [ho] at e0
                clear ho
                go_wp2_with fail
                go_roundw
                case rel => exact ⟨j + 1, qs, by omega, by go_num, hide (HP.out.skip fun ho => by unfold onP at ho; rw [HON.out] at ho; cases ho), HW, O2, B2, K2⟩
                case measure => simp [intOf]; omega
              · have HON := hide ho
                rw [ho] at e0
                clear ho
                by_cases hvx : -2 < at_ qs x <;> by_cases hvy : -2 < at_ qs y
                · have c1 : decide (-2 < at_ qs x) = true := by simp [hvx]
                  have c2 : decide (-2 < at_ qs y) = true := by simp [hvy]
                  have c3 : (at_ qs x == -2) = false := by simp; omega
                  have c4 : (at_ qs y == -2) = false := by simp; omega
                  have HSK := hide (HP.out.skip fun _ => by unfold VisP; rw [HX.out, HY.out, Int.toNat_natCast, Int.toNat_natCast]; exact ⟨fun _ => hvy, fun _ => hvx⟩)
                  clear hvx hvy
                  go_wp2_with fail
                  go_roundw
                  case rel => exact ⟨j + 1, qs, by omega, by go_num, HSK, HW, O2, B2, K2⟩
                  case measure => simp [intOf]; omega
                · have hye : at_ qs y = -2 := by omega
                  have c1 : decide (-2 < at_ qs x) = true := by simp [hvx]
                  have c3 : (at_ qs x == -2) = false := by simp; omega
                  rw [hye] at y2
                  have HP2 := hide (HP.out.set (x := x) (y := y) (.inl ⟨HX.out, HY.out⟩) (by have := HQL.out; omega) hvx)
                  have HW2 := hide (HW.out.set (x := x) (y := y) (.inl ⟨HX.out, HY.out⟩) hkl HON.out (by omega) (by omega) hvx hye)
                  have O3 := hide ((HO.out.stored y (.int .i64 j)).1.keepB ((Below.refl _ _).alloc (Nat.le_refl _) (.cells #[.int .i64 x, .int .i64 y, .int .i64 (at3 ls j).2.2] 60)))
                  rw [← encI_setU] at O3
                  have z1 := O3.out.cellAt x (by omega)
                  rw [encI_at _ x (by rw [List.length_set]; have := HQL.out; omega), at_setN _ _ _ _ (by have := HQL.out; omega), if_neg hxy] at z1
                  have z2 := O3.out.cellAt y (by omega)
                  rw [encI_at _ y (by rw [List.length_set]; have := HQL.out; omega), at_setN _ _ _ _ (by have := HQL.out; omega), if_pos rfl] at z2
                  have L3 := hide (L2.out.far (p := ⟨q, y, none⟩) (by simp; omega) (.int .i64 (j : Int)))
                  have B3 := hide (B2.out.far (p := ⟨q, y, none⟩) (by simp; omega) (.int .i64 (j : Int)))
                  have K3 := hide (K2.out.setCell (p := ⟨q, y, none⟩) (by show w.heap.size ≤ q; omega) (.int .i64 (j : Int)))
                  have hp1 := fun (o : Obj) (v : Value) => World.setCell_alloc_past (w := wr) o q y v hq
                  rw [hp1] at L3 B3 K3
                  have e3 := (K3.out.cell (p := ⟨b1, o1 + j, none⟩) hbb)
                  rw [(K2.out.cell (p := ⟨b1, o1 + j, none⟩) hbb).symm.trans ((World.cell?_alloc_lt wr _ ⟨b1, o1 + j, none⟩ hb10).trans e0)] at e3
                  obtain ⟨l0, l1, l2⟩ := L3.out.three
                  clear hvx hvy hye O2 B2 K2 hp1 L2
                  go_wp2_with fail
                  go_roundw
                  case rel => exact ⟨j + 1, _, by omega, by go_num, HP2, HW2, O3, B3, K3⟩
                  case measure => simp [intOf]; omega
                · have hxe : at_ qs x = -2 := by omega
                  have c2 : decide (-2 < at_ qs y) = true := by simp [hvy]
                  have c4 : (at_ qs y == -2) = false := by simp; omega
                  rw [hxe] at y1
                  have HP2 := hide (HP.out.set (x := y) (y := x) (.inr ⟨HX.out, HY.out⟩) (by have := HQL.out; omega) hvy)
                  have HW2 := hide (HW.out.set (x := y) (y := x) (.inr ⟨HX.out, HY.out⟩) hkl HON.out (by omega) (by omega) hvy hxe)
                  have O3 := hide ((HO.out.stored x (.int .i64 j)).1.keepB ((Below.refl _ _).alloc (Nat.le_refl _) (.cells #[.int .i64 x, .int .i64 y, .int .i64 (at3 ls j).2.2] 60)))
                  rw [← encI_setU] at O3
                  have B3 := hide (B2.out.far (p := ⟨q, x, none⟩) (by simp; omega) (.int .i64 (j : Int)))
                  have K3 := hide (K2.out.setCell (p := ⟨q, x, none⟩) (by show w.heap.size ≤ q; omega) (.int .i64 (j : Int)))
                  have hp1 := fun (o : Obj) (v : Value) => World.setCell_alloc_past (w := wr) o q x v hq
                  rw [hp1] at B3 K3
                  clear hvx hvy hxe O2 B2 K2 hp1 L2
                  go_wp2_with fail
                  go_roundw
                  case rel => exact ⟨j + 1, _, by omega, by go_num, HP2, HW2, O3, B3, K3⟩
                  case measure => simp [intOf]; omega
                · have hxe : at_ qs x = -2 := by omega
                  have hye : at_ qs y = -2 := by omega
                  rw [hxe] at y1
                  rw [hye] at y2
                  have HSK := hide (HP.out.skip fun _ => by unfold VisP; rw [HX.out, HY.out, Int.toNat_natCast, Int.toNat_natCast]; exact ⟨fun h => absurd h hvx, fun h => absurd h hvy⟩)
                  clear hvx hvy hxe hye
                  go_wp2_with fail
                  go_roundw
                  case rel => exact ⟨j + 1, qs, by omega, by go_num, HSK, HW, O2, B2, K2⟩
                  case measure => simp [intOf]; omega
            · obtain rfl : j = ls.length := by omega
              go_wp2_with fail
              go_roundw
              case rel => exact ⟨t + 1, qs, by omega, by go_num, hide (HG.out.next HV.out HBN.out HP.out), HW, HO, HB, HK⟩
              case measure => simp [intOf]; omega
        · obtain rfl : t = k := by omega
          have HPL2 := hide (HW.out.done HV.out HBN.out HG.out)
          have hlen : ps.length = t := by have := HW.out.len; omega
          have HLN := hide hlen
          clear hlen
          go_wp2_with fail
          go_ret
          exact ⟨ps, some ⟨q, 0, none⟩, e, HPL2.out, by rw [HLN.out]; rfl, by rw [HLN.out]; exact own_mono HO.out (by omega), HK.out⟩

end Go.Proofs.YtbebhbcjdiahcaaDoor
