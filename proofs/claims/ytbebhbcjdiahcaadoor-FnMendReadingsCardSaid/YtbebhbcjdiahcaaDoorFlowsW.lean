/-
  Flows of a radial network: what the program's functions compute.
-/
import Derived.Test.YtbebhbcjdiahcaaDoorFlowsP
import Derived.Test.YtbebhbcjdiahcaaDoorBut
import Derived.BigRegion
import Derived.Deep.RegionHeld3
import Derived.Deep.RegionWith
namespace Go.Proofs.YtbebhbcjdiahcaaDoor
open Go.RowKit
set_option linter.unusedVariables false

set_option maxHeartbeats 2000000 in
theorem above_any (nb y k : Nat) (A F P O : Option Addr) (c fn fc pc on_ oc : Nat) (ls : List (Int × Int × Int)) (ps : List Int) (w : World) (h : Sl w w.heap.size 3 A ls.length (enc3 ls)) (p : Sl w w.heap.size 1 P ps.length (encI ps)) (hy : y < ps.length) (hk : at_ ps y = k) (hkl : k < ls.length) :
    Calls Tryd.prog 79 #[.agg #[.int .i64 nb, .slice A ls.length c, .slice F fn fc, .slice P ps.length pc, .slice O on_ oc], .int .i64 y] w fun e w' => e = .returned (.int .i64 (otherF (at3 ls k) y)) ∧ Below w.heap.size w w' := by
  have B0 := Blk.new w 47 #[.int .i64 nb, .slice A ls.length c, .slice F fn fc, .slice P ps.length pc, .slice O on_ oc]
  have K0 := hide ((Below.refl _ w).alloc (Nat.le_refl _) (.cells #[.int .i64 nb, .slice A ls.length c, .slice F fn fc, .slice P ps.length pc, .slice O on_ oc] 47))
  obtain ⟨b0, o0, rfl, hb, hd0, hd1, hd2⟩ := h.three k hkl
  obtain ⟨b1, o1, rfl, hb1, he⟩ := p.int y hy
  rw [hk] at he
  have d0 := (K0.out.cell (p := ⟨b0, o0 + k * 3, none⟩) hb).trans hd0
  have d1 := (K0.out.cell (p := ⟨b0, o0 + k * 3 + 1, none⟩) hb).trans hd1
  have d2 := (K0.out.cell (p := ⟨b0, o0 + k * 3 + 2, none⟩) hb).trans hd2
  have e0 := (K0.out.cell (p := ⟨b1, o1 + y, none⟩) hb1).trans he
  have i0 : (0 : Int) ≤ y := by omega
  have i1 : (y : Int) < ps.length := by omega
  have k0 : (0 : Int) ≤ k := by omega
  have k1 : (k : Int) < ls.length := by omega
  have x1 := B0.cell 1
  have x3 := B0.cell 3
  clear hd0 hd1 hd2 he h p B0
  generalize hw1 : w.alloc (.cells #[.int .i64 nb, .slice (some ⟨b0, o0, none⟩) ls.length c, .slice F fn fc, .slice (some ⟨b1, o1, none⟩) ps.length pc, .slice O on_ oc] 47) = w1 at *
  have HW1 := hide hw1
  clear hw1
  go_enter Tryd.func79, Tryd.ntmps79
  go_wp2_with fail
  rw [HW1.out]
  go_region_held3 (fun w' => w'.cell? ⟨w.heap.size, 1, none⟩ = some (.slice (some ⟨b0, o0, none⟩) ls.length c) ∧ w'.cell? ⟨w.heap.size, 3, none⟩ = some (.slice (some ⟨b1, o1, none⟩) ps.length pc) ∧ w'.cell? ⟨b1, o1 + y, none⟩ = some (.int .i64 k) ∧ w'.cell? ⟨b0, o0 + k * 3, none⟩ = some (.int .i64 (at3 ls k).1) ∧ w'.cell? ⟨b0, o0 + k * 3 + 1, none⟩ = some (.int .i64 (at3 ls k).2.1) ∧ w'.cell? ⟨b0, o0 + k * 3 + 2, none⟩ = some (.int .i64 (at3 ls k).2.2))
    (first | go_keep | (refine ⟨cellk hb5 ?_, cellk hb5 ?_, cellk hb5 ?_, cellk hb5 ?_, cellk hb5 ?_, cellk hb5 ?_⟩ <;> go_keep))
    ((go_at_call 51; refine (other_any _ _ _).mono ?_; rintro e w5 ⟨rfl, hb5⟩))
  go_wp2_with fail
  go_ret
  exact ⟨rfl, (K0.out.drew).then hb5⟩

theorem not_done_up {ls : List (Int × Int × Int)} {bs : List (Int × Int)} {ps ord : List Int} {i y u k : Nat} (hor : OrdR ls bs ps ord) (hi : i < ord.length) (hy : at_ ord i = y) (hk : at_ ps y = k) (he : Ends ls k u y) : ¬ DoneP ord (i + 1) u := by
  rintro ⟨j, h1, h2, h3⟩
  obtain ⟨q, x, h4, h5, h6⟩ := hor.bk i y hi hy (by omega)
  rw [hk, Int.toNat_natCast] at h6
  have : x = u := by rcases he with ⟨a1, a2⟩ | ⟨a1, a2⟩ <;> rcases h6 with ⟨b1, b2⟩ | ⟨b1, b2⟩ <;> omega
  subst this
  have := nodup_at hor.nod (show q < ord.length by omega) h2 (by omega)
  omega
theorem FL.smallU {ls : List (Int × Int × Int)} {on : List Bool} {bs : List (Int × Int)} {ps ord fl wt : List Int} {i u : Nat} (h : FL ls on bs ps ord i fl wt) (hn : ¬ DoneP ord i u) (hu : u < bs.length) : at_ wt u ≤ 999 * ((ord.length : Int) - i) := by
  have := (sumF_ge (f := fun x => @ite _ (DoneP ord i x) (Classical.propDecidable _) (0 : Int) (at_ wt x)) bs.length fun x hx => by
    by_cases hd : DoneP ord i x
    · simp [hd]
    · simp [hd]; exact h.pos x hx).2 u hu
  rw [if_neg hn] at this
  have := h.bnd
  omega

set_option maxRecDepth 8000 in
set_option maxHeartbeats 4000000 in
theorem flowsT_any (nb : Nat) (A F P O B : Option Addr) (c fn fc pc oc f : Nat) (ls : List (Int × Int × Int)) (on : List Bool) (bs : List (Int × Int)) (ps ord : List Int) (w : World)
    (h : Sl w w.heap.size 3 A ls.length (enc3 ls)) (s : Sl w w.heap.size 2 B bs.length (enc2 bs)) (p : Sl w w.heap.size 1 P ps.length (encI ps)) (o : Sl w w.heap.size 1 O ord.length (encI ord))
    (hf : fedB nb ls on.length bs = true) (hp : PL ls on bs ps) (hc : ¬ Cyc ls (onP on)) (ho1 : OneF ls on bs) (hor : OrdR ls bs ps ord) :
    Calls Tryd.prog 63 #[.agg #[.int .i64 nb, .slice A ls.length c, .slice F fn fc, .slice P ps.length pc, .slice O ord.length oc], .slice B bs.length f] w (MadeInts (FlowG ls on bs ps) w) := by
  obtain ⟨hv, _, hbl, hok⟩ := fedB_true hf
  obtain ⟨⟨n1, n2⟩, n3⟩ := net_len hv
  have hb8 : bs.length ≤ 8 := by omega
  have hol := nodup_len bs.length ord hor.nod (fun x hx => by have := hor.rng x hx; omega)
  have hpl := hp.len
  have hpl1 : ps.length ≤ bs.length := by omega
  have hpl2 : bs.length ≤ ps.length := by omega
  have hmk1 := run_make_z (P := Tryd.prog) 28 3 _ 1 8 Tryd.underlying28 infoI rfl (by omega) ls.length ls.length (Nat.le_refl _) (by omega) (by omega)
  have hmk2 := run_make_z (P := Tryd.prog) 28 3 _ 1 8 Tryd.underlying28 infoI rfl (by omega) bs.length bs.length (Nat.le_refl _) (by omega) (by omega)
  simp only [Nat.mul_one] at hmk1 hmk2
  have e1 : (w.alloc (.cells #[.int .i64 nb, .slice A ls.length c, .slice F fn fc, .slice P ps.length pc, .slice O ord.length oc] 47)).heap.size = w.heap.size + 1 := by simp
  have e2 : ((w.alloc (.cells #[.int .i64 nb, .slice A ls.length c, .slice F fn fc, .slice P ps.length pc, .slice O ord.length oc] 47)).alloc (.cells (zrow ls.length) 3)).heap.size = w.heap.size + 2 := by simp
  have F0 := (World.ownsRow_lit (base := w.heap.size + 1) (e := 3) (size := 1) (w.alloc (.cells #[.int .i64 nb, .slice A ls.length c, .slice F fn fc, .slice P ps.length pc, .slice O ord.length oc] 47)) (zrow ls.length) ls.length (by simp) (by unfold maxLen; omega) (by simp [zrow])).alloc (.cells (zrow bs.length) 3)
  have W0 := World.ownsRow_lit (base := w.heap.size + 1) (e := 3) (size := 1) ((w.alloc (.cells #[.int .i64 nb, .slice A ls.length c, .slice F fn fc, .slice P ps.length pc, .slice O ord.length oc] 47)).alloc (.cells (zrow ls.length) 3)) (zrow bs.length) bs.length (by simp) (by unfold maxLen; omega) (by simp [zrow])
  rw [e1, show (zrow ls.length).toList = encI (List.replicate ls.length 0) by simp [zrow, encI]] at F0
  rw [e2, show (zrow bs.length).toList = encI (List.replicate bs.length 0) by simp [zrow, encI]] at W0
  have HF0 := hide F0
  have HW0 := hide W0
  have B0 := hide (((Blk.new w 47 #[.int .i64 nb, .slice A ls.length c, .slice F fn fc, .slice P ps.length pc, .slice O ord.length oc]).alloc (.cells (zrow ls.length) 3)).alloc (.cells (zrow bs.length) 3))
  have K0 := hide ((((Below.refl _ w).alloc (Nat.le_refl _) (.cells #[.int .i64 nb, .slice A ls.length c, .slice F fn fc, .slice P ps.length pc, .slice O ord.length oc] 47)).alloc (by omega) (.cells (zrow ls.length) 3)).alloc (by omega) (.cells (zrow bs.length) 3))
  have HH := hide h
  have SS := hide s
  have PP := hide p
  have OO := hide o
  have HV := hide hv
  have HP := hide hp
  have HCY := hide hc
  have HONE := hide ho1
  have HOR := hide hor
  have HOK := hide hok
  have HBN := hide (show bs.length = nb by omega)
  clear F0 W0 e1 e2 h s p o hv hp hc ho1 hor hok hf hbl hpl
  go_enter Tryd.func63, Tryd.ntmps63
  go_wp2_with fail
  go_loopw [7] (fun x wr => ∃ (i : Nat) (fl wt : List Int), i ≤ ord.length ∧ x = .int .i64 ((i : Int) - 1) ∧ Hid (FL ls on bs ps ord i fl wt) ∧ Hid (wr.ownsRow (w.heap.size + 1) 3 1 (.slice (some ⟨w.heap.size + 1, 0, none⟩) ls.length ls.length) ls.length (encI fl)) ∧ Hid (wr.ownsRow (w.heap.size + 1) 3 1 (.slice (some ⟨w.heap.size + 2, 0, none⟩) bs.length bs.length) bs.length (encI wt)) ∧ Hid (Blk wr w.heap.size 47 #[.int .i64 nb, .slice A ls.length c, .slice F fn fc, .slice P ps.length pc, .slice O ord.length oc]) ∧ Hid (Below w.heap.size w wr)) (fun x _ => (intOf x + 1).toNat)
  case atStart => exact ⟨ord.length, _, _, Nat.le_refl _, rfl, hide FL.start, HF0, HW0, B0, K0⟩
  case round =>
    clear HF0 HW0 B0 K0 hmk1 hmk2
    obtain ⟨i, fl, wt, hi, rfl, HFL, HF, HW, HB, HK⟩ := hrel
    have t0 : wr.cell? ⟨w.heap.size, 0, none⟩ = some (.int .i64 nb) := HB.out.cell 0
    have t1 : wr.cell? ⟨w.heap.size, 1, none⟩ = some (.slice A ls.length c) := HB.out.cell 1
    have t2 : wr.cell? ⟨w.heap.size, 2, none⟩ = some (.slice F fn fc) := HB.out.cell 2
    have t3 : wr.cell? ⟨w.heap.size, 3, none⟩ = some (.slice P ps.length pc) := HB.out.cell 3
    have t4 : wr.cell? ⟨w.heap.size, 4, none⟩ = some (.slice O ord.length oc) := HB.out.cell 4
    cases i with
    | zero =>
      have HG := hide (HFL.out.done HP.out HOR.out)
      have hfl : fl.length = ls.length := HFL.out.lf
      have HFLL := hide hfl
      clear hfl
      go_wp2_with fail
      go_ret
      exact ⟨fl, some ⟨w.heap.size + 1, 0, none⟩, ls.length, HG.out, by rw [HFLL.out]; rfl, by rw [HFLL.out]; exact own_mono HF.out (by omega), HK.out⟩
    | succ j =>
      rw [show ((j + 1 : Nat) : Int) - 1 = j by omega]
      have hjl : j < ord.length := by omega
      have hyr := HOR.out.rng _ (mem_at j hjl)
      obtain ⟨y, hy⟩ := Int.eq_ofNat_of_zero_le hyr.1
      have hyb : y < bs.length := by omega
      obtain ⟨b0, o0, hO, hb0, hd⟩ := OO.out.int j hjl
      subst hO
      rw [hy] at hd
      have d0 := (HK.out.cell (p := ⟨b0, o0 + j, none⟩) hb0).trans hd
      obtain ⟨b1, o1, hB, hb1, hc0, hc1⟩ := SS.out.two y hyb
      subst hB
      have c1 := (HK.out.cell (p := ⟨b1, o1 + y * 2 + 1, none⟩) hb1).trans hc1
      obtain ⟨b2, o2, hP, hb2, hq⟩ := PP.out.int y (by omega)
      subst hP
      have hfl := HFL.out.lf
      have hwl := HFL.out.lw
      have x1 := HW.out.cellAt y (by omega)
      rw [encI_at wt y (by omega)] at x1
      have x2 := HW.out.frozenAt y
      obtain ⟨l1, l2⟩ : 0 ≤ (at2 bs y).2 ∧ (at2 bs y).2 ≤ 999 := by
        have := HOK.out y hyb
        simp only [busOk, Bool.and_eq_true] at this
        exact inB_true this.2
      have sm := HFL.out.small HOR.out.nod hjl hy hyb
      have ps0 := HFL.out.pos y hyb
      have hw1 : IntKind.i64.wrap (at_ wt y + (at2 bs y).2) = at_ wt y + (at2 bs y).2 := IntWalk.i64_in _ (by omega)
      have i0 : (0 : Int) ≤ j := by omega
      have i1 : (j : Int) < ord.length := by omega
      have y0 : (0 : Int) ≤ y := by omega
      have y1 : (y : Int) < bs.length := by omega
      have y2 : (y : Int) < ps.length := by omega
      have W1 := hide (((HW.out.stored y (.int .i64 (at_ wt y + (at2 bs y).2))).1).keepB (Below.refl _ _).drew)
      rw [← encI_setU] at W1
      have s1 : But (fun x => x = w.heap.size + 2) wr (wr.setCell ⟨w.heap.size + 2, y, none⟩ (.int .i64 (at_ wt y + (at2 bs y).2))).drew := ((But.refl (fun x => x = w.heap.size + 2) wr).setCell ⟨w.heap.size + 2, y, none⟩ (.int .i64 (at_ wt y + (at2 bs y).2)) fun _ => rfl).drew
      have F1 := hide (s1.own HF.out (fun g hg he => by
        have : w.heap.size + 1 = g := by simpa [Value.ownBlock] using hg
        omega))
      have B1 := hide (s1.blk HB.out (by omega))
      have K1 := hide ((HK.out.setCell (p := ⟨w.heap.size + 2, y, none⟩) (by simp) (.int .i64 (at_ wt y + (at2 bs y).2))).drew)
      have HY := hide hy
      clear hd hc0 hc1 hyr hy s1
      go_wp2_with fail
      go_big_region
      generalize (wr.setCell ⟨w.heap.size + 2, y, none⟩ (.int .i64 (at_ wt y + (at2 bs y).2))).drew = w3 at *
      clear d0 c1 x1 x2 t0 t1 t2 t3 t4 HF HW HB HK
      have t0 : w3.cell? ⟨w.heap.size, 0, none⟩ = some (.int .i64 nb) := B1.out.cell 0
      have t1 : w3.cell? ⟨w.heap.size, 1, none⟩ = some (.slice A ls.length c) := B1.out.cell 1
      have t2 : w3.cell? ⟨w.heap.size, 2, none⟩ = some (.slice F fn fc) := B1.out.cell 2
      have t3 : w3.cell? ⟨w.heap.size, 3, none⟩ = some (.slice (some ⟨b2, o2, none⟩) ps.length pc) := B1.out.cell 3
      have t4 : w3.cell? ⟨w.heap.size, 4, none⟩ = some (.slice (some ⟨b0, o0, none⟩) ord.length oc) := B1.out.cell 4
      have q0 := (K1.out.cell (p := ⟨b2, o2 + y, none⟩) hb2).trans hq
      by_cases hneg : at_ ps y < 0
      · have hge : decide (0 ≤ at_ ps y) = false := by simp; omega
        have HFL2 := hide (HFL.out.feed HOR.out.nod hjl HY.out hyb ⟨l1, l2⟩ hneg)
        clear hneg
        go_wp2_with fail
        go_roundw
        case rel => exact ⟨j, fl, _, by omega, by go_num, HFL2, F1, W1, B1, K1⟩
        case measure => simp [intOf] <;> omega
      · obtain ⟨k, hk⟩ := Int.eq_ofNat_of_zero_le (show 0 ≤ at_ ps y by omega)
        have hge : decide (0 ≤ (k : Int)) = true := by simp
        obtain ⟨hk1, _, _⟩ := HP.out.inc hyb (show 0 ≤ at_ ps y by omega)
        obtain ⟨u, hub, he, _⟩ := HP.out.up HV.out HBN.out HCY.out HONE.out hyb (show 0 ≤ at_ ps y by omega)
        rw [hk, Int.toNat_natCast] at hk1 he
        obtain ⟨m1, m2, m3, _⟩ := net_at HV.out k hk1
        have huy : u ≠ y := by rintro rfl; rcases he with ⟨a1, a2⟩ | ⟨a1, a2⟩ <;> omega
        have hou : otherF (at3 ls k) y = u := of_ends (he.elim (fun h => .inr h) (fun h => .inl h))
        have HFL2 := hide (HFL.out.push HP.out HCY.out HONE.out HOR.out (by omega) hjl HY.out hyb hub ⟨l1, l2⟩ hk he huy)
        rw [hk] at q0
        have psu := HFL.out.pos u hub
        have smu := HFL.out.smallU (not_done_up HOR.out hjl HY.out hk he) hub
        have F3 := hide (((F1.out.stored k (.int .i64 (at_ wt y + (at2 bs y).2))).1))
        rw [← encI_setU] at F3
        have s3 : But (fun x => x = w.heap.size + 1) w3 (w3.setCell ⟨w.heap.size + 1, k, none⟩ (.int .i64 (at_ wt y + (at2 bs y).2))) := (But.refl (fun x => x = w.heap.size + 1) w3).setCell ⟨w.heap.size + 1, k, none⟩ (.int .i64 (at_ wt y + (at2 bs y).2)) fun _ => rfl
        have W3 := hide (s3.own W1.out (fun g hg he => by
          have : w.heap.size + 2 = g := by simpa [Value.ownBlock] using hg
          omega))
        have B3 := hide (s3.blk B1.out (by omega))
        have K3 := hide (K1.out.setCell (p := ⟨w.heap.size + 1, k, none⟩) (by simp) (.int .i64 (at_ wt y + (at2 bs y).2)))
        have x1 := F1.out.cellAt k (by omega)
        rw [encI_at fl k (by omega)] at x1
        have x2 := F1.out.frozenAt k
        have x3 := W1.out.cellAt y (by omega)
        rw [encI_at _ y (by rw [List.length_set]; omega), at_setN wt y y _ (by omega), if_pos rfl] at x3
        have k0 : (0 : Int) ≤ k := by omega
        have k1 : (k : Int) < ls.length := by omega
        have hw2 : IntKind.i64.wrap (at_ wt u + (at_ wt y + (at2 bs y).2)) = at_ wt u + (at_ wt y + (at2 bs y).2) := IntWalk.i64_in _ (by omega)
        have u0 : (0 : Int) ≤ u := by omega
        have u1 : (u : Int) < bs.length := by omega
        have HKY := hide hk
        clear s3 hk hneg he m1 m2 m3
        go_wp2_with fail
        generalize w3.setCell ⟨w.heap.size + 1, k, none⟩ (.int .i64 (at_ wt y + (at2 bs y).2)) = w4 at *
        clear x1 x2 x3 t0 t1 t2 t3 t4 q0 F1 W1 B1 K1
        have t0 : w4.cell? ⟨w.heap.size, 0, none⟩ = some (.int .i64 nb) := B3.out.cell 0
        have t1 : w4.cell? ⟨w.heap.size, 1, none⟩ = some (.slice A ls.length c) := B3.out.cell 1
        have t2 : w4.cell? ⟨w.heap.size, 2, none⟩ = some (.slice F fn fc) := B3.out.cell 2
        have t3 : w4.cell? ⟨w.heap.size, 3, none⟩ = some (.slice (some ⟨b2, o2, none⟩) ps.length pc) := B3.out.cell 3
        have t4 : w4.cell? ⟨w.heap.size, 4, none⟩ = some (.slice (some ⟨b0, o0, none⟩) ord.length oc) := B3.out.cell 4
        have x3 := W3.out.cellAt y (by omega)
        rw [encI_at _ y (by rw [List.length_set]; omega), at_setN wt y y _ (by omega), if_pos rfl] at x3
        have x4 := W3.out.cellAt u (by omega)
        rw [encI_at _ u (by rw [List.length_set]; omega), at_setN wt y u _ (by omega), if_neg huy] at x4
        have x5 := W3.out.frozenAt u
        have HU := hide hou
        have hlt4 : w.heap.size + 2 < w4.heap.size := (W3.out.lt _ rfl).2
        clear hou
        go_region_with (first | (go_at_call 79; refine (above_any nb y k _ _ _ _ _ _ _ _ _ _ ls ps _ ?_ ?_ (by omega) HKY.out hk1).mono ?_; exact HH.out.to (show Below w.heap.size w w4.drew from K3.out.drew); exact PP.out.to (show Below w.heap.size w w4.drew from K3.out.drew); rw [HU.out]; rintro e w5 ⟨rfl, hb5⟩; have v3 := cellk hb5 x3; have v4 := cellk hb5 x4; have v5 : w5.frozen? ⟨w.heap.size + 2, u, none⟩ = false := ((bcell hb5).2 _ _ hlt4).trans x5))
        all_goals
          have W5 := hide ((((show w4.drew.ownsRow _ _ _ _ _ _ from W3.out).keepB hb5).stored u (.int .i64 (at_ wt u + (at_ wt y + (at2 bs y).2)))).1)
          rw [← encI_setU] at W5
          have s5 : But (fun x => x = w.heap.size + 2) w5 (w5.setCell ⟨w.heap.size + 2, u, none⟩ (.int .i64 (at_ wt u + (at_ wt y + (at2 bs y).2)))) := (But.refl (fun x => x = w.heap.size + 2) w5).setCell ⟨w.heap.size + 2, u, none⟩ (.int .i64 (at_ wt u + (at_ wt y + (at2 bs y).2))) fun _ => rfl
          have F5 := hide (s5.own ((show w4.drew.ownsRow _ _ _ _ _ _ from F3.out).keepB hb5) (fun g hg he => by
            have : w.heap.size + 1 = g := by simpa [Value.ownBlock] using hg
            omega))
          have B5 := hide (s5.blk ((show Blk w4.drew _ _ _ from B3.out).to hb5) (by omega))
          have K5 := hide (((K3.out.drew).then hb5).setCell (p := ⟨w.heap.size + 2, u, none⟩) (by simp) (.int .i64 (at_ wt u + (at_ wt y + (at2 bs y).2))))
          clear s5
          go_wp2_with fail
          go_roundw
          case rel => exact ⟨j, _, _, by omega, by go_num, HFL2, F5, W5, B5, K5⟩
          case measure => simp [intOf] <;> omega

end Go.Proofs.YtbebhbcjdiahcaaDoor
