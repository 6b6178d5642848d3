/-
  The buses that are fed through a line: such a line is one through which a bus is fed.
-/
import Derived.Test.YtbebhbcjdiahcaaDoorLawFl
import Derived.Test.YtbebhbcjdiahcaaDoorSpecFl
namespace Go.Proofs.YtbebhbcjdiahcaaDoor
open Go.RowKit
set_option linter.unusedVariables false

theorem all_set {P : Int → Prop} {l : List Int} (h : ∀ z ∈ l, P z) {v : Int} (hv : P v) (k : Nat) : ∀ z ∈ l.set k v, P z := fun z hz => by
  rcases List.mem_or_eq_of_mem_set hz with h1 | h1
  · exact h z h1
  · rw [h1]; exact hv

set_option maxRecDepth 8000 in
set_option maxHeartbeats 4000000 in
theorem reverse_any (P : Int → Prop) (B : Nat) (D : Option Addr) (d : Nat) (l : List Int) (w : World) (ho : w.ownsRow B 3 1 (.slice D l.length d) l.length (encI l)) (hP : ∀ z ∈ l, P z) (hm : l.length ≤ 1048576) (hB : B ≤ w.heap.size) :
    Calls Tryd.prog 81 #[.slice D l.length d] w fun e w' => ∃ ys : List Int, (ys.length = l.length ∧ ∀ z ∈ ys, P z) ∧ e = .returned (.tuple #[]) ∧ w'.ownsRow B 3 1 (.slice D l.length d) l.length (encI ys) ∧ Below B w w' := by
  have HPP := hide hP
  have HO0 := hide ho
  clear hP ho
  go_enter Tryd.func81, Tryd.ntmps81
  go_wp2_with fail
  go_loopw [2, 3] (fun i j wr => ∃ (k : Nat) (ys : List Int), k ≤ l.length ∧ i = .int .i64 k ∧ j = .int .i64 ((l.length : Int) - 1 - k) ∧ B ≤ wr.heap.size ∧ Hid (ys.length = l.length ∧ ∀ z ∈ ys, P z) ∧ Hid (wr.ownsRow B 3 1 (.slice D l.length d) l.length (encI ys)) ∧ Hid (Below B w wr)) (fun i _ _ => l.length - (intOf i).toNat)
  case atStart => exact ⟨0, l, Nat.zero_le _, rfl, by go_num, hB, hide ⟨rfl, HPP.out⟩, HO0, hide (Below.refl _ _)⟩
  case round =>
    clear HO0
    obtain ⟨k, ys, hk, rfl, rfl, hz, HY, HO, HB⟩ := hrel
    by_cases hlt : 2 * k + 1 < l.length
    · obtain ⟨m, hmk⟩ : ∃ m : Nat, (l.length : Int) - 1 - k = m := ⟨l.length - 1 - k, by omega⟩
      have hkm : k < m := by omega
      have hml : m < l.length := by omega
      obtain ⟨q, cq, hM, _, _⟩ := HO.out.form (by omega)
      cases hM
      have hqb : B ≤ q := (HO.out.lt _ rfl).1
      have x1 := HO.out.cellAt k (by omega)
      rw [encI_at ys k (by rw [HY.out.1]; omega)] at x1
      have x2 := HO.out.cellAt m (by omega)
      rw [encI_at ys m (by rw [HY.out.1]; omega)] at x2
      have x3 := HO.out.frozenAt k
      have x4 := HO.out.frozenAt m
      have O1 := hide ((HO.out.stored k (.int .i64 (at_ ys m))).1)
      have x5 := O1.out.frozenAt m
      have O2 := hide ((O1.out.stored m (.int .i64 (at_ ys k))).1)
      have O1' := hide ((HO.out.stored m (.int .i64 (at_ ys k))).1)
      have x6 := O1'.out.frozenAt k
      have k0 : (0 : Int) ≤ k := by omega
      have k1 : (k : Int) < l.length := by omega
      have m0 : (0 : Int) ≤ m := by omega
      have m1 : (m : Int) < l.length := by omega
      have hkm1 : (k : Int) < m := by omega
      rw [hmk]
      go_wp2_with fail
      go_big_region
      have O3 := hide (O2.out.keepB (Below.refl _ _).drew)
      rw [← encI_setU, ← encI_setU] at O3
      have K3 := hide (((HB.out.setCell (p := ⟨q, k, none⟩) hqb (.int .i64 (at_ ys m))).setCell (p := ⟨q, m, none⟩) hqb (.int .i64 (at_ ys k))).drew)
      have HY3 : Hid (((ys.set k (at_ ys m)).set m (at_ ys k)).length = l.length ∧ ∀ z ∈ (ys.set k (at_ ys m)).set m (at_ ys k), P z) := hide ⟨by rw [List.length_set, List.length_set]; exact HY.out.1, all_set (all_set HY.out.2 (HY.out.2 _ (mem_at m (by rw [HY.out.1]; exact hml))) k) (HY.out.2 _ (mem_at k (by rw [HY.out.1]; omega))) m⟩
      have hz3 : B ≤ ((wr.setCell ⟨q, k, none⟩ (.int .i64 (at_ ys m))).setCell ⟨q, m, none⟩ (.int .i64 (at_ ys k))).drew.heap.size := by
        have := K3.out.size
        simp [World.setCell] at this ⊢
        omega
      generalize ((wr.setCell ⟨q, k, none⟩ (.int .i64 (at_ ys m))).setCell ⟨q, m, none⟩ (.int .i64 (at_ ys k))).drew = w3 at *
      clear x1 x2 x3 x4 x5 x6 O1 O1' O2
      go_wp2_with fail
      go_roundw
      case rel => exact ⟨k + 1, _, by omega, by go_num, by rw [← hmk]; go_num, hz3, HY3, O3, K3⟩
      case measure => simp [intOf]; omega
    · have hge : decide ((k : Int) < (l.length : Int) - 1 - k) = false := by simp; omega
      go_wp2_with fail
      refine bodyPost_end (v := .tuple #[]) (by simp [results, Tryd.results81, go_sem]) rfl ⟨ys, HY.out, rfl, HO.out, HB.out⟩

set_option maxRecDepth 8000 in
set_option maxHeartbeats 4000000 in
theorem path_any (nb x : Nat) (A F P O : Option Addr) (c fn fc pc on_ oc : Nat) (ls : List (Int × Int × Int)) (on : List Bool) (bs : List (Int × Int)) (ps : List Int) (w : World) (h : Sl w w.heap.size 3 A ls.length (enc3 ls)) (p : Sl w w.heap.size 1 P ps.length (encI ps)) (hv : netB nb ls = true) (hbn : bs.length = nb) (hp : PL ls on bs ps) (hc : ¬ Cyc ls (onP on)) (ho : OneF ls on bs) (hx : x < nb) :
    Calls Tryd.prog 68 #[.agg #[.int .i64 nb, .slice A ls.length c, .slice F fn fc, .slice P ps.length pc, .slice O on_ oc], .int .i64 x] w (MadeInts (fun l => l.length ≤ nb ∧ ∀ z ∈ l, ∃ y : Nat, y < nb ∧ at_ ps y = z) w) := by
  have B0 := hide (Blk.new w 47 #[.int .i64 nb, .slice A ls.length c, .slice F fn fc, .slice P ps.length pc, .slice O on_ oc])
  have K0 := hide ((Below.refl _ w).alloc (Nat.le_refl _) (.cells #[.int .i64 nb, .slice A ls.length c, .slice F fn fc, .slice P ps.length pc, .slice O on_ oc] 47))
  have O0 := hide (World.ownsRow_nil (w.alloc (.cells #[.int .i64 nb, .slice A ls.length c, .slice F fn fc, .slice P ps.length pc, .slice O on_ oc] 47)) (w.heap.size + 1) 3 1)
  have hz0 : w.heap.size + 1 ≤ (w.alloc (.cells #[.int .i64 nb, .slice A ls.length c, .slice F fn fc, .slice P ps.length pc, .slice O on_ oc] 47)).heap.size := by simp
  obtain ⟨⟨n1, n2⟩, n3⟩ := net_len hv
  have hpl := hp.len
  have hpl1 : ps.length ≤ nb := by omega
  have hpl2 : nb ≤ ps.length := by omega
  have HV := hide hv
  have HH := hide h
  have PP := hide p
  have HP := hide hp
  have HCY := hide hc
  have HONE := hide ho
  have HBN := hide hbn
  have hdx := dep_le (ls := ls) (on := on) (bs := bs) (nb := nb) x
  have HDX := hide hdx
  clear hv h p hpl hp hc ho hbn hdx
  go_enter Tryd.func68, Tryd.ntmps68
  go_wp2_with fail
  go_loopw [1, 5] (fun b o wr => ∃ (y : Nat) (E : Option Addr) (e : Nat) (l : List Int), y < nb ∧ b = .int .i64 y ∧ o = .slice E l.length e ∧ l.length ≤ nb ∧ w.heap.size + 1 ≤ wr.heap.size ∧ Hid (l.length + dep ls on bs nb y ≤ nb) ∧ Hid (∀ z ∈ l, ∃ y : Nat, y < nb ∧ at_ ps y = z) ∧ Hid (wr.ownsRow (w.heap.size + 1) 3 1 (.slice E l.length e) l.length (encI l)) ∧ Hid (Blk wr w.heap.size 47 #[.int .i64 nb, .slice A ls.length c, .slice F fn fc, .slice P ps.length pc, .slice O on_ oc]) ∧ Hid (Below w.heap.size w wr)) (fun b _ _ => dep ls on bs nb (intOf b))
  case atStart => exact ⟨x, none, 0, [], hx, rfl, rfl, Nat.zero_le _, hz0, hide (by simpa using HDX.out), hide (fun z hz => by cases hz), O0, B0, K0⟩
  case round =>
    clear O0 B0 K0 hz0 HDX
    obtain ⟨y, E, e, l, hy, rfl, rfl, hln, hz, HD, HL, HO, HB, HK⟩ := hrel
    obtain ⟨b0, o0, hPP, hb0, hd⟩ := PP.out.int y (by omega)
    subst hPP
    have d0 := (HK.out.cell (p := ⟨b0, o0 + y, none⟩) hb0).trans hd
    have i0 : (0 : Int) ≤ y := by omega
    have i1 : (y : Int) < ps.length := by omega
    have y0 : wr.cell? ⟨w.heap.size, 0, none⟩ = some (.int .i64 nb) := HB.out.cell 0
    have y1 : wr.cell? ⟨w.heap.size, 1, none⟩ = some (.slice A ls.length c) := HB.out.cell 1
    have y2 : wr.cell? ⟨w.heap.size, 2, none⟩ = some (.slice F fn fc) := HB.out.cell 2
    have y3 : wr.cell? ⟨w.heap.size, 3, none⟩ = some (.slice (some ⟨b0, o0, none⟩) ps.length pc) := HB.out.cell 3
    have y4 : wr.cell? ⟨w.heap.size, 4, none⟩ = some (.slice O on_ oc) := HB.out.cell 4
    by_cases hneg : at_ ps y < 0
    · have hge : decide (0 ≤ at_ ps y) = false := by simp; omega
      go_wp2_with fail
      refine (reverse_any (fun z => ∃ y : Nat, y < nb ∧ at_ ps y = z) (w.heap.size + 1) E e l wr HO.out HL.out (by omega) hz).mono ?_
      rintro en w2 ⟨ys, ⟨hy1, hy2⟩, rfl, ho2, hb2⟩
      have K2 := hide (HK.out.trans (hb2.mono (by omega)))
      have O2 := hide ho2
      have HY2 := hide hy2
      have HY1 := hide hy1
      have hy3 : ys.length ≤ nb := by omega
      clear hb2 ho2 hy2 hy1 y0 y1 y2 y3 y4 d0
      go_wp2_with fail
      go_ret
      exact ⟨ys, E, e, ⟨hy3, HY2.out⟩, by rw [HY1.out]; rfl, by rw [HY1.out]; exact own_mono O2.out (by omega), K2.out⟩
    · obtain ⟨k, hk⟩ := Int.eq_ofNat_of_zero_le (show 0 ≤ at_ ps y by omega)
      have hyb : y < bs.length := by have := HBN.out; omega
      obtain ⟨hk1, _, _⟩ := HP.out.inc hyb (show 0 ≤ at_ ps y by omega)
      obtain ⟨u, hub, he, hdl⟩ := HP.out.up HV.out HBN.out HCY.out HONE.out hyb (show 0 ≤ at_ ps y by omega)
      rw [hk, Int.toNat_natCast] at hk1 he
      rw [hk] at d0 hd
      have hge : decide (0 ≤ (k : Int)) = true := by simp
      have HOU := hide (otherF_ends he)
      have HKY := hide hk
      have hun : u < nb := by have := HBN.out; omega
      have HDL := hide hdl
      clear hneg hk he hdl
      go_wp2_with (at_builtin; refine app_int wr rfl (.tmp 12) (.tmp 18) rfl (w.heap.size + 1) E l.length e l k rfl HO.out wr.heap.size rfl rfl hz (by omega) ?_; intro D2 d2 w7 ho7 hg7; clear y0 y1 y2 y3 y4 d0; have K7 := hide (HK.out.trans ((grown_below HO.out hg7 hz).mono (by omega))); have B7 := hide (HB.out.below (grown_below HO.out hg7 hz) (by omega)); have y0 : w7.cell? ⟨w.heap.size, 0, none⟩ = some (.int .i64 nb) := B7.out.cell 0; have y1 : w7.cell? ⟨w.heap.size, 1, none⟩ = some (.slice A ls.length c) := B7.out.cell 1; have y2 : w7.cell? ⟨w.heap.size, 2, none⟩ = some (.slice F fn fc) := B7.out.cell 2; have y3 : w7.cell? ⟨w.heap.size, 3, none⟩ = some (.slice (some ⟨b0, o0, none⟩) ps.length pc) := B7.out.cell 3; have y4 : w7.cell? ⟨w.heap.size, 4, none⟩ = some (.slice O on_ oc) := B7.out.cell 4)
      have O7 := hide ho7
      have hz7 : w.heap.size + 1 ≤ w7.heap.size := by have := hg7.size; omega
      clear ho7 hg7 HO HB HK
      refine (above_any nb y k A F _ O c fn fc pc on_ oc ls ps w7 (HH.out.to K7.out) (PP.out.to K7.out) (by omega) HKY.out hk1).mono ?_
      rintro en w8 ⟨rfl, hb8⟩
      rw [HOU.out]
      have K8 := hide (K7.out.then hb8)
      have B8 := hide (B7.out.to hb8)
      have O8 := hide (O7.out.keepB hb8)
      have hz8 : w.heap.size + 1 ≤ w8.heap.size := by have := hb8.size; omega
      have hd2 := HDL.out
      clear hb8 y0 y1 y2 y3 y4 K7 B7 O7
      go_wp2_with fail
      go_roundw
      case rel => exact ⟨u, D2, d2, l ++ [(k : Int)], hun, rfl, by simp, by have := HD.out; simp; omega, hz8, hide (by have := HD.out; simp; omega), hide (fun z hz => by
          rcases List.mem_append.1 hz with hz | hz
          · exact HL.out z hz
          · obtain rfl : z = k := by simpa using hz
            exact ⟨y, hy, HKY.out⟩), by simpa using O8, B8, K8⟩
      case measure => simp [intOf]; omega

/-- The list of buses below a line is empty unless a bus is fed through it. -/
def BelowR (nb : Nat) (ps : List Int) (k : Int) (l : List Int) : Prop := l.length ≤ nb ∧ (0 < l.length → ∃ y : Nat, y < nb ∧ at_ ps y = k)

set_option maxRecDepth 8000 in
set_option maxHeartbeats 4000000 in
theorem below_any (nb k : Nat) (A F P O : Option Addr) (c fn fc pc on_ oc : Nat) (ls : List (Int × Int × Int)) (on : List Bool) (bs : List (Int × Int)) (ps : List Int) (w : World) (h : Sl w w.heap.size 3 A ls.length (enc3 ls)) (p : Sl w w.heap.size 1 P ps.length (encI ps)) (hv : netB nb ls = true) (hbn : bs.length = nb) (hp : PL ls on bs ps) (hc : ¬ Cyc ls (onP on)) (ho : OneF ls on bs) :
    Calls Tryd.prog 43 #[.agg #[.int .i64 nb, .slice A ls.length c, .slice F fn fc, .slice P ps.length pc, .slice O on_ oc], .int .i64 k] w fun e w' => ∃ (l : List Int) (D : Option Addr) (d : Nat), BelowR nb ps k l ∧ e = .returned (.slice D l.length d) ∧ Below w.heap.size w w' := by
  have B0 := hide (Blk.new w 47 #[.int .i64 nb, .slice A ls.length c, .slice F fn fc, .slice P ps.length pc, .slice O on_ oc])
  have K0 := hide ((Below.refl _ w).alloc (Nat.le_refl _) (.cells #[.int .i64 nb, .slice A ls.length c, .slice F fn fc, .slice P ps.length pc, .slice O on_ oc] 47))
  have O0 := hide (World.ownsRow_nil (w.alloc (.cells #[.int .i64 nb, .slice A ls.length c, .slice F fn fc, .slice P ps.length pc, .slice O on_ oc] 47)) (w.heap.size + 1) 3 1)
  have hz0 : w.heap.size + 1 ≤ (w.alloc (.cells #[.int .i64 nb, .slice A ls.length c, .slice F fn fc, .slice P ps.length pc, .slice O on_ oc] 47)).heap.size := by simp
  obtain ⟨⟨n1, n2⟩, n3⟩ := net_len hv
  have hpl := hp.len
  have hpl1 : ps.length ≤ nb := by omega
  have hpl2 : nb ≤ ps.length := by omega
  have HV := hide hv
  have HH := hide h
  have PP := hide p
  have HP := hide hp
  have HCY := hide hc
  have HONE := hide ho
  have HBN := hide hbn
  clear hv h p hpl hp hc ho hbn
  go_enter Tryd.func43, Tryd.ntmps43
  go_wp2_with fail
  go_loopw [5, 10] (fun o x wr => ∃ (j : Nat) (E : Option Addr) (e : Nat) (l : List Int), j ≤ ps.length ∧ x = .int .i64 j ∧ o = .slice E l.length e ∧ l.length ≤ j ∧ w.heap.size + 1 ≤ wr.heap.size ∧ Hid (0 < l.length → ∃ y : Nat, y < nb ∧ at_ ps y = k) ∧ Hid (wr.ownsRow (w.heap.size + 1) 3 1 (.slice E l.length e) l.length (encI l)) ∧ Hid (Blk wr w.heap.size 47 #[.int .i64 nb, .slice A ls.length c, .slice F fn fc, .slice P ps.length pc, .slice O on_ oc]) ∧ Hid (Below w.heap.size w wr)) (fun _ x _ => ps.length - (intOf x).toNat)
  case atStart => exact ⟨0, none, 0, [], Nat.zero_le _, rfl, rfl, Nat.le_refl _, hz0, hide (fun h => by simp at h), O0, B0, K0⟩
  case round =>
    clear O0 B0 K0 hz0
    obtain ⟨j, E, e, l, hj, rfl, rfl, hln, hz, HL, HO, HB, HK⟩ := hrel
    have y0 : wr.cell? ⟨w.heap.size, 0, none⟩ = some (.int .i64 nb) := HB.out.cell 0
    have y1 : wr.cell? ⟨w.heap.size, 1, none⟩ = some (.slice A ls.length c) := HB.out.cell 1
    have y2 : wr.cell? ⟨w.heap.size, 2, none⟩ = some (.slice F fn fc) := HB.out.cell 2
    have y3 : wr.cell? ⟨w.heap.size, 3, none⟩ = some (.slice P ps.length pc) := HB.out.cell 3
    have y4 : wr.cell? ⟨w.heap.size, 4, none⟩ = some (.slice O on_ oc) := HB.out.cell 4
    by_cases hlt : j < ps.length
    · go_wp2_with fail
      refine (path_any nb j A F P O c fn fc pc on_ oc ls on bs ps wr (HH.out.to HK.out) (PP.out.to HK.out) HV.out HBN.out HP.out HCY.out HONE.out (by omega)).mono ?_
      rintro en w2 ⟨W, We, wc, ⟨hW1, hW2⟩, rfl, hoW, hb2⟩
      have HW2 := hide hW2
      have SW := hide (Sl.of_own hoW)
      have K2 := hide (HK.out.then hb2)
      have B2 := hide (HB.out.to hb2)
      have O2 := hide (HO.out.keepB hb2)
      have hz2 : w.heap.size + 1 ≤ w2.heap.size := by have := hb2.size; omega
      clear hW2 hoW hb2 HK HB HO y0 y1 y2 y3 y4
      go_wp2_with fail
      refine (slicesContains_any We W.length wc W k w2 rfl SW.out (by omega)).mono ?_
      rintro en w3 ⟨rfl, rfl⟩
      cases hcb : hasB W k
      · clear hcb
        go_wp2_with fail
        go_roundw
        case rel => exact ⟨j + 1, E, e, l, by omega, by go_num, rfl, by omega, hz2, HL, O2, B2, K2⟩
        case measure => simp [intOf]; omega
      · have HM : Hid (∃ y : Nat, y < nb ∧ at_ ps y = (k : Int)) := hide (HW2.out _ (by simpa [hasB] using hcb))
        clear hcb
        go_wp2_with (at_builtin; refine app_int w2 rfl (.tmp 18) (.tmp 20) rfl (w.heap.size + 1) E l.length e l j rfl O2.out w2.heap.size rfl rfl hz2 (by omega) ?_; intro D2 d2 w7 ho7 hg7)
        have K7 := hide (K2.out.trans ((grown_below O2.out hg7 hz2).mono (by omega)))
        have B7 := hide (B2.out.below (grown_below O2.out hg7 hz2) (by omega))
        have O7 := hide ho7
        have hz7 : w.heap.size + 1 ≤ w7.heap.size := by have := hg7.size; omega
        clear ho7 hg7 O2 B2 K2
        go_wp2_with fail
        go_roundw
        case rel => exact ⟨j + 1, D2, d2, l ++ [(j : Int)], by omega, by go_num, by simp, by simp; omega, hz7, hide (fun _ => HM.out), by simpa using O7, B7, K7⟩
        case measure => simp [intOf]; omega
    · obtain rfl : j = ps.length := by omega
      go_wp2_with fail
      go_ret
      exact ⟨l, E, e, ⟨by omega, HL.out⟩, rfl, HK.out⟩

set_option maxRecDepth 8000 in
set_option maxHeartbeats 4000000 in
theorem belowLine_any (nb k : Nat) (A D B : Option Addr) (c d f : Nat) (ls : List (Int × Int × Int)) (on : List Bool) (bs : List (Int × Int)) (w : World) (h : Sl w w.heap.size 3 A ls.length (enc3 ls)) (g : Sl w w.heap.size 1 D ls.length (encB on)) (hon : on.length = ls.length) (s : Sl w w.heap.size 2 B bs.length (enc2 bs)) (hr : radB nb ls on bs = true) (hk : k < ls.length) :
    Calls Tryd.prog 21 #[.agg #[.int .i64 nb, .slice A ls.length c], .slice D ls.length d, .slice B bs.length f, .int .i64 k] w fun e w' => ∃ (ps l : List Int) (M : Option Addr) (m : Nat), PL ls on bs ps ∧ BelowR nb ps k l ∧ e = .returned (.slice M l.length m) ∧ Below w.heap.size w w' := by
  have B0 := hide (Blk.new w 25 #[.int .i64 nb, .slice A ls.length c])
  have K0 := hide ((Below.refl _ w).alloc (Nat.le_refl _) (.cells #[.int .i64 nb, .slice A ls.length c] 25))
  obtain ⟨hf, hcy, hon1⟩ := (radB_iff _ _ _ _).1 hr
  obtain ⟨hv, _, hbl, hok⟩ := fedB_true hf
  obtain ⟨⟨n1, n2⟩, n3⟩ := net_len hv
  have hb8 : bs.length ≤ 8 := by omega
  have HH := hide h
  have GG := hide g
  have SS := hide s
  have HRAD := hide hr
  have HF := hide hf
  have HCY := hide hcy
  have HONE := hide hon1
  clear h g s hr hf hcy hon1 hv hok
  go_enter Tryd.func21, Tryd.ntmps21
  go_wp2_with fail
  refine (treeOf_any nb A D B c d f ls.length ls on bs _ (HH.out.to K0.out) (GG.out.to K0.out) hon (SS.out.to K0.out) (by omega) (by omega)).mono ?_
  rintro e w1 ⟨hb1, ⟨hr0, _⟩ | ⟨_, ps, ord, P, FF, O, pc, fn, fc, oc, rfl, hoo, hor, ho1, hp⟩⟩
  · rw [HRAD.out] at hr0; cases hr0
  · have K1 := hide (K0.out.then hb1)
    have B1 := hide (B0.out.to hb1)
    have P1 := hide (Sl.of_own ho1)
    have O1 := hide (Sl.of_own hoo)
    have HP := hide hp
    have HOR := hide hor
    have hz1 := B1.out.lt
    have hpl := hp.1.len
    have hpl1 : ps.length ≤ bs.length := by omega
    have hpl2 : bs.length ≤ ps.length := by omega
    obtain ⟨g0, g1⟩ := B1.out.two
    have kk := (Below.refl _ w1).alloc (Nat.le_refl _) (.cells #[.int .i64 nb, .slice A ls.length c, .slice FF fn fc, .slice P ps.length pc, .slice O ord.length oc] 47)
    have K2 := hide (K1.out.then kk)
    have P2 := hide (P1.out.to kk)
    have O2 := hide (O1.out.to kk)
    have T2 := hide (Blk.new w1 47 #[.int .i64 nb, .slice A ls.length c, .slice FF fn fc, .slice P ps.length pc, .slice O ord.length oc])
    clear hb1 ho1 hoo hp hor kk hpl
    go_wp2_with fail
    refine (hasLine_any nb k A ls.length c _).mono ?_
    rintro e w2 ⟨rfl, hb2⟩
    have K3 := hide (K2.out.then hb2)
    have P3 := hide (P2.out.to hb2)
    have O3 := hide (O2.out.to hb2)
    have T3 := hide (T2.out.to hb2)
    have y0 : w2.cell? ⟨w1.heap.size, 0, none⟩ = some (.int .i64 nb) := T3.out.cell 0
    have y1 : w2.cell? ⟨w1.heap.size, 1, none⟩ = some (.slice A ls.length c) := T3.out.cell 1
    have y2 : w2.cell? ⟨w1.heap.size, 2, none⟩ = some (.slice FF fn fc) := T3.out.cell 2
    have y3 : w2.cell? ⟨w1.heap.size, 3, none⟩ = some (.slice P ps.length pc) := T3.out.cell 3
    have y4 : w2.cell? ⟨w1.heap.size, 4, none⟩ = some (.slice O ord.length oc) := T3.out.cell 4
    clear hb2 K2 P2 O2 T2 g0 g1
    have hin : inB (k : Int) 0 ((ls.length : Int) - 1) = true := inB_mk (by omega) (by omega)
    rw [hin]
    go_wp2_with fail
    refine (below_any nb k A FF P O c fn fc pc ord.length oc ls on bs ps w2 (HH.out.to K3.out) P3.out (fedB_true HF.out).1 (by omega) HP.out.1 HCY.out HONE.out).mono ?_
    rintro e w3 ⟨l, M, m, hl, rfl, hb3⟩
    have K4 := hide (K3.out.then hb3)
    have HL := hide hl
    clear hb3 hl y0 y1 y2 y3 y4
    go_wp2_with fail
    go_ret
    exact ⟨ps, l, M, m, HP.out.1, HL.out, rfl, K4.out⟩

end Go.Proofs.YtbebhbcjdiahcaaDoor
