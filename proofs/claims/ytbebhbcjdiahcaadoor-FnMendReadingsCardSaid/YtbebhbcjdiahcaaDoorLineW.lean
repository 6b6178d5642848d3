/-
  The flow of a line, the line through which a bus is fed: what the program's functions compute.
-/
import Derived.Test.YtbebhbcjdiahcaaDoorFlowsW
import Derived.Test.YtbebhbcjdiahcaaDoorAppAny
namespace Go.Proofs.YtbebhbcjdiahcaaDoor
open Go.RowKit
set_option linter.unusedVariables false

set_option maxRecDepth 8000 in
set_option maxHeartbeats 4000000 in
theorem lineFlow_any (nb k : Nat) (A D B : Option Addr) (c d f : Nat) (ls : List (Int × Int × Int)) (on : List Bool) (bs : List (Int × Int)) (w : World) (h : Sl w w.heap.size 3 A ls.length (enc3 ls)) (g : Sl w w.heap.size 1 D ls.length (encB on)) (hon : on.length = ls.length) (s : Sl w w.heap.size 2 B bs.length (enc2 bs)) (hr : radB nb ls on bs = true) (hk : k < ls.length) :
    Calls Tryd.prog 35 #[.agg #[.int .i64 nb, .slice A ls.length c], .slice D ls.length d, .slice B bs.length f, .int .i64 k] w fun e w' => ∃ ps fl, PN ls on bs ps ∧ FlowG ls on bs ps fl ∧ e = .returned (.int .i64 (at_ fl k)) ∧ Below w.heap.size w w' := by
  have B0 := hide (Blk.new w 25 #[.int .i64 nb, .slice A ls.length c])
  have K0 := hide ((Below.refl _ w).alloc (Nat.le_refl _) (.cells #[.int .i64 nb, .slice A ls.length c] 25))
  obtain ⟨hf, hcy, hon1⟩ := (radB_iff _ _ _ _).1 hr
  obtain ⟨hv, _, hbl, hok⟩ := fedB_true hf
  obtain ⟨⟨n1, n2⟩, n3⟩ := net_len hv
  have hb8 : bs.length ≤ 8 := by omega
  have HH := hide h
  have GG := hide g
  have SS := hide s
  have HRAD := hide hr
  have HF := hide hf
  have HCY := hide hcy
  have HONE := hide hon1
  clear h g s hr hf hcy hon1 hv hok
  go_enter Tryd.func35, Tryd.ntmps35
  go_wp2_with fail
  refine (treeOf_any nb A D B c d f ls.length ls on bs _ (HH.out.to K0.out) (GG.out.to K0.out) hon (SS.out.to K0.out) (by omega) (by omega)).mono ?_
  rintro e w1 ⟨hb1, ⟨hr0, _⟩ | ⟨_, ps, ord, P, FF, O, pc, fn, fc, oc, rfl, hoo, hor, ho1, hp⟩⟩
  · rw [HRAD.out] at hr0; cases hr0
  · have K1 := hide (K0.out.then hb1)
    have B1 := hide (B0.out.to hb1)
    have P1 := hide (Sl.of_own ho1)
    have O1 := hide (Sl.of_own hoo)
    have HP := hide hp
    have HOR := hide hor
    have hz1 := B1.out.lt
    have hpl := hp.1.len
    have hpl1 : ps.length ≤ bs.length := by omega
    have hpl2 : bs.length ≤ ps.length := by omega
    obtain ⟨g0, g1⟩ := B1.out.two
    have kk := (Below.refl _ w1).alloc (Nat.le_refl _) (.cells #[.int .i64 nb, .slice A ls.length c, .slice FF fn fc, .slice P ps.length pc, .slice O ord.length oc] 47)
    have K2 := hide (K1.out.then kk)
    have P2 := hide (P1.out.to kk)
    have O2 := hide (O1.out.to kk)
    have T2 := hide (Blk.new w1 47 #[.int .i64 nb, .slice A ls.length c, .slice FF fn fc, .slice P ps.length pc, .slice O ord.length oc])
    clear hb1 ho1 hoo hp hor kk hpl
    go_wp2_with fail
    refine (hasLine_any nb k A ls.length c _).mono ?_
    rintro e w2 ⟨rfl, hb2⟩
    have K3 := hide (K2.out.then hb2)
    have P3 := hide (P2.out.to hb2)
    have O3 := hide (O2.out.to hb2)
    have T3 := hide (T2.out.to hb2)
    have y0 : w2.cell? ⟨w1.heap.size, 0, none⟩ = some (.int .i64 nb) := T3.out.cell 0
    have y1 : w2.cell? ⟨w1.heap.size, 1, none⟩ = some (.slice A ls.length c) := T3.out.cell 1
    have y2 : w2.cell? ⟨w1.heap.size, 2, none⟩ = some (.slice FF fn fc) := T3.out.cell 2
    have y3 : w2.cell? ⟨w1.heap.size, 3, none⟩ = some (.slice P ps.length pc) := T3.out.cell 3
    have y4 : w2.cell? ⟨w1.heap.size, 4, none⟩ = some (.slice O ord.length oc) := T3.out.cell 4
    clear hb2 K2 P2 O2 T2 g0 g1
    have hin : inB (k : Int) 0 ((ls.length : Int) - 1) = true := inB_mk (by omega) (by omega)
    rw [hin]
    go_wp2_with fail
    refine (flowsT_any nb A FF P O B c fn fc pc oc f ls on bs ps ord w2 (HH.out.to K3.out) (SS.out.to K3.out) P3.out O3.out HF.out HP.out.1 HCY.out HONE.out HOR.out).mono ?_
    rintro e w3 ⟨fl, M, m, hfg, rfl, ho3, hb3⟩
    have K4 := hide (K3.out.then hb3)
    have HFG := hide hfg
    have hfl := hfg.len
    obtain ⟨q, cq, hM, _, _⟩ := ho3.form (by omega)
    cases hM
    have x1 := ho3.cellAt k (by omega)
    rw [encI_at fl k (by omega)] at x1
    have k0 : (0 : Int) ≤ k := by omega
    have k1 : (k : Int) < fl.length := by omega
    clear ho3 hb3 hfg y0 y1 y2 y3 y4
    go_wp2_with fail
    go_ret
    exact ⟨ps, fl, HP.out, HFG.out, rfl, K4.out⟩

set_option maxRecDepth 8000 in
set_option maxHeartbeats 4000000 in
theorem parentLine_any (nb k : Nat) (A D B : Option Addr) (c d f : Nat) (ls : List (Int × Int × Int)) (on : List Bool) (bs : List (Int × Int)) (w : World) (h : Sl w w.heap.size 3 A ls.length (enc3 ls)) (g : Sl w w.heap.size 1 D ls.length (encB on)) (hon : on.length = ls.length) (s : Sl w w.heap.size 2 B bs.length (enc2 bs)) (hr : radB nb ls on bs = true) (hk : k < nb) :
    Calls Tryd.prog 14 #[.agg #[.int .i64 nb, .slice A ls.length c], .slice D ls.length d, .slice B bs.length f, .int .i64 k] w fun e w' => ∃ ps, PN ls on bs ps ∧ e = .returned (.int .i64 (at_ ps k)) ∧ Below w.heap.size w w' := by
  have B0 := hide (Blk.new w 25 #[.int .i64 nb, .slice A ls.length c])
  have K0 := hide ((Below.refl _ w).alloc (Nat.le_refl _) (.cells #[.int .i64 nb, .slice A ls.length c] 25))
  obtain ⟨hf, hcy, hon1⟩ := (radB_iff _ _ _ _).1 hr
  obtain ⟨hv, _, hbl, hok⟩ := fedB_true hf
  obtain ⟨⟨n1, n2⟩, n3⟩ := net_len hv
  have hb8 : bs.length ≤ 8 := by omega
  have HH := hide h
  have GG := hide g
  have SS := hide s
  have HRAD := hide hr
  have HF := hide hf
  have HCY := hide hcy
  have HONE := hide hon1
  clear h g s hr hf hcy hon1 hv hok
  go_enter Tryd.func14, Tryd.ntmps14
  go_wp2_with fail
  refine (treeOf_any nb A D B c d f ls.length ls on bs _ (HH.out.to K0.out) (GG.out.to K0.out) hon (SS.out.to K0.out) (by omega) (by omega)).mono ?_
  rintro e w1 ⟨hb1, ⟨hr0, _⟩ | ⟨_, ps, ord, P, FF, O, pc, fn, fc, oc, rfl, hoo, hor, ho1, hp⟩⟩
  · rw [HRAD.out] at hr0; cases hr0
  · have K1 := hide (K0.out.then hb1)
    have B1 := hide (B0.out.to hb1)
    have P1 := hide (Sl.of_own ho1)
    have O1 := hide (Sl.of_own hoo)
    have HP := hide hp
    have HOR := hide hor
    have hz1 := B1.out.lt
    have hpl := hp.1.len
    have hpl1 : ps.length ≤ bs.length := by omega
    have hpl2 : bs.length ≤ ps.length := by omega
    obtain ⟨g0, g1⟩ := B1.out.two
    have kk := (Below.refl _ w1).alloc (Nat.le_refl _) (.cells #[.int .i64 nb, .slice A ls.length c, .slice FF fn fc, .slice P ps.length pc, .slice O ord.length oc] 47)
    have K2 := hide (K1.out.then kk)
    have P2 := hide (P1.out.to kk)
    have O2 := hide (O1.out.to kk)
    have T2 := hide (Blk.new w1 47 #[.int .i64 nb, .slice A ls.length c, .slice FF fn fc, .slice P ps.length pc, .slice O ord.length oc])
    clear hb1 ho1 hoo hp hor kk hpl
    go_wp2_with fail
    refine (hasBus_any nb k A ls.length c _).mono ?_
    rintro e w2 ⟨rfl, hb2⟩
    have K3 := hide (K2.out.then hb2)
    have P3 := hide (P2.out.to hb2)
    have O3 := hide (O2.out.to hb2)
    have T3 := hide (T2.out.to hb2)
    have y0 : w2.cell? ⟨w1.heap.size, 0, none⟩ = some (.int .i64 nb) := T3.out.cell 0
    have y1 : w2.cell? ⟨w1.heap.size, 1, none⟩ = some (.slice A ls.length c) := T3.out.cell 1
    have y2 : w2.cell? ⟨w1.heap.size, 2, none⟩ = some (.slice FF fn fc) := T3.out.cell 2
    have y3 : w2.cell? ⟨w1.heap.size, 3, none⟩ = some (.slice P ps.length pc) := T3.out.cell 3
    have y4 : w2.cell? ⟨w1.heap.size, 4, none⟩ = some (.slice O ord.length oc) := T3.out.cell 4
    clear hb2 K2 P2 O2 T2 g0 g1
    have hin : inB (k : Int) 0 ((nb : Int) - 1) = true := inB_mk (by omega) (by omega)
    rw [hin]
    obtain ⟨b0, o0, hP, hb0, hd⟩ := P3.out.int k (by omega)
    subst hP
    have k0 : (0 : Int) ≤ k := by omega
    have k1 : (k : Int) < ps.length := by omega
    go_wp2_with fail
    go_ret
    exact ⟨ps, HP.out, rfl, K3.out⟩

end Go.Proofs.YtbebhbcjdiahcaaDoor
