/-
  Residuals, BadLine and MendReadings: what the program's functions compute.
-/
import Derived.Test.YtbebhbcjdiahcaaDoorResI
namespace Go.Proofs.YtbebhbcjdiahcaaDoor
open Go.RowKit
set_option linter.unusedVariables false

theorem okB_rad {b : Int} {ls : List (Int × Int × Int)} {on : List Bool} {bs : List (Int × Int)} {rs : List Int} (h : radB b ls on bs = false) : okB b ls on bs rs = false := by simp [okB, h]
theorem okB_rd {b : Int} {ls : List (Int × Int × Int)} {on : List Bool} {bs : List (Int × Int)} {rs : List Int} (h : rdB ls.length rs = false) : okB b ls on bs rs = false := by simp [okB, h]
theorem okB_yes {b : Int} {ls : List (Int × Int × Int)} {on : List Bool} {bs : List (Int × Int)} {rs : List Int} (h : radB b ls on bs = true) (g : rdB ls.length rs = true) : okB b ls on bs rs = true := by simp [okB, h, g]

set_option maxRecDepth 8000 in
set_option maxHeartbeats 4000000 in
theorem implResiduals_any (b : Int) (A D B R : Option Addr) (c d f n rc : Nat) (ls : List (Int × Int × Int)) (on : List Bool) (bs : List (Int × Int)) (rs : List Int) (w : World) (h : Sl w w.heap.size 3 A ls.length (enc3 ls)) (g : Sl w w.heap.size 1 D n (encB on)) (hon : on.length = n) (s : Sl w w.heap.size 2 B bs.length (enc2 bs)) (r : Sl w w.heap.size 1 R rs.length (encI rs)) (hm : ls.length ≤ 1048576) (hn : bs.length ≤ 1048576) (hrn : rs.length ≤ 1048576) :
    Calls Tryd.prog 7 #[.agg #[.int .i64 b, .slice A ls.length c], .slice D n d, .slice B bs.length f, .slice R rs.length rc] w (MadeInts (ResR b ls on bs rs) w) := by
  have B0 := hide (Blk.new w 25 #[.int .i64 b, .slice A ls.length c])
  have K0 := hide ((Below.refl _ w).alloc (Nat.le_refl _) (.cells #[.int .i64 b, .slice A ls.length c] 25))
  have HH := hide h
  have GG := hide g
  have SS := hide s
  have RR := hide r
  clear h g s r
  go_enter Tryd.func7, Tryd.ntmps7
  go_wp2_with fail
  refine (treeOf_any b A D B c d f n ls on bs _ (HH.out.to K0.out) (GG.out.to K0.out) hon (SS.out.to K0.out) hm hn).mono ?_
  rintro e w1 ⟨hb1, ⟨hr, rfl⟩ | ⟨hr, ps, ord, P, FF, O, pc, fn, fc, oc, rfl, _, _, ho1, hp⟩⟩
  · have HQ := hide (okB_rad (rs := rs) hr)
    have K1 := hide (K0.out.then hb1)
    clear hb1 hr
    go_wp2_with fail
    go_ret
    exact ⟨[], none, 0, .inl ⟨HQ.out, rfl⟩, rfl, World.ownsRow_nil _ _ _ _, K1.out.alloc K1.out.size _⟩
  · obtain ⟨hf, hcy, hon1⟩ := (radB_iff _ _ _ _).1 hr
    obtain ⟨hv, hnl, hbl, hok⟩ := fedB_true hf
    rw [hon] at hnl
    subst hnl
    obtain ⟨nb, rfl⟩ : ∃ nb : Nat, b = nb := ⟨bs.length, hbl.symm⟩
    obtain ⟨⟨n1, n2⟩, n3⟩ := net_len hv
    have hb8 : bs.length ≤ 8 := by omega
    have K1 := hide (K0.out.then hb1)
    have B1 := hide (B0.out.to hb1)
    have P1 := hide (Sl.of_own ho1)
    have HP := hide hp.1
    have HF := hide hf
    have HRAD := hide hr
    have hz1 := B1.out.lt
    obtain ⟨g0, g1⟩ := B1.out.two
    have kk := (Below.refl _ w1).alloc (Nat.le_refl _) (.cells #[.int .i64 nb, .slice A ls.length c, .slice FF fn fc, .slice P ps.length pc, .slice O ord.length oc] 47)
    have K2 := hide (K1.out.then kk)
    have P2 := hide (P1.out.to kk)
    have T2 := hide (Blk.new w1 47 #[.int .i64 nb, .slice A ls.length c, .slice FF fn fc, .slice P ps.length pc, .slice O ord.length oc])
    clear hb1 ho1 hp hr hv hf hbl hok hcy hon1 kk
    go_wp2_with fail
    refine (readingsValid_any nb A R c rc ls rs _ (RR.out.to K2.out) hm hrn).mono ?_
    rintro e w2 ⟨rfl, hb2⟩
    have K3 := hide (K2.out.then hb2)
    have P3 := hide (P2.out.to hb2)
    have T3 := hide (T2.out.to hb2)
    clear hb2 K2 P2 T2 g0 g1
    cases hv : rdB ls.length rs
    · have HQ := hide (okB_rd (b := nb) (on := on) (bs := bs) hv)
      clear hv
      go_wp2_with fail
      go_ret
      exact ⟨[], none, 0, .inl ⟨HQ.out, rfl⟩, rfl, World.ownsRow_nil _ _ _ _, K3.out⟩
    · have HR := hide hv
      have HQ := hide (okB_yes HRAD.out hv)
      have y0 : w2.cell? ⟨w1.heap.size, 0, none⟩ = some (.int .i64 nb) := T3.out.cell 0
      have y1 : w2.cell? ⟨w1.heap.size, 1, none⟩ = some (.slice A ls.length c) := T3.out.cell 1
      have y2 : w2.cell? ⟨w1.heap.size, 2, none⟩ = some (.slice FF fn fc) := T3.out.cell 2
      have y3 : w2.cell? ⟨w1.heap.size, 3, none⟩ = some (.slice P ps.length pc) := T3.out.cell 3
      have y4 : w2.cell? ⟨w1.heap.size, 4, none⟩ = some (.slice O ord.length oc) := T3.out.cell 4
      clear hv
      go_wp2_with fail
      refine (residualsT_any nb A D FF P O B R c d fn fc pc ord.length oc f rc ls on bs rs ps w2 (HH.out.to K3.out) (GG.out.to K3.out) hon (SS.out.to K3.out) (RR.out.to K3.out) P3.out HF.out HR.out HP.out).mono ?_
      rintro e w3 ⟨l, D1, d1, rfl, rfl, ho3, hb3⟩
      have K4 := hide (K3.out.then hb3)
      have O4 := hide (own_mono ho3 K3.out.size)
      clear hb3 ho3
      go_wp2_with fail
      go_ret
      exact ⟨_, D1, d1, .inr ⟨HQ.out, ps, HP.out, rfl⟩, rfl, O4.out, K4.out⟩

set_option maxRecDepth 8000 in
set_option maxHeartbeats 4000000 in
theorem implBadLine_any (b : Int) (A D B R : Option Addr) (c d f n rc : Nat) (ls : List (Int × Int × Int)) (on : List Bool) (bs : List (Int × Int)) (rs : List Int) (w : World) (h : Sl w w.heap.size 3 A ls.length (enc3 ls)) (g : Sl w w.heap.size 1 D n (encB on)) (hon : on.length = n) (s : Sl w w.heap.size 2 B bs.length (enc2 bs)) (r : Sl w w.heap.size 1 R rs.length (encI rs)) (hm : ls.length ≤ 1048576) (hn : bs.length ≤ 1048576) (hrn : rs.length ≤ 1048576) :
    Calls Tryd.prog 16 #[.agg #[.int .i64 b, .slice A ls.length c], .slice D n d, .slice B bs.length f, .slice R rs.length rc] w fun e w' => ∃ x, BadR b ls on bs rs x ∧ e = .returned (.int .i64 x) ∧ Below w.heap.size w w' := by
  have B0 := hide (Blk.new w 25 #[.int .i64 b, .slice A ls.length c])
  have K0 := hide ((Below.refl _ w).alloc (Nat.le_refl _) (.cells #[.int .i64 b, .slice A ls.length c] 25))
  have HH := hide h
  have GG := hide g
  have SS := hide s
  have RR := hide r
  clear h g s r
  go_enter Tryd.func16, Tryd.ntmps16
  go_wp2_with fail
  refine (treeOf_any b A D B c d f n ls on bs _ (HH.out.to K0.out) (GG.out.to K0.out) hon (SS.out.to K0.out) hm hn).mono ?_
  rintro e w1 ⟨hb1, ⟨hr, rfl⟩ | ⟨hr, ps, ord, P, FF, O, pc, fn, fc, oc, rfl, _, _, ho1, hp⟩⟩
  · have HQ := hide (okB_rad (rs := rs) hr)
    have K1 := hide (K0.out.then hb1)
    clear hb1 hr
    go_wp2_with fail
    go_ret
    exact ⟨-1, .inl ⟨HQ.out, rfl⟩, rfl, K1.out.alloc K1.out.size _⟩
  · obtain ⟨hf, hcy, hon1⟩ := (radB_iff _ _ _ _).1 hr
    obtain ⟨hv, hnl, hbl, hok⟩ := fedB_true hf
    rw [hon] at hnl
    subst hnl
    obtain ⟨nb, rfl⟩ : ∃ nb : Nat, b = nb := ⟨bs.length, hbl.symm⟩
    obtain ⟨⟨n1, n2⟩, n3⟩ := net_len hv
    have hb8 : bs.length ≤ 8 := by omega
    have K1 := hide (K0.out.then hb1)
    have B1 := hide (B0.out.to hb1)
    have P1 := hide (Sl.of_own ho1)
    have HP := hide hp.1
    have HF := hide hf
    have HRAD := hide hr
    have hz1 := B1.out.lt
    obtain ⟨g0, g1⟩ := B1.out.two
    have kk := (Below.refl _ w1).alloc (Nat.le_refl _) (.cells #[.int .i64 nb, .slice A ls.length c, .slice FF fn fc, .slice P ps.length pc, .slice O ord.length oc] 47)
    have K2 := hide (K1.out.then kk)
    have P2 := hide (P1.out.to kk)
    have T2 := hide (Blk.new w1 47 #[.int .i64 nb, .slice A ls.length c, .slice FF fn fc, .slice P ps.length pc, .slice O ord.length oc])
    clear hb1 ho1 hp hr hv hf hbl hok hcy hon1 kk
    go_wp2_with fail
    refine (readingsValid_any nb A R c rc ls rs _ (RR.out.to K2.out) hm hrn).mono ?_
    rintro e w2 ⟨rfl, hb2⟩
    have K3 := hide (K2.out.then hb2)
    have P3 := hide (P2.out.to hb2)
    have T3 := hide (T2.out.to hb2)
    clear hb2 K2 P2 T2 g0 g1
    cases hv : rdB ls.length rs
    · have HQ := hide (okB_rd (b := nb) (on := on) (bs := bs) hv)
      clear hv
      go_wp2_with fail
      go_ret
      exact ⟨-1, .inl ⟨HQ.out, rfl⟩, rfl, K3.out⟩
    · have HR := hide hv
      have HQ := hide (okB_yes HRAD.out hv)
      have y0 : w2.cell? ⟨w1.heap.size, 0, none⟩ = some (.int .i64 nb) := T3.out.cell 0
      have y1 : w2.cell? ⟨w1.heap.size, 1, none⟩ = some (.slice A ls.length c) := T3.out.cell 1
      have y2 : w2.cell? ⟨w1.heap.size, 2, none⟩ = some (.slice FF fn fc) := T3.out.cell 2
      have y3 : w2.cell? ⟨w1.heap.size, 3, none⟩ = some (.slice P ps.length pc) := T3.out.cell 3
      have y4 : w2.cell? ⟨w1.heap.size, 4, none⟩ = some (.slice O ord.length oc) := T3.out.cell 4
      clear hv
      go_wp2_with fail
      refine (badLineT_any nb A D FF P O B R c d fn fc pc ord.length oc f rc ls on bs rs ps w2 (HH.out.to K3.out) (GG.out.to K3.out) hon (SS.out.to K3.out) (RR.out.to K3.out) P3.out HF.out HR.out HP.out).mono ?_
      rintro e w3 ⟨x, l, M, m, hbt, rfl, ho3, hb3⟩
      have K4 := hide (K3.out.then hb3)
      have HBT := hide hbt
      clear hb3 ho3 hbt
      go_wp2_with fail
      go_ret
      refine ⟨x, .inr ⟨HQ.out, ps, HP.out, ?_⟩, rfl, K4.out⟩
      rcases HBT.out with ⟨h1, h2, _⟩ | ⟨h1, h2, _⟩
      · exact .inl ⟨h1, h2⟩
      · exact .inr ⟨h1, h2⟩

set_option maxRecDepth 8000 in
set_option maxHeartbeats 4000000 in
theorem implMend_any (b : Int) (A D B R : Option Addr) (c d f n rc : Nat) (ls : List (Int × Int × Int)) (on : List Bool) (bs : List (Int × Int)) (rs : List Int) (w : World) (h : Sl w w.heap.size 3 A ls.length (enc3 ls)) (g : Sl w w.heap.size 1 D n (encB on)) (hon : on.length = n) (s : Sl w w.heap.size 2 B bs.length (enc2 bs)) (r : Sl w w.heap.size 1 R rs.length (encI rs)) (hm : ls.length ≤ 1048576) (hn : bs.length ≤ 1048576) (hrn : rs.length ≤ 1048576) :
    Calls Tryd.prog 19 #[.agg #[.int .i64 b, .slice A ls.length c], .slice D n d, .slice B bs.length f, .slice R rs.length rc] w fun e w' => ∃ l t M m, MendR b ls on bs rs l t ∧ e = .returned (.tuple #[.slice M l.length m, .bool t]) ∧ w'.ownsRow w.heap.size 3 1 (.slice M l.length m) l.length (encI l) ∧ Below w.heap.size w w' := by
  have B0 := hide (Blk.new w 25 #[.int .i64 b, .slice A ls.length c])
  have K0 := hide ((Below.refl _ w).alloc (Nat.le_refl _) (.cells #[.int .i64 b, .slice A ls.length c] 25))
  have HH := hide h
  have GG := hide g
  have SS := hide s
  have RR := hide r
  clear h g s r
  go_enter Tryd.func19, Tryd.ntmps19
  go_wp2_with fail
  refine (treeOf_any b A D B c d f n ls on bs _ (HH.out.to K0.out) (GG.out.to K0.out) hon (SS.out.to K0.out) hm hn).mono ?_
  rintro e w1 ⟨hb1, ⟨hr, rfl⟩ | ⟨hr, ps, ord, P, FF, O, pc, fn, fc, oc, rfl, _, _, ho1, hp⟩⟩
  · have HQ := hide (okB_rad (rs := rs) hr)
    have K1 := hide (K0.out.then hb1)
    clear hb1 hr
    go_wp2_with fail
    refine bodyPost_ret (v := .tuple #[.slice none 0 0, .bool false]) (by simp [results, Tryd.results19, go_sem]) rfl ?_
    exact ⟨[], false, none, 0, .inl ⟨HQ.out, rfl, rfl⟩, rfl, World.ownsRow_nil _ _ _ _, K1.out.alloc K1.out.size _⟩
  · obtain ⟨hf, hcy, hon1⟩ := (radB_iff _ _ _ _).1 hr
    obtain ⟨hv, hnl, hbl, hok⟩ := fedB_true hf
    rw [hon] at hnl
    subst hnl
    obtain ⟨nb, rfl⟩ : ∃ nb : Nat, b = nb := ⟨bs.length, hbl.symm⟩
    obtain ⟨⟨n1, n2⟩, n3⟩ := net_len hv
    have hb8 : bs.length ≤ 8 := by omega
    have K1 := hide (K0.out.then hb1)
    have B1 := hide (B0.out.to hb1)
    have P1 := hide (Sl.of_own ho1)
    have HP := hide hp.1
    have HF := hide hf
    have HRAD := hide hr
    have hz1 := B1.out.lt
    obtain ⟨g0, g1⟩ := B1.out.two
    have kk := (Below.refl _ w1).alloc (Nat.le_refl _) (.cells #[.int .i64 nb, .slice A ls.length c, .slice FF fn fc, .slice P ps.length pc, .slice O ord.length oc] 47)
    have K2 := hide (K1.out.then kk)
    have P2 := hide (P1.out.to kk)
    have T2 := hide (Blk.new w1 47 #[.int .i64 nb, .slice A ls.length c, .slice FF fn fc, .slice P ps.length pc, .slice O ord.length oc])
    clear hb1 ho1 hp hr hv hf hbl hok hcy hon1 kk
    go_wp2_with fail
    refine (readingsValid_any nb A R c rc ls rs _ (RR.out.to K2.out) hm hrn).mono ?_
    rintro e w2 ⟨rfl, hb2⟩
    have K3 := hide (K2.out.then hb2)
    have P3 := hide (P2.out.to hb2)
    have T3 := hide (T2.out.to hb2)
    clear hb2 K2 P2 T2 g0 g1
    cases hv : rdB ls.length rs
    · have HQ := hide (okB_rd (b := nb) (on := on) (bs := bs) hv)
      clear hv
      go_wp2_with fail
      refine bodyPost_ret (v := .tuple #[.slice none 0 0, .bool false]) (by simp [results, Tryd.results19, go_sem]) rfl ?_
      exact ⟨[], false, none, 0, .inl ⟨HQ.out, rfl, rfl⟩, rfl, World.ownsRow_nil _ _ _ _, K3.out⟩
    · have HR := hide hv
      have HQ := hide (okB_yes HRAD.out hv)
      have y0 : w2.cell? ⟨w1.heap.size, 0, none⟩ = some (.int .i64 nb) := T3.out.cell 0
      have y1 : w2.cell? ⟨w1.heap.size, 1, none⟩ = some (.slice A ls.length c) := T3.out.cell 1
      have y2 : w2.cell? ⟨w1.heap.size, 2, none⟩ = some (.slice FF fn fc) := T3.out.cell 2
      have y3 : w2.cell? ⟨w1.heap.size, 3, none⟩ = some (.slice P ps.length pc) := T3.out.cell 3
      have y4 : w2.cell? ⟨w1.heap.size, 4, none⟩ = some (.slice O ord.length oc) := T3.out.cell 4
      clear hv
      go_wp2_with fail
      refine (residualsT_any nb A D FF P O B R c d fn fc pc ord.length oc f rc ls on bs rs ps w2 (HH.out.to K3.out) (GG.out.to K3.out) hon (SS.out.to K3.out) (RR.out.to K3.out) P3.out HF.out HR.out HP.out).mono ?_
      rintro e w3 ⟨l, D1, d1, rfl, rfl, ho3, hb3⟩
      have K4 := hide (K3.out.then hb3)
      have P4 := hide (P3.out.to hb3)
      have T4 := hide (T3.out.to hb3)
      have S3 := hide (Sl.of_own ho3)
      have hl8 := resL_len ls on bs rs ps
      have hl8' : (resL ls on bs rs ps).length ≤ 1048576 := by omega
      clear hb3 ho3 hl8 y0 y1 y2 y3 y4
      go_wp2_with fail
      refine (allZero_any _ _ _ _ S3.out hl8').mono ?_
      rintro e w4 ⟨rfl, rfl⟩
      cases hz : zeroL (resL ls on bs rs ps)
      · have HZ := hide hz
        have y0 : w3.cell? ⟨w1.heap.size, 0, none⟩ = some (.int .i64 nb) := T4.out.cell 0
        have y1 : w3.cell? ⟨w1.heap.size, 1, none⟩ = some (.slice A ls.length c) := T4.out.cell 1
        have y2 : w3.cell? ⟨w1.heap.size, 2, none⟩ = some (.slice FF fn fc) := T4.out.cell 2
        have y3 : w3.cell? ⟨w1.heap.size, 3, none⟩ = some (.slice P ps.length pc) := T4.out.cell 3
        have y4 : w3.cell? ⟨w1.heap.size, 4, none⟩ = some (.slice O ord.length oc) := T4.out.cell 4
        clear hz
        go_wp2_with fail
        refine (badLineT_any nb A D FF P O B R c d fn fc pc ord.length oc f rc ls on bs rs ps w3 (HH.out.to K4.out) (GG.out.to K4.out) hon (SS.out.to K4.out) (RR.out.to K4.out) P4.out HF.out HR.out HP.out).mono ?_
        rintro e w5 ⟨x, l, M, m, hbt, rfl, ho5, hb5⟩
        have K5 := hide (K4.out.then hb5)
        have HBT := hide hbt
        have O5 := hide (own_mono ho5 K4.out.size)
        clear hb5 ho5 hbt
        go_wp2_with fail
        refine bodyPost_ret (v := .tuple #[.slice M l.length m, .bool (decide (0 ≤ x))]) (by simp [results, Tryd.results19, go_sem]) rfl ?_
        refine ⟨l, decide (0 ≤ x), M, m, .inr ⟨HQ.out, ps, HP.out, .inr ⟨HZ.out, x, ?_⟩⟩, rfl, O5.out, K5.out⟩
        rcases HBT.out with ⟨h1, _, _⟩ | ⟨h1, h2, h3⟩
        · rw [HZ.out] at h1; cases h1
        · refine ⟨h2, ?_⟩
          rcases h3 with ⟨rfl, h4⟩ | ⟨h3, h4⟩
          · exact .inl ⟨rfl, h4, rfl⟩
          · exact .inr ⟨h3, h4, decide_eq_true h3⟩
      · have HZ := hide hz
        clear hz
        go_wp2_with fail
        refine (slicesClone_any _ _ _ rs _ rfl (RR.out.to K4.out) hrn).mono ?_
        rintro e w5 ⟨l5, M, m, hl5, rfl, ho5, hb5⟩
        obtain rfl : rs = l5 := hl5.symm
        clear hl5
        have K5 := hide (K4.out.then hb5)
        have O5 := hide (own_mono ho5 K4.out.size)
        clear hb5 ho5
        go_wp2_with fail
        refine bodyPost_ret (v := .tuple #[.slice M rs.length m, .bool true]) (by simp [results, Tryd.results19, go_sem]) rfl ?_
        exact ⟨rs, true, M, m, .inr ⟨HQ.out, ps, HP.out, .inl ⟨HZ.out, rfl, rfl⟩⟩, rfl, O5.out, K5.out⟩

end Go.Proofs.YtbebhbcjdiahcaaDoor
