/-
  Residuals, BadLine and MendReadings: what the program's functions compute.
-/
import Derived.Test.YtbebhbcjdiahcaaDoorZero
namespace Go.Proofs.YtbebhbcjdiahcaaDoor
open Go.RowKit
set_option linter.unusedVariables false

/-- What the tree's search for a bad line returns. -/
def BadT (ls : List (Int × Int × Int)) (on : List Bool) (bs : List (Int × Int)) (rs ps : List Int) (x : Int) (l : List Int) : Prop :=
  (zeroL (resL ls on bs rs ps) = true ∧ x = -1 ∧ l = []) ∨ (zeroL (resL ls on bs rs ps) = false ∧ FirstG ls on bs rs ps x ∧ ((x = -1 ∧ l = []) ∨ (0 ≤ x ∧ l = tryL ls on bs rs ps x.toNat)))
theorem tryL_none {ls : List (Int × Int × Int)} {on : List Bool} {bs : List (Int × Int)} {rs ps : List Int} {k : Nat} (h : idxF ps k < 0) : tryL ls on bs rs ps k = rs := by unfold tryL; rw [if_pos h]
theorem tryL_some {ls : List (Int × Int × Int)} {on : List Bool} {bs : List (Int × Int)} {rs ps : List Int} {k j : Nat} (h : idxF ps k = j) : tryL ls on bs rs ps k = rs.set k (at_ rs k - resF ls on bs rs ps j) := by unfold tryL; rw [h, if_neg (by omega), Int.toNat_natCast]
theorem good_none {ls : List (Int × Int × Int)} {on : List Bool} {bs : List (Int × Int)} {rs ps : List Int} {k : Nat} (h : idxF ps k < 0) (hz : zeroL (resL ls on bs rs ps) = false) : goodB ls on bs rs ps k = false := by unfold goodB; rw [tryL_none h, hz, Bool.and_false]
theorem good_some {ls : List (Int × Int × Int)} {on : List Bool} {bs : List (Int × Int)} {rs ps : List Int} {k j : Nat} (h : idxF ps k = j) : goodB ls on bs rs ps k = (rdB ls.length (rs.set k (at_ rs k - resF ls on bs rs ps j)) && zeroL (resL ls on bs (rs.set k (at_ rs k - resF ls on bs rs ps j)) ps)) := by unfold goodB; rw [tryL_some h]

set_option maxRecDepth 8000 in
set_option maxHeartbeats 4000000 in
theorem badLineT_any (nb : Nat) (A D F P O B R : Option Addr) (c d fn fc pc on_ oc f rc : Nat) (ls : List (Int × Int × Int)) (on : List Bool) (bs : List (Int × Int)) (rs ps : List Int) (w : World)
    (h : Sl w w.heap.size 3 A ls.length (enc3 ls)) (g : Sl w w.heap.size 1 D ls.length (encB on)) (hon : on.length = ls.length) (s : Sl w w.heap.size 2 B bs.length (enc2 bs)) (r : Sl w w.heap.size 1 R rs.length (encI rs)) (p : Sl w w.heap.size 1 P ps.length (encI ps))
    (hf : fedB nb ls on.length bs = true) (hr : rdB ls.length rs = true) (hp : PL ls on bs ps) :
    Calls Tryd.prog 37 #[.agg #[.int .i64 nb, .slice A ls.length c, .slice F fn fc, .slice P ps.length pc, .slice O on_ oc], .slice D ls.length d, .slice B bs.length f, .slice R rs.length rc] w
      fun e w' => ∃ x l M m, BadT ls on bs rs ps x l ∧ e = .returned (.tuple #[.int .i64 x, .slice M l.length m]) ∧ w'.ownsRow w.heap.size 3 1 (.slice M l.length m) l.length (encI l) ∧ Below w.heap.size w w' := by
  have B0 := hide (Blk.new w 47 #[.int .i64 nb, .slice A ls.length c, .slice F fn fc, .slice P ps.length pc, .slice O on_ oc])
  have bw := (Below.refl _ w).alloc (Nat.le_refl _) (.cells #[.int .i64 nb, .slice A ls.length c, .slice F fn fc, .slice P ps.length pc, .slice O on_ oc] 47)
  obtain ⟨hv, _, hbl, hok⟩ := fedB_true hf
  obtain ⟨⟨n1, n2⟩, n3⟩ := net_len hv
  have hb8 : bs.length ≤ 8 := by omega
  obtain ⟨hrl, hrr⟩ := rdB_true hr
  have hrl1 : rs.length ≤ ls.length := by omega
  have hrl2 : ls.length ≤ rs.length := by omega
  have hpl := hp.len
  have hpl1 : ps.length ≤ bs.length := by omega
  have hpl2 : bs.length ≤ ps.length := by omega
  have K0 := hide bw
  have HH := hide h
  have GG := hide g
  have SS := hide s
  have RR := hide r
  have PP := hide p
  have HF := hide hf
  have HR := hide hr
  have HP := hide hp
  have HOK := hide hok
  have HRR := hide hrr
  clear hbl hpl hrl hrr hok bw h g s r p hf hr hp hv
  go_enter Tryd.func37, Tryd.ntmps37
  go_wp2_with fail
  refine (residualsT_any nb A D F P O B R c d fn fc pc on_ oc f rc ls on bs rs ps _ (HH.out.to K0.out) (GG.out.to K0.out) hon (SS.out.to K0.out) (RR.out.to K0.out) (PP.out.to K0.out) HF.out HR.out HP.out).mono ?_
  rintro e w1 ⟨l, D1, d1, rfl, rfl, ho1, hb1⟩
  have K1 := hide (K0.out.then hb1)
  have B1 := hide (B0.out.to hb1)
  have hz1 := K1.out.size
  have O1 := hide (Sl.of_own ho1)
  have hql := resL_len ls on bs rs ps
  clear ho1 hb1 K0 B0
  have HQL := hide hql
  have hql1 : (resL ls on bs rs ps).length ≤ bs.length := by omega
  have hql2 : bs.length ≤ (resL ls on bs rs ps).length := by omega
  clear hql
  go_wp2_with fail
  refine (allZero_any _ _ _ _ O1.out (by omega)).mono ?_
  rintro e w2 ⟨rfl, rfl⟩
  cases hz : zeroL (resL ls on bs rs ps)
  · have HZ := hide hz
    clear hz
    go_wp2_with fail
    go_loopw [23] (fun x wr => ∃ k : Nat, k ≤ rs.length ∧ x = .int .i64 k ∧ Hid (∀ j, j < k → goodB ls on bs rs ps j = false) ∧ Hid (Below w1.heap.size w1 wr)) (fun x _ => rs.length - (intOf x).toNat)
    case atStart => exact ⟨0, Nat.zero_le _, rfl, hide (fun j hj => absurd hj (by omega)), hide (Below.refl _ _)⟩
    case round =>
      obtain ⟨k, hk, rfl, HN, HW⟩ := hrel
      have B3 := hide (B1.out.to HW.out)
      have K3 := hide (K1.out.then HW.out)
      have O3 := hide (O1.out.to HW.out)
      have hz3 := HW.out.size
      have y0 : wr.cell? ⟨w.heap.size, 0, none⟩ = some (.int .i64 nb) := B3.out.cell 0
      have y1 : wr.cell? ⟨w.heap.size, 1, none⟩ = some (.slice A ls.length c) := B3.out.cell 1
      have y2 : wr.cell? ⟨w.heap.size, 2, none⟩ = some (.slice F fn fc) := B3.out.cell 2
      have y3 : wr.cell? ⟨w.heap.size, 3, none⟩ = some (.slice P ps.length pc) := B3.out.cell 3
      have y4 : wr.cell? ⟨w.heap.size, 4, none⟩ = some (.slice O on_ oc) := B3.out.cell 4
      by_cases hlt : k < rs.length
      · go_wp2_with fail
        refine (slicesIndex_any _ _ _ ps k _ rfl (PP.out.to K3.out) (by omega)).mono ?_
        rintro e w' ⟨rfl, rfl⟩
        rcases idxF_cases ps k with ⟨h1, h2⟩ | ⟨j, h1, h2, h3, h4⟩
        · have HG := hide (good_none (ls := ls) (on := on) (bs := bs) (rs := rs) (ps := ps) (k := k) (by omega) HZ.out)
          rw [h1]
          clear h1 h2
          go_wp2_with fail
          go_roundw
          case rel => exact ⟨k + 1, by omega, by go_num, hide (fun j hj => by
              by_cases hjk : j = k
              · subst hjk; exact HG.out
              · exact HN.out j (by omega)), HW⟩
          case measure => simp [intOf]; omega
        · have HG := hide (good_some (ls := ls) (on := on) (bs := bs) (rs := rs) (ps := ps) h2)
          have HT := hide (tryL_some (ls := ls) (on := on) (bs := bs) (rs := rs) (ps := ps) h2)
          rw [h2]
          have hjb : j < bs.length := by omega
          have hng : ¬ (j : Int) < 0 := by omega
          clear h2 h3 h4
          go_wp2_with fail
          refine (slicesClone_any _ _ _ rs _ rfl (RR.out.to K3.out) (by omega)).mono ?_
          rintro e w4 ⟨l4, D4, d4, hl4, rfl, ho4, hb4⟩
          obtain rfl : rs = l4 := hl4.symm
          clear hl4
          obtain ⟨q4, c4, hq4, _, _⟩ := ho4.form (by omega)
          cases hq4
          have B4 := hide (B3.out.to hb4)
          have W4 := hide (HW.out.then hb4)
          have O4 := hide ho4
          have L4 := hide (O3.out.to hb4)
          have hz4 := hb4.size
          have hq5 : wr.heap.size ≤ q4 ∧ q4 < w4.heap.size := ho4.lt _ rfl
          have hbw := B3.out.lt
          have x1 := O4.out.cellAt k (by omega)
          rw [encI_at _ k (by omega)] at x1
          have x2 := O4.out.frozenAt k
          obtain ⟨b5, o5, hA5, hb5, he5⟩ := L4.out.int j (by omega)
          subst hA5
          rw [resL_at hjb] at he5
          have rb := resF_in (ls := ls) (on := on) (rs := rs) (ps := ps) (nb := nb) n3 HR.out HOK.out HP.out hjb
          have rb2 := HRR.out k hlt
          obtain ⟨rb3, rb4⟩ := rb
          obtain ⟨rb5, rb6⟩ := rb2
          have hw1 : IntKind.i64.wrap (at_ rs k - resF ls on bs rs ps j) = at_ rs k - resF ls on bs rs ps j := IntWalk.i64_in _ (by omega)
          have i0 : (0 : Int) ≤ j := by omega
          have i1 : (j : Int) < (resL ls on bs rs ps).length := by omega
          have k0 : (0 : Int) ≤ k := by omega
          have k1 : (k : Int) < rs.length := by omega
          have O5 := hide (((O4.out.stored k (.int .i64 (at_ rs k - resF ls on bs rs ps j))).1).keepB (Below.refl _ _).drew)
          rw [← encI_setU] at O5
          have B5 := hide ((B4.out.far (p := ⟨q4, k, none⟩) (by simp; omega) (.int .i64 (at_ rs k - resF ls on bs rs ps j))).to (Below.refl _ _).drew)
          have W5 := hide (W4.out.setCell (p := ⟨q4, k, none⟩) (by show w1.heap.size ≤ q4; omega) (.int .i64 (at_ rs k - resF ls on bs rs ps j))).drew
          clear ho4 hb4 y0 y1 y2 y3 y4
          go_wp2_with fail
          go_big_region
          generalize (w4.setCell ⟨q4, k, none⟩ (.int .i64 (at_ rs k - resF ls on bs rs ps j))).drew = w6 at *
          clear x1 x2 he5
          have y0 : w6.cell? ⟨w.heap.size, 0, none⟩ = some (.int .i64 nb) := B5.out.cell 0
          have y1 : w6.cell? ⟨w.heap.size, 1, none⟩ = some (.slice A ls.length c) := B5.out.cell 1
          have y2 : w6.cell? ⟨w.heap.size, 2, none⟩ = some (.slice F fn fc) := B5.out.cell 2
          have y3 : w6.cell? ⟨w.heap.size, 3, none⟩ = some (.slice P ps.length pc) := B5.out.cell 3
          have y4 : w6.cell? ⟨w.heap.size, 4, none⟩ = some (.slice O on_ oc) := B5.out.cell 4
          have HS5 : Hid (Sl w6 w6.heap.size 1 (some ⟨q4, 0, none⟩) (rs.set k (at_ rs k - resF ls on bs rs ps j)).length (encI (rs.set k (at_ rs k - resF ls on bs rs ps j)))) := hide (by rw [List.length_set]; exact Sl.of_own O5.out)
          have hV := readingsValid_any nb A _ c d4 ls (rs.set k (at_ rs k - resF ls on bs rs ps j)) w6 HS5.out (by omega) (by rw [List.length_set]; omega)
          rw [List.length_set] at hV
          have hz6 := W5.out.size
          go_wp2_with fail
          refine hV.mono ?_
          clear hV
          rintro e w7 ⟨rfl, hb7⟩
          have B7 := hide (B5.out.to hb7)
          have W7 := hide (W5.out.then hb7)
          have O7 := hide (O5.out.keepB hb7)
          have S7 := hide (HS5.out.to hb7)
          have hz7 := hb7.size
          clear hb7 B5 W5 O5 HS5 y0 y1 y2 y3 y4
          have y0 : w7.cell? ⟨w.heap.size, 0, none⟩ = some (.int .i64 nb) := B7.out.cell 0
          have y1 : w7.cell? ⟨w.heap.size, 1, none⟩ = some (.slice A ls.length c) := B7.out.cell 1
          have y2 : w7.cell? ⟨w.heap.size, 2, none⟩ = some (.slice F fn fc) := B7.out.cell 2
          have y3 : w7.cell? ⟨w.heap.size, 3, none⟩ = some (.slice P ps.length pc) := B7.out.cell 3
          have y4 : w7.cell? ⟨w.heap.size, 4, none⟩ = some (.slice O on_ oc) := B7.out.cell 4
          have K7 := hide (K1.out.then W7.out)
          cases hv : rdB ls.length (rs.set k (at_ rs k - resF ls on bs rs ps j))
          · have HG2 := hide (show goodB ls on bs rs ps k = false by rw [HG.out, hv]; rfl)
            clear hv
            go_wp2_with fail
            go_roundw
            case rel => exact ⟨k + 1, by omega, by go_num, hide (fun j hj => by
                by_cases hjk : j = k
                · subst hjk; exact HG2.out
                · exact HN.out j (by omega)), W7⟩
            case measure => simp [intOf]; omega
          · have hC := residualsT_any nb A D F P O B _ c d fn fc pc on_ oc f d4 ls on bs (rs.set k (at_ rs k - resF ls on bs rs ps j)) ps w7 (HH.out.to K7.out) (GG.out.to K7.out) hon (SS.out.to K7.out) S7.out (PP.out.to K7.out) HF.out hv HP.out
            rw [List.length_set] at hC
            have HG2 := hide (show goodB ls on bs rs ps k = zeroL (resL ls on bs (rs.set k (at_ rs k - resF ls on bs rs ps j)) ps) by rw [HG.out, hv, Bool.true_and])
            clear hv
            go_wp2_with fail
            refine hC.mono ?_
            clear hC
            rintro e w8 ⟨l8, D8, d8, rfl, rfl, ho8, hb8⟩
            have W8 := hide (W7.out.then hb8)
            have O8 := hide (O7.out.keepB hb8)
            have S8 := hide (Sl.of_own ho8)
            have hl8 := resL_len ls on bs (rs.set k (at_ rs k - resF ls on bs rs ps j)) ps
            have hl8' : (resL ls on bs (rs.set k (at_ rs k - resF ls on bs rs ps j)) ps).length ≤ 1048576 := by omega
            clear hb8 ho8 hl8 y0 y1 y2 y3 y4
            go_wp2_with fail
            refine (allZero_any _ _ _ _ S8.out hl8').mono ?_
            rintro e w9 ⟨rfl, rfl⟩
            rw [← HG2.out]
            cases hgk : goodB ls on bs rs ps k
            · have HGK := hide hgk
              clear hgk
              go_wp2_with fail
              go_roundw
              case rel => exact ⟨k + 1, by omega, by go_num, hide (fun j hj => by
                  by_cases hjk : j = k
                  · subst hjk; exact HGK.out
                  · exact HN.out j (by omega)), W8⟩
              case measure => simp [intOf]; omega
            · have HGK := hide hgk
              clear hgk
              go_wp2_with fail
              refine bodyPost_ret (v := .tuple #[.int .i64 k, .slice (some ⟨q4, 0, none⟩) rs.length d4]) (by simp [results, Tryd.results37, go_sem]) rfl ?_
              have hlen : (rs.set k (at_ rs k - resF ls on bs rs ps j)).length = rs.length := List.length_set
              refine ⟨k, rs.set k (at_ rs k - resF ls on bs rs ps j), some ⟨q4, 0, none⟩, d4, .inr ⟨HZ.out, .inl ⟨k, by omega, rfl, HGK.out, HN.out⟩, .inr ⟨by omega, by rw [Int.toNat_natCast, HT.out]⟩⟩, by rw [hlen], by rw [hlen]; exact own_mono O8.out (by omega), K1.out.then W8.out⟩
      · obtain rfl : k = rs.length := by omega
        go_wp2_with fail
        refine bodyPost_ret (v := .tuple #[.int .i64 (-1), .slice none 0 0]) (by simp [results, Tryd.results37, go_sem]) rfl ?_
        exact ⟨-1, [], none, 0, .inr ⟨HZ.out, .inr ⟨rfl, fun j hj => HN.out j (by omega)⟩, .inl ⟨rfl, rfl⟩⟩, rfl, World.ownsRow_nil _ _ _ _, K3.out⟩
  · have HZ := hide hz
    clear hz
    go_wp2_with fail
    refine bodyPost_ret (v := .tuple #[.int .i64 (-1), .slice none 0 0]) (by simp [results, Tryd.results37, go_sem]) rfl ?_
    exact ⟨-1, [], none, 0, .inl ⟨HZ.out, rfl, rfl⟩, rfl, World.ownsRow_nil _ _ _ _, K1.out⟩

end Go.Proofs.YtbebhbcjdiahcaaDoor
