/-
  Chapter 34: the weakest cut; what the reference's function computes.
-/
import Derived.Test.YtijnahflfbjgiaaDoorMostS
import Derived.Test.YtijnahflfbjgiaaDoorWeakW
import Derived.Test.YtijnahflfbjgiaaDoorAppNew
namespace Go.Proofs.YtijnahflfbjgiaaDoor
open Go.RowKit
set_option linter.unusedVariables false

set_option maxRecDepth 8000 in
set_option maxHeartbeats 2000000 in
theorem specWeakCut_any (b : Int) (A D : Option Addr) (c d : Nat) (ls : List (Int × Int × Int)) (os : List Bool) (from_ to : Int) (w : World) (h : Sl w w.heap.size 3 A ls.length (enc3 ls)) (g : Sl w w.heap.size 1 D os.length (encB os)) (hm : ls.length ≤ 1048576) (hn : os.length ≤ 1048576) :
    Calls Tryd.prog 49 #[.agg #[.int .i64 b, .slice A ls.length c], .slice D os.length d, .int .i64 from_, .int .i64 to] w (MadeInts (WC b ls os from_ to) w) := by
  have bw := ((Below.refl _ w).alloc (Nat.le_refl _) (.cells #[.int .i64 b, .slice A ls.length c] 50)).alloc (by simp) (.cells #[] 3)
  have B0 := (Blk.new w 50 #[.int .i64 b, .slice A ls.length c]).alloc (.cells #[] 3)
  have O0 := hide (World.ownsRow_lit (base := w.heap.size + 1) (e := 3) (size := 1) (w.alloc (.cells #[.int .i64 b, .slice A ls.length c] 50)) #[] 0 (by simp) (Nat.zero_le _) rfl)
  simp only [World.size_alloc] at O0
  cases h1 : endsB b ls os.length from_ to
  · have HQ := hide h1
    go_enter Tryd.func49, Tryd.ntmps49
    go_wp2_with fail
    refine (l34Ok_any _ _ _ _ _ _ _ _ _ _ (h.to bw) hm).mono ?_
    rintro e w1 ⟨rfl, hb1⟩
    rw [h1]
    have K1 := hide (bw.then hb1)
    have O1 := hide (O0.out.keepB hb1)
    clear bw B0 hb1 h1 O0
    go_wp2_with fail
    go_ret
    exact ⟨[], some ⟨w.heap.size + 1, 0, none⟩, 0, .inr ⟨HQ.out, rfl⟩, rfl, own_mono O1.out (by omega), K1.out⟩
  · have hE := ends_true h1
    have H1 := hide h1
    obtain ⟨nb, hnb⟩ : ∃ nb : Nat, b = nb := ⟨b.toNat, by have := (net_len hE.net).1; omega⟩
    subst hnb
    obtain ⟨nf, hnf⟩ : ∃ nf : Nat, from_ = nf := ⟨from_.toNat, by have := hE.f0; omega⟩
    subst hnf
    obtain ⟨nt, hnt⟩ : ∃ nt : Nat, to = nt := ⟨to.toNat, by have := hE.t0; omega⟩
    subst hnt
    have HE := hide hE
    have HH := hide h
    have HG := hide g
    clear hE
    go_enter Tryd.func49, Tryd.ntmps49
    go_wp2_with fail
    refine (l34Ok_any _ _ _ _ _ _ _ _ _ _ (h.to bw) hm).mono ?_
    rintro e w1 ⟨rfl, hb1⟩
    rw [h1]
    have K1 := hide (bw.then hb1)
    have O1 := hide (O0.out.keepB hb1)
    have B1 := hide (B0.to hb1)
    have x0 : w1.cell? ⟨w.heap.size, 0, none⟩ = some (.int .i64 nb) := B1.out.cell 0
    have x1 : w1.cell? ⟨w.heap.size, 1, none⟩ = some (.slice A ls.length c) := B1.out.cell 1
    clear bw B0 hb1 h1 O0 h g
    go_wp2_with fail
    refine (specMostFlows_any _ _ _ _ _ _ _ _ _ _ (HH.out.to K1.out) (HG.out.to K1.out) hm hn).mono ?_
    rintro e w2 ⟨fl, F, f, hr, rfl, hof, hb2⟩
    have HR := hide hr
    have K2 := hide (K1.out.then hb2)
    have O2 := hide (O1.out.keepB hb2)
    have B2 := hide (B1.out.to hb2)
    have F2 := hide hof
    have N2 : Hid (∀ g, (Value.slice F fl.length f).ownBlock = some g → ¬ (Value.slice (some ⟨w.heap.size + 1, 0, none⟩) 0 0).ownBlock = some g) := fun g hg he => by
      have := (hof.lt g hg).1
      have h2 := (O1.out.lt g he).2
      omega
    obtain ⟨v, hv⟩ := HR.out.flo H1.out
    have HFl := hide hv
    clear hv hr hof hb2 x0 x1 K1 B1 O1
    obtain ⟨p, hp⟩ : ∃ p : Nat → Bool, ∀ u : Nat, p u = true ↔ Rea (Res ls os fl) u nf := ⟨fun u => @decide _ (Classical.propDecidable (Rea (Res ls os fl) u nf)), fun u => by simp⟩
    have HP := hide hp
    clear hp
    have f1 : nf < nb := by have := HE.out.f1; omega
    have hn8 := (net_len HE.out.net).1
    have hz2 : w.heap.size + 1 ≤ w2.heap.size := by have := B2.out.lt; omega
    go_wp2_with fail
    go_loopw [9, 11] (fun l i wr => ∃ (k : Nat) (L : Option Addr) (lc : Nat), k ≤ nb ∧ i = .int .i64 k ∧ l = .slice L (selL p k).length lc ∧ Hid (wr.ownsRow (w.heap.size + 1) 3 1 (.slice L (selL p k).length lc) (selL p k).length (encI (selL p k))) ∧ Hid (Blk wr w.heap.size 50 #[.int .i64 nb, .slice A ls.length c]) ∧ Hid (wr.ownsRow w1.heap.size 3 1 (.slice F fl.length f) fl.length (encI fl)) ∧ Hid (∀ g, (Value.slice F fl.length f).ownBlock = some g → ¬ (Value.slice L (selL p k).length lc).ownBlock = some g) ∧ Hid (Below w.heap.size w wr) ∧ w.heap.size + 1 ≤ wr.heap.size) (fun _ i _ => nb - (intOf i).toNat)
    case atStart => exact ⟨0, _, _, Nat.zero_le _, rfl, rfl, O2, B2, F2, N2, K2, hz2⟩
    case round =>
      obtain ⟨k, L, lc, hk, rfl, rfl, HO, HB, HF, HN, HK, hzr⟩ := hrel
      clear O2 B2 F2 N2 K2
      have x0 : wr.cell? ⟨w.heap.size, 0, none⟩ = some (.int .i64 nb) := HB.out.cell 0
      have x1 : wr.cell? ⟨w.heap.size, 1, none⟩ = some (.slice A ls.length c) := HB.out.cell 1
      by_cases hlt : k < nb
      · have hsl := selL_len p k
        go_wp2_with fail
        refine (l34Far_any nb A D F c d f ls os fl k wr (HH.out.to HK.out) (HG.out.to HK.out) (Sl.of_own HF.out) HE.out.net HE.out.len HFl.out.ok hlt).mono ?_
        rintro e w3 ⟨far, Df, df, ⟨hfl2, hfar, hbd⟩, rfl, hof, hb3⟩
        obtain ⟨gf, cf, hvf, hgf, hgf2⟩ := hof.form (by rw [hfl2]; omega)
        cases hvf
        have cellf := hof.cellAt nf (by rw [hfl2]; omega)
        rw [encI_at far nf (by rw [hfl2]; exact f1)] at cellf
        have lf0 : (0 : Int) ≤ nf := by omega
        have lf1 : (nf : Int) < far.length := by rw [hfl2]; omega
        have HFar := hide hfar
        have HBD := hide (hbd nf f1)
        have B3 := hide (HB.out.to hb3)
        have K3 := hide (HK.out.then hb3)
        have O3 := hide (HO.out.keepB hb3)
        have F3 := hide (HF.out.keepB hb3)
        have hz3 := hb3.size
        clear x0 x1 hfar hbd hof hb3
        have hrch := HFar.out.reach (u := (nf : Int)) (by omega) (by omega)
        by_cases hr : at_ far nf < 99
        · have HPk : Hid (p k = true) := (HP.out k).2 (hrch.1 (by
            rcases f99_at (far := far) nf HBD.out.1 HBD.out.2 with ⟨_, h⟩ | ⟨h, _⟩
            · rw [h]; exact HBD.out.1
            · omega))
          have HSel := hide (selL_yes HPk.out)
          clear hrch
          go_wp2_with (at_builtin; refine app_int2 w3 rfl (.tmp 40) (.tmp 42) rfl (w.heap.size + 1) L _ lc (selL p k) k rfl O3.out w3.heap.size rfl rfl (by omega) (by omega) ?_; intro D5 d5 w5 ho5 hg5 hw5)
          have O5 := hide ho5
          have K5 := hide (grown_below O3.out hg5 (by omega))
          have F5 := hide (own_apart F3.out hg5 HN.out)
          have N5 : Hid (∀ g, (Value.slice F fl.length f).ownBlock = some g → ¬ (Value.slice D5 ((selL p k).length + 1) d5).ownBlock = some g) := fun g hg he => by
            rcases hw5 g he with h | h
            · exact HN.out g hg h
            · have := (F3.out.lt g hg).2; omega
          clear ho5 hg5 hw5
          go_roundw
          case rel =>
            have hsz := K5.out.size
            refine ⟨k + 1, D5, d5, by omega, by go_num, by rw [HSel.out, List.length_append]; rfl, by rw [HSel.out, List.length_append]; exact O5, hide (B3.out.below K5.out (by omega)), F5, by rw [HSel.out, List.length_append]; exact N5, hide (K3.out.trans (K5.out.mono (by omega))), by omega⟩
          case measure => simp [intOf]; omega
        · have HPk : Hid (p k = false) := by
            cases hpk : p k
            · exact rfl
            · exfalso
              have := hrch.2 ((HP.out k).1 hpk)
              rcases f99_at (far := far) nf HBD.out.1 HBD.out.2 with ⟨h, _⟩ | ⟨_, h⟩ <;> omega
          have HSel := hide (selL_no HPk.out)
          clear hrch
          go_wp2_with fail
          go_roundw
          case rel => exact ⟨k + 1, L, lc, by omega, by go_num, by rw [HSel.out], by rw [HSel.out]; exact O3, B3, F3, by rw [HSel.out]; exact HN, K3, by omega⟩
          case measure => simp [intOf]; omega
      · obtain rfl : k = nb := by omega
        go_wp2_with fail
        go_ret
        exact ⟨_, L, lc, .inl ⟨H1.out, fl, p, HR.out, fun u _ => HP.out u, rfl⟩, rfl, own_mono HO.out (by omega), HK.out⟩

end Go.Proofs.YtijnahflfbjgiaaDoor
