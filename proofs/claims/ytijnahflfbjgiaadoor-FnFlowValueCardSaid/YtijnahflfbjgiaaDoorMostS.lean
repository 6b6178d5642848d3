/-
  Chapter 34: the most that can flow; what the reference's functions compute.
-/
import Derived.Test.YtijnahflfbjgiaaDoorStepS
import Derived.Test.YtijnahflfbjgiaaDoorFlowSpec
namespace Go.Proofs.YtijnahflfbjgiaaDoor
open Go.RowKit
set_option linter.unusedVariables false

theorem zeros_len (n : Nat) : (zeros n).length = n := by simp [zeros]

set_option maxRecDepth 8000 in
set_option maxHeartbeats 2000000 in
theorem specMostFlows_any (b : Int) (A D : Option Addr) (c d : Nat) (ls : List (Int × Int × Int)) (os : List Bool) (from_ to : Int) (w : World) (h : Sl w w.heap.size 3 A ls.length (enc3 ls)) (g : Sl w w.heap.size 1 D os.length (encB os)) (hm : ls.length ≤ 1048576) (hn : os.length ≤ 1048576) :
    Calls Tryd.prog 43 #[.agg #[.int .i64 b, .slice A ls.length c], .slice D os.length d, .int .i64 from_, .int .i64 to] w (MadeInts (MF b ls os from_ to) w) := by
  have bw := (Below.refl _ w).alloc (Nat.le_refl _) (.cells #[.int .i64 b, .slice A ls.length c] 50)
  have B0 := Blk.new w 50 #[.int .i64 b, .slice A ls.length c]
  cases h1 : endsB b ls os.length from_ to
  · have HQ := hide h1
    go_enter Tryd.func43, Tryd.ntmps43
    go_wp2_with fail
    refine (l34Ok_any _ _ _ _ _ _ _ _ _ _ (h.to bw) hm).mono ?_
    rintro e w1 ⟨rfl, hb1⟩
    rw [h1]
    have K1 := hide (bw.then hb1)
    clear bw B0 hb1 h1
    go_wp2_with fail
    go_ret
    exact ⟨[], some ⟨w1.heap.size, 0, none⟩, 0, .inr ⟨HQ.out, rfl⟩, rfl, World.ownsRow_lit (base := w.heap.size) (e := 3) (size := 1) w1 #[] 0 K1.out.size (Nat.zero_le _) rfl, K1.out.alloc K1.out.size _⟩
  · have hE := ends_true h1
    have H1 := hide h1
    obtain ⟨nb, hnb⟩ : ∃ nb : Nat, b = nb := ⟨b.toNat, by have := (net_len hE.net).1; omega⟩
    subst hnb
    obtain ⟨nf, hnf⟩ : ∃ nf : Nat, from_ = nf := ⟨from_.toNat, by have := hE.f0; omega⟩
    subst hnf
    obtain ⟨nt, hnt⟩ : ∃ nt : Nat, to = nt := ⟨to.toNat, by have := hE.t0; omega⟩
    subst hnt
    have HE := hide hE
    have hmk := run_make_z (P := Tryd.prog) 36 3 _ 1 8 Tryd.underlying36 infoI rfl (by omega) os.length os.length (Nat.le_refl _) (by omega) (by omega)
    have HH := hide h
    have HG := hide g
    clear hE
    go_enter Tryd.func43, Tryd.ntmps43
    go_wp2_with fail
    refine (l34Ok_any _ _ _ _ _ _ _ _ _ _ (h.to bw) hm).mono ?_
    rintro e w1 ⟨rfl, hb1⟩
    rw [h1]
    have hol : os.length = ls.length := HE.out.len
    have K1 := hide (bw.then hb1)
    have BN := hide (B0.to hb1)
    have hz1 := K1.out.size
    have OF : Hid ((w1.alloc (.cells (zrow os.length) 3)).ownsRow w.heap.size 3 1 (.slice (some ⟨w1.heap.size, 0, none⟩) (zeros ls.length).length os.length) (zeros ls.length).length (encI (zeros ls.length))) := by
      have := World.ownsRow_lit (base := w.heap.size) (e := 3) (size := 1) w1 (zrow os.length) os.length hz1 (by unfold maxLen; omega) (by simp [zrow])
      rw [show (zrow os.length).toList = encI (zeros ls.length) by simp [zrow, zeros, encI, hol]] at this
      rw [zeros_len, ← hol]
      rw [← hol] at this
      exact this
    have K2 := hide (K1.out.alloc hz1 (.cells (zrow os.length) 3))
    have B2 := hide (BN.out.alloc (.cells (zrow os.length) 3))
    have HOL := hide hol
    clear hb1 bw B0 h1 h g hol
    go_wp2_with fail
    go_loopg [9] 10000 (fun gk x wr => ∃ (fl : List Int) (F : Option Addr) (f : Nat) (v : Int), x = .slice F fl.length f ∧ Hid ((gk : Int) + v = 10000) ∧ Hid (Ones nb ls os nf nt (zeros ls.length) fl) ∧ Hid (Flo nb ls os nf nt fl v) ∧ Hid (wr.ownsRow w.heap.size 3 1 (.slice F fl.length f) fl.length (encI fl)) ∧ Hid (Blk wr w.heap.size 50 #[.int .i64 nb, .slice A ls.length c]) ∧ Hid (Below w.heap.size w wr))
    case atStart => exact ⟨zeros ls.length, some ⟨w1.heap.size, 0, none⟩, os.length, 0, by rw [zeros_len, HOL.out], hide rfl, hide (.refl _), hide (Flo.zero HE.out.net _ _), OF, B2, K2⟩
    case round =>
      obtain ⟨fl, F, f, v, rfl, HV, HOn, HFl, HOw, HB, HK⟩ := hrel
      clear OF B2 K2 hmk
      have x0 : wr.cell? ⟨w.heap.size, 0, none⟩ = some (.int .i64 nb) := HB.out.cell 0
      have x1 : wr.cell? ⟨w.heap.size, 1, none⟩ = some (.slice A ls.length c) := HB.out.cell 1
      have f1 : nf < nb := by have := HE.out.f1; omega
      have t1 : nt < nb := by have := HE.out.t1; omega
      go_wp2_with fail
      refine (l34Far_any nb A D F c d f ls os fl nt wr (HH.out.to HK.out) (HG.out.to HK.out) (Sl.of_own HOw.out) HE.out.net HOL.out HFl.out.ok t1).mono ?_
      rintro e w2 ⟨far, Df, df, ⟨hfl2, hfar, hbd⟩, rfl, hof, hb2⟩
      obtain ⟨gf, cf, hvf, hgf, hgf2⟩ := hof.form (by rw [hfl2]; omega)
      cases hvf
      have cellf := hof.cellAt nf (by rw [hfl2]; omega)
      rw [encI_at far nf (by rw [hfl2]; exact f1)] at cellf
      have lf0 : (0 : Int) ≤ nf := by omega
      have lf1 : (nf : Int) < far.length := by rw [hfl2]; omega
      have HFar := hide hfar
      have HBD := hide (hbd nf f1)
      have B3 := hide (HB.out.to hb2)
      have K3 := hide (HK.out.then hb2)
      have O3 := hide (HOw.out.keepB hb2)
      clear x0 x1 hfar hbd hof hb2 HOw HB HK
      have x0 : w2.cell? ⟨w.heap.size, 0, none⟩ = some (.int .i64 nb) := B3.out.cell 0
      have x1 : w2.cell? ⟨w.heap.size, 1, none⟩ = some (.slice A ls.length c) := B3.out.cell 1
      have hrch := HFar.out.reach (u := (nf : Int)) (by omega) (by omega)
      by_cases hr : at_ far nf < 99
      · have HR : Hid (Rea (Res ls os fl) nt nf) := hrch.1 (by
          rcases f99_at (far := far) nf HBD.out.1 HBD.out.2 with ⟨_, h⟩ | ⟨h, _⟩
          · rw [h]; exact HBD.out.1
          · omega)
        clear hrch
        go_wp2_with fail
        refine (l34Step_any nb A D F c d f ls os fl nf nt v w2 (HH.out.to K3.out) (HG.out.to K3.out) (Sl.of_own O3.out) HE.out HFl.out HR.out).mono ?_
        rintro e w3 ⟨fl', D3, d3, hone, rfl, ho3, hb3⟩
        have B4 := hide (B3.out.to hb3)
        have K4 := hide (K3.out.then hb3)
        have O4 := hide (own_mono ho3 K3.out.size)
        have HO1 := hide hone
        clear ho3 hb3 hone x0 x1
        have F4 := hide (HO1.out.flo HFl.out HE.out.f0 HE.out.f1)
        have hmo := F4.out.most HE.out.net HE.out.ne
        have hgk := HV.out
        have hp := HFl.out.pos
        go_wp2_with fail
        go_roundg (10000 - (v + 1)).toNat
        case measure => omega
        case rel => exact ⟨fl', D3, d3, v + 1, rfl, hide (by omega), hide (HOn.out.tail HO1.out), F4, O4, B4, K4⟩
      · have HS : Hid (Stuck ls os nf nt fl) := fun hR => by
          have := hrch.2 hR
          rcases f99_at (far := far) nf HBD.out.1 HBD.out.2 with ⟨h, _⟩ | ⟨_, h⟩ <;> omega
        clear hrch
        go_wp2_with fail
        go_ret
        exact ⟨fl, F, f, .inl ⟨H1.out, HOn.out, HS.out⟩, rfl, O3.out, K3.out⟩

theorem specMostFlow_any (b : Int) (A D : Option Addr) (c d : Nat) (ls : List (Int × Int × Int)) (os : List Bool) (from_ to : Int) (w : World) (h : Sl w w.heap.size 3 A ls.length (enc3 ls)) (g : Sl w w.heap.size 1 D os.length (encB os)) (hm : ls.length ≤ 1048576) (hn : os.length ≤ 1048576) :
    Calls Tryd.prog 46 #[.agg #[.int .i64 b, .slice A ls.length c], .slice D os.length d, .int .i64 from_, .int .i64 to] w fun e w' => ∃ x, MV b ls os from_ to x ∧ e = .returned (.int .i64 x) ∧ Below w.heap.size w w' := by
  have bw := (Below.refl _ w).alloc (Nat.le_refl _) (.cells #[.int .i64 b, .slice A ls.length c] 50)
  have B0 := Blk.new w 50 #[.int .i64 b, .slice A ls.length c]
  cases h1 : endsB b ls os.length from_ to
  · have HQ := hide h1
    go_enter Tryd.func46, Tryd.ntmps46
    go_wp2_with fail
    refine (l34Ok_any _ _ _ _ _ _ _ _ _ _ (h.to bw) hm).mono ?_
    rintro e w1 ⟨rfl, hb1⟩
    rw [h1]
    go_wp2_with fail
    go_ret
    exact ⟨-1, MV.none HQ.out, rfl, bw.then hb1⟩
  · go_enter Tryd.func46, Tryd.ntmps46
    go_wp2_with fail
    refine (l34Ok_any _ _ _ _ _ _ _ _ _ _ (h.to bw) hm).mono ?_
    rintro e w1 ⟨rfl, hb1⟩
    rw [h1]
    obtain ⟨g0, g1⟩ := (B0.to hb1).two
    have K1 := hide (bw.then hb1)
    have SH := hide (h.to K1.out)
    have SG := hide (g.to K1.out)
    have hz1 := K1.out.size
    clear hb1 bw B0 h1 h g
    go_wp2_with fail
    go_region_held3 (fun w' => w'.cell? ⟨w.heap.size, 0, none⟩ = some (.int .i64 b) ∧ w'.cell? ⟨w.heap.size, 1, none⟩ = some (.slice A ls.length c))
      (first | go_keep | (refine ⟨cellk hb2 ?_, cellk hb2 ?_⟩ <;> go_keep) | (refine ⟨cellk hb3 ?_, cellk hb3 ?_⟩ <;> go_keep))
      (first | (go_at_call 43; refine (specMostFlows_any _ _ _ _ _ _ _ _ _ _ ?_ ?_ hm hn).mono ?_; exact (show Sl w1.drew w1.drew.heap.size _ _ _ _ from SH.out); exact (show Sl w1.drew w1.drew.heap.size _ _ _ _ from SG.out); rintro e w2 ⟨r, E, f, hr, rfl, ho, hb2⟩) | (go_at_call 39; refine (specFlowValue_any _ _ _ _ _ _ _ _ _ _ _ _ _ ?_ ?_ ?_ hm hn ?_).mono ?_; exact (show Sl w1.drew w1.drew.heap.size _ _ _ _ from SH.out).to hb2; exact (show Sl w1.drew w1.drew.heap.size _ _ _ _ from SG.out).to hb2; exact Sl.of_own ho; (have hrl := hr.len; omega); rintro e w3 ⟨rfl, hb3⟩))
    have HR := hide hr
    have K3 := hide ((K1.out.drew.trans (hb2.mono (by simpa using hz1))).trans (hb3.mono (by have := hb2.size; simp at this; omega)))
    clear hr ho hb2 hb3
    go_wp2_with fail
    go_ret
    exact ⟨_, ⟨r, HR.out, rfl⟩, rfl, K3.out⟩

end Go.Proofs.YtijnahflfbjgiaaDoor
