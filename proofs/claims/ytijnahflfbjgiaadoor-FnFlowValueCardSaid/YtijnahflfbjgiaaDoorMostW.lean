/-
  Chapter 34: the most that can flow; what the program's functions compute.
-/
import Derived.Test.YtijnahflfbjgiaaDoorAug
namespace Go.Proofs.YtijnahflfbjgiaaDoor
open Go.RowKit
set_option linter.unusedVariables false

/-- The most flows, as a list. -/
def MF (b : Int) (ls : List (Int × Int × Int)) (os : List Bool) (from_ to : Int) (r : List Int) : Prop := (endsB b ls os.length from_ to = true ∧ MostFl b ls os from_ to r) ∨ (endsB b ls os.length from_ to = false ∧ r = [])
theorem MF.unique {b : Int} {ls : List (Int × Int × Int)} {os : List Bool} {from_ to : Int} {r r' : List Int} (h : MF b ls os from_ to r) (k : MF b ls os from_ to r') : r = r' := by
  rcases h with ⟨h1, h2⟩ | ⟨h1, h2⟩ <;> rcases k with ⟨k1, k2⟩ | ⟨k1, k2⟩
  · have := ends_true h1
    exact h2.unique this.f0 this.f1 k2
  · rw [h1] at k1; cases k1
  · rw [h1] at k1; cases k1
  · rw [h2, k2]
theorem MF.flo {b : Int} {ls : List (Int × Int × Int)} {os : List Bool} {from_ to : Int} {r : List Int} (h : MF b ls os from_ to r) (he : endsB b ls os.length from_ to = true) : ∃ v, Flo b ls os from_ to r v := by
  have hE := ends_true he
  rcases h with ⟨h1, h2⟩ | ⟨h1, h2⟩
  · exact h2.1.flo (Flo.zero hE.net from_ to) hE.f0 hE.f1
  · rw [he] at h1; cases h1
theorem MF.len {b : Int} {ls : List (Int × Int × Int)} {os : List Bool} {from_ to : Int} {r : List Int} (h : MF b ls os from_ to r) : r.length ≤ 10 := by
  cases he : endsB b ls os.length from_ to
  · rcases h with ⟨h1, h2⟩ | ⟨h1, h2⟩
    · rw [he] at h1; cases h1
    · rw [h2]; simp
  · obtain ⟨v, hv⟩ := h.flo he
    rw [hv.ok.1]
    exact (net_len (ends_true he).net).2

set_option maxRecDepth 8000 in
set_option maxHeartbeats 2000000 in
theorem implMostFlows_any (b : Int) (A D : Option Addr) (c d : Nat) (ls : List (Int × Int × Int)) (os : List Bool) (from_ to : Int) (w : World) (h : Sl w w.heap.size 3 A ls.length (enc3 ls)) (g : Sl w w.heap.size 1 D os.length (encB os)) (hm : ls.length ≤ 1048576) (hn : os.length ≤ 1048576) :
    Calls Tryd.prog 42 #[.agg #[.int .i64 b, .slice A ls.length c], .slice D os.length d, .int .i64 from_, .int .i64 to] w (MadeInts (MF b ls os from_ to) w) := by
  have bw := (Below.refl _ w).alloc (Nat.le_refl _) (.cells #[.int .i64 b, .slice A ls.length c] 50)
  have B0 := Blk.new w 50 #[.int .i64 b, .slice A ls.length c]
  cases h1 : endsB b ls os.length from_ to
  · have HQ := hide h1
    go_enter Tryd.func42, Tryd.ntmps42
    go_wp2_with fail
    refine (endsValid_any _ _ _ _ _ _ _ _ _ _ (h.to bw) hm).mono ?_
    rintro e w1 ⟨rfl, hb1⟩
    rw [h1]
    go_wp2_with fail
    go_ret
    exact ⟨[], _, _, .inr ⟨HQ.out, rfl⟩, rfl, World.ownsRow_nil _ _ _ _, bw.then hb1⟩
  · have hE := ends_true h1
    have H1 := hide h1
    obtain ⟨nb, hnb⟩ : ∃ nb : Nat, b = nb := ⟨b.toNat, by have := (net_len hE.net).1; omega⟩
    subst hnb
    obtain ⟨nf, hnf⟩ : ∃ nf : Nat, from_ = nf := ⟨from_.toNat, by have := hE.f0; omega⟩
    subst hnf
    obtain ⟨nt, hnt⟩ : ∃ nt : Nat, to = nt := ⟨to.toNat, by have := hE.t0; omega⟩
    subst hnt
    have HE := hide hE
    have hmk := run_make_z (P := Tryd.prog) 36 3 _ 1 8 Tryd.underlying36 infoI rfl (by omega) ls.length ls.length (Nat.le_refl _) (by omega) (by omega)
    clear hE
    go_enter Tryd.func42, Tryd.ntmps42
    go_wp2_with fail
    refine (endsValid_any _ _ _ _ _ _ _ _ _ _ (h.to bw) hm).mono ?_
    rintro e w1 ⟨rfl, hb1⟩
    rw [h1]
    obtain ⟨g0, g1⟩ := (B0.to hb1).two
    have K1 := hide (bw.then hb1)
    have hz1 := K1.out.size
    have hz2 := (B0.to hb1).lt
    have BN := hide (B0.to hb1)
    clear hb1 bw B0 h1
    go_wp2_with fail
    have SH := hide (h.to K1.out)
    have SG := hide (g.to K1.out)
    have zl : (zrow ls.length).toList = encI (zeros ls.length) := by simp [zrow, zeros, encI]
    have ZL := hide zl
    clear zl g0 g1 h g
    obtain ⟨g0, g1⟩ := BN.out.two
    go_region
    all_goals clear g0 g1
    · have OF : Hid (((w1.alloc (.cells (zrow ls.length) 3)).alloc (.cells #[.int .i64 nb, .slice A ls.length c, .slice D os.length d, .slice (some ⟨w1.heap.size, 0, none⟩) ls.length ls.length] 96)).drew.ownsRow w1.heap.size 3 1 (.slice (some ⟨w1.heap.size, 0, none⟩) ls.length ls.length) ls.length (encI (zeros ls.length))) := by
        have := (World.ownsRow_lit (base := w1.heap.size) (e := 3) (size := 1) w1 (zrow ls.length) ls.length (Nat.le_refl _) (by unfold maxLen; omega) (by simp [zrow])).alloc (.cells #[.int .i64 nb, .slice A ls.length c, .slice D os.length d, .slice (some ⟨w1.heap.size, 0, none⟩) ls.length ls.length] 96)
        rw [ZL.out] at this
        exact this
      have BG : Hid (Blk ((w1.alloc (.cells (zrow ls.length) 3)).alloc (.cells #[.int .i64 nb, .slice A ls.length c, .slice D os.length d, .slice (some ⟨w1.heap.size, 0, none⟩) ls.length ls.length] 96)).drew (w1.heap.size + 1) 96 #[.int .i64 nb, .slice A ls.length c, .slice D os.length d, .slice (some ⟨w1.heap.size, 0, none⟩) ls.length ls.length]) := by
        have := Blk.new (w1.alloc (.cells (zrow ls.length) 3)) 96 #[.int .i64 nb, .slice A ls.length c, .slice D os.length d, .slice (some ⟨w1.heap.size, 0, none⟩) ls.length ls.length]
        simp only [World.size_alloc] at this
        exact this
      have KW := hide (((Below.refl _ w1).alloc (Nat.le_refl _) (.cells (zrow ls.length) 3)).alloc (by simp) (.cells #[.int .i64 nb, .slice A ls.length c, .slice D os.length d, .slice (some ⟨w1.heap.size, 0, none⟩) ls.length ls.length] 96)).drew
      go_wp2_with fail
      go_loopg [26] 10000 (fun gk _ wr => ∃ (fl : List Int) (v : Int), Hid ((gk : Int) + v = 10000 ∧ fl.length = ls.length) ∧ Hid (Ones nb ls os nf nt (zeros ls.length) fl) ∧ Hid (Flo nb ls os nf nt fl v) ∧ Hid (wr.ownsRow w1.heap.size 3 1 (.slice (some ⟨w1.heap.size, 0, none⟩) ls.length ls.length) ls.length (encI fl)) ∧ Hid (Blk wr (w1.heap.size + 1) 96 #[.int .i64 nb, .slice A ls.length c, .slice D os.length d, .slice (some ⟨w1.heap.size, 0, none⟩) ls.length ls.length]) ∧ Hid (Below w1.heap.size w1 wr))
      case atStart => exact ⟨zeros ls.length, 0, hide ⟨rfl, by simp [zeros]⟩, hide (.refl _), hide (Flo.zero HE.out.net _ _), OF, BG, KW⟩
      case round =>
        obtain ⟨fl, v, HV, HOn, HFl, HOw, HB, HK⟩ := hrel
        have x0 : wr.cell? ⟨w1.heap.size + 1, 0, none⟩ = some (.int .i64 nb) := HB.out.cell 0
        have x1 : wr.cell? ⟨w1.heap.size + 1, 1, none⟩ = some (.slice A ls.length c) := HB.out.cell 1
        have x2 : wr.cell? ⟨w1.heap.size + 1, 2, none⟩ = some (.slice D os.length d) := HB.out.cell 2
        have x3 : wr.cell? ⟨w1.heap.size + 1, 3, none⟩ = some (.slice (some ⟨w1.heap.size, 0, none⟩) ls.length ls.length) := HB.out.cell 3
        have HA := augment_any nb A D c d (w1.heap.size) ls.length w1.heap.size ls os fl nf nt v wr ((HOw.out.lt _ rfl).2) ((SH.out.below HK.out).more (by omega)) ((SG.out.below HK.out).more (by omega)) (by rw [HV.out.2]; exact HOw.out) HE.out HFl.out
        unfold Auged at HA
        rw [HV.out.2] at HA
        replace HA := hide HA
        go_wp2_with fail
        refine HA.out.mono ?_
        rintro e w4 ⟨r, fl', t, rfl, hl4, ho4, hb4, hc4, hf4⟩
        have B4 := hide (hb4.blk HB.out (by omega))
        have K4 := hide (HK.out.trans (hb4.to (B := w1.heap.size) HK.out.size (fun k hk => by omega)))
        have O4 := hide ho4
        have F4 := hide hf4
        have C4 := hide hc4
        clear ho4 hb4 hc4 hf4 x0 x1 x2 x3
        cases r
        · have x3 : w4.cell? ⟨w1.heap.size + 1, 3, none⟩ = some (.slice (some ⟨w1.heap.size, 0, none⟩) ls.length ls.length) := B4.out.cell 3
          go_wp2_with fail
          go_ret
          rcases C4.out with ⟨_, h2, h3, h4⟩ | ⟨h0, _⟩
          · refine ⟨fl', some ⟨w1.heap.size, 0, none⟩, ls.length, .inl ⟨H1.out, by rw [h2]; exact ⟨HOn.out, h4⟩⟩, by rw [hl4]; rfl, by rw [hl4]; exact own_mono O4.out hz1, K1.out.trans (K4.out.mono hz1)⟩
          · cases h0
        · go_wp2_with fail
          have hcc : 1 ≤ t ∧ Ones nb ls os nf nt fl fl' := by
            rcases C4.out with ⟨h0, _⟩ | ⟨_, h2, h3⟩
            · cases h0
            · exact ⟨h2, h3⟩
          have hmo := F4.out.most HE.out.net HE.out.ne
          have hgk := HV.out.1
          have hp := HFl.out.pos
          go_roundg (10000 - (v + t)).toNat
          case measure => omega
          case rel => exact ⟨fl', v + t, hide ⟨by omega, hl4⟩, hide (HOn.out.trans hcc.2), F4, O4, B4, K4⟩
    · have OF : Hid (((w1.alloc (.cells #[.int .i64 nb, .slice A ls.length c, .slice D os.length d, .slice (some ⟨w1.heap.size + 1, 0, none⟩) ls.length ls.length] 96)).alloc (.cells (zrow ls.length) 3)).drew.ownsRow w1.heap.size 3 1 (.slice (some ⟨w1.heap.size + 1, 0, none⟩) ls.length ls.length) ls.length (encI (zeros ls.length))) := by
        have := World.ownsRow_lit (base := w1.heap.size) (e := 3) (size := 1) (w1.alloc (.cells #[.int .i64 nb, .slice A ls.length c, .slice D os.length d, .slice (some ⟨w1.heap.size + 1, 0, none⟩) ls.length ls.length] 96)) (zrow ls.length) ls.length (by simp) (by unfold maxLen; omega) (by simp [zrow])
        rw [ZL.out] at this
        simp only [World.size_alloc] at this
        exact this
      have BG : Hid (Blk ((w1.alloc (.cells #[.int .i64 nb, .slice A ls.length c, .slice D os.length d, .slice (some ⟨w1.heap.size + 1, 0, none⟩) ls.length ls.length] 96)).alloc (.cells (zrow ls.length) 3)).drew w1.heap.size 96 #[.int .i64 nb, .slice A ls.length c, .slice D os.length d, .slice (some ⟨w1.heap.size + 1, 0, none⟩) ls.length ls.length]) := (Blk.new w1 96 _).alloc _
      have KW := hide (((Below.refl _ w1).alloc (Nat.le_refl _) (.cells #[.int .i64 nb, .slice A ls.length c, .slice D os.length d, .slice (some ⟨w1.heap.size + 1, 0, none⟩) ls.length ls.length] 96)).alloc (by simp) (.cells (zrow ls.length) 3)).drew
      go_wp2_with fail
      go_loopg [26] 10000 (fun gk _ wr => ∃ (fl : List Int) (v : Int), Hid ((gk : Int) + v = 10000 ∧ fl.length = ls.length) ∧ Hid (Ones nb ls os nf nt (zeros ls.length) fl) ∧ Hid (Flo nb ls os nf nt fl v) ∧ Hid (wr.ownsRow w1.heap.size 3 1 (.slice (some ⟨w1.heap.size + 1, 0, none⟩) ls.length ls.length) ls.length (encI fl)) ∧ Hid (Blk wr (w1.heap.size) 96 #[.int .i64 nb, .slice A ls.length c, .slice D os.length d, .slice (some ⟨w1.heap.size + 1, 0, none⟩) ls.length ls.length]) ∧ Hid (Below w1.heap.size w1 wr))
      case atStart => exact ⟨zeros ls.length, 0, hide ⟨rfl, by simp [zeros]⟩, hide (.refl _), hide (Flo.zero HE.out.net _ _), OF, BG, KW⟩
      case round =>
        obtain ⟨fl, v, HV, HOn, HFl, HOw, HB, HK⟩ := hrel
        have x0 : wr.cell? ⟨w1.heap.size, 0, none⟩ = some (.int .i64 nb) := HB.out.cell 0
        have x1 : wr.cell? ⟨w1.heap.size, 1, none⟩ = some (.slice A ls.length c) := HB.out.cell 1
        have x2 : wr.cell? ⟨w1.heap.size, 2, none⟩ = some (.slice D os.length d) := HB.out.cell 2
        have x3 : wr.cell? ⟨w1.heap.size, 3, none⟩ = some (.slice (some ⟨w1.heap.size + 1, 0, none⟩) ls.length ls.length) := HB.out.cell 3
        have HA := augment_any nb A D c d (w1.heap.size + 1) ls.length w1.heap.size ls os fl nf nt v wr ((HOw.out.lt _ rfl).2) ((SH.out.below HK.out).more (by omega)) ((SG.out.below HK.out).more (by omega)) (by rw [HV.out.2]; exact HOw.out) HE.out HFl.out
        unfold Auged at HA
        rw [HV.out.2] at HA
        replace HA := hide HA
        go_wp2_with fail
        refine HA.out.mono ?_
        rintro e w4 ⟨r, fl', t, rfl, hl4, ho4, hb4, hc4, hf4⟩
        have B4 := hide (hb4.blk HB.out (by omega))
        have K4 := hide (HK.out.trans (hb4.to (B := w1.heap.size) HK.out.size (fun k hk => by omega)))
        have O4 := hide ho4
        have F4 := hide hf4
        have C4 := hide hc4
        clear ho4 hb4 hc4 hf4 x0 x1 x2 x3
        cases r
        · have x3 : w4.cell? ⟨w1.heap.size, 3, none⟩ = some (.slice (some ⟨w1.heap.size + 1, 0, none⟩) ls.length ls.length) := B4.out.cell 3
          go_wp2_with fail
          go_ret
          rcases C4.out with ⟨_, h2, h3, h4⟩ | ⟨h0, _⟩
          · refine ⟨fl', some ⟨w1.heap.size + 1, 0, none⟩, ls.length, .inl ⟨H1.out, by rw [h2]; exact ⟨HOn.out, h4⟩⟩, by rw [hl4]; rfl, by rw [hl4]; exact own_mono O4.out hz1, K1.out.trans (K4.out.mono hz1)⟩
          · cases h0
        · go_wp2_with fail
          have hcc : 1 ≤ t ∧ Ones nb ls os nf nt fl fl' := by
            rcases C4.out with ⟨h0, _⟩ | ⟨_, h2, h3⟩
            · cases h0
            · exact ⟨h2, h3⟩
          have hmo := F4.out.most HE.out.net HE.out.ne
          have hgk := HV.out.1
          have hp := HFl.out.pos
          go_roundg (10000 - (v + t)).toNat
          case measure => omega
          case rel => exact ⟨fl', v + t, hide ⟨by omega, hl4⟩, hide (HOn.out.trans hcc.2), F4, O4, B4, K4⟩

/-- The most that can flow, as a number. -/
def MV (b : Int) (ls : List (Int × Int × Int)) (os : List Bool) (from_ to : Int) (x : Int) : Prop := ∃ r, MF b ls os from_ to r ∧ x = valB b ls os from_ to r
theorem MV.unique {b : Int} {ls : List (Int × Int × Int)} {os : List Bool} {from_ to : Int} {x y : Int} (h : MV b ls os from_ to x) (k : MV b ls os from_ to y) : x = y := by
  obtain ⟨r, h1, rfl⟩ := h
  obtain ⟨s, k1, rfl⟩ := k
  rw [h1.unique k1]
theorem MV.none {b : Int} {ls : List (Int × Int × Int)} {os : List Bool} {from_ to : Int} (h : endsB b ls os.length from_ to = false) : MV b ls os from_ to (-1) := ⟨[], .inr ⟨h, rfl⟩, (valB_ends h).symm⟩

theorem implMostFlow_any (b : Int) (A D : Option Addr) (c d : Nat) (ls : List (Int × Int × Int)) (os : List Bool) (from_ to : Int) (w : World) (h : Sl w w.heap.size 3 A ls.length (enc3 ls)) (g : Sl w w.heap.size 1 D os.length (encB os)) (hm : ls.length ≤ 1048576) (hn : os.length ≤ 1048576) :
    Calls Tryd.prog 44 #[.agg #[.int .i64 b, .slice A ls.length c], .slice D os.length d, .int .i64 from_, .int .i64 to] w fun e w' => ∃ x, MV b ls os from_ to x ∧ e = .returned (.int .i64 x) ∧ Below w.heap.size w w' := by
  have bw := (Below.refl _ w).alloc (Nat.le_refl _) (.cells #[.int .i64 b, .slice A ls.length c] 50)
  have B0 := Blk.new w 50 #[.int .i64 b, .slice A ls.length c]
  cases h1 : endsB b ls os.length from_ to
  · have HQ := hide h1
    go_enter Tryd.func44, Tryd.ntmps44
    go_wp2_with fail
    refine (endsValid_any _ _ _ _ _ _ _ _ _ _ (h.to bw) hm).mono ?_
    rintro e w1 ⟨rfl, hb1⟩
    rw [h1]
    go_wp2_with fail
    go_ret
    exact ⟨-1, MV.none HQ.out, rfl, bw.then hb1⟩
  · go_enter Tryd.func44, Tryd.ntmps44
    go_wp2_with fail
    refine (endsValid_any _ _ _ _ _ _ _ _ _ _ (h.to bw) hm).mono ?_
    rintro e w1 ⟨rfl, hb1⟩
    rw [h1]
    obtain ⟨g0, g1⟩ := (B0.to hb1).two
    have K1 := hide (bw.then hb1)
    have SH := hide (h.to K1.out)
    have SG := hide (g.to K1.out)
    have hz1 := K1.out.size
    clear hb1 bw B0 h1 h g
    go_wp2_with fail
    go_region_held3 (fun w' => w'.cell? ⟨w.heap.size, 0, none⟩ = some (.int .i64 b) ∧ w'.cell? ⟨w.heap.size, 1, none⟩ = some (.slice A ls.length c))
      (first | go_keep | (refine ⟨cellk hb2 ?_, cellk hb2 ?_⟩ <;> go_keep) | (refine ⟨cellk hb3 ?_, cellk hb3 ?_⟩ <;> go_keep))
      (first | (go_at_call 42; refine (implMostFlows_any _ _ _ _ _ _ _ _ _ _ ?_ ?_ hm hn).mono ?_; exact (show Sl w1.drew w1.drew.heap.size _ _ _ _ from SH.out); exact (show Sl w1.drew w1.drew.heap.size _ _ _ _ from SG.out); rintro e w2 ⟨r, E, f, hr, rfl, ho, hb2⟩) | (go_at_call 38; refine (implFlowValue_any _ _ _ _ _ _ _ _ _ _ _ _ _ ?_ ?_ ?_ hm hn ?_).mono ?_; exact (show Sl w1.drew w1.drew.heap.size _ _ _ _ from SH.out).to hb2; exact (show Sl w1.drew w1.drew.heap.size _ _ _ _ from SG.out).to hb2; exact Sl.of_own ho; (have hrl := hr.len; omega); rintro e w3 ⟨rfl, hb3⟩))
    have HR := hide hr
    have K3 := hide ((K1.out.drew.trans (hb2.mono (by simpa using hz1))).trans (hb3.mono (by have := hb2.size; simp at this; omega)))
    clear hr ho hb2 hb3
    go_wp2_with fail
    go_ret
    exact ⟨_, ⟨r, HR.out, rfl⟩, rfl, K3.out⟩

end Go.Proofs.YtijnahflfbjgiaaDoor
