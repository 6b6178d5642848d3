/-
  Chapter 34: the weakest cut; what the program's function computes.
-/
import Derived.Test.YtijnahflfbjgiaaDoorMostW
import Derived.Test.YtijnahflfbjgiaaDoorDistW
import Derived.Test.YtijnahflfbjgiaaDoorSkip
namespace Go.Proofs.YtijnahflfbjgiaaDoor
open Go.RowKit
set_option linter.unusedVariables false

/-- The places below n that are chosen, in ascending order. -/
def selL (p : Nat → Bool) (n : Nat) : List Int := ((List.range n).filter p).map fun (j : Nat) => (j : Int)
theorem selL_yes {p : Nat → Bool} {n : Nat} (h : p n = true) : selL p (n + 1) = selL p n ++ [(n : Int)] := by
  simp [selL, List.range_succ, List.filter_append, h]
theorem selL_no {p : Nat → Bool} {n : Nat} (h : p n = false) : selL p (n + 1) = selL p n := by
  simp [selL, List.range_succ, List.filter_append, h]
theorem selL_congr {p q : Nat → Bool} {n : Nat} (h : ∀ u, u < n → p u = q u) : selL p n = selL q n := by
  unfold selL
  congr 1
  exact List.filter_congr fun u hu => h u (List.mem_range.1 hu)
theorem selL_mem (p : Nat → Bool) (n : Nat) (x : Int) : x ∈ selL p n ↔ ∃ u : Nat, u < n ∧ p u = true ∧ x = u := by
  simp only [selL, List.mem_map, List.mem_filter, List.mem_range]
  constructor
  · rintro ⟨u, ⟨h1, h2⟩, rfl⟩; exact ⟨u, h1, h2, rfl⟩
  · rintro ⟨u, h1, h2, rfl⟩; exact ⟨u, ⟨h1, h2⟩, rfl⟩
theorem selL_len (p : Nat → Bool) (n : Nat) : (selL p n).length ≤ n := by
  simp only [selL, List.length_map]
  exact Nat.le_trans (List.length_filter_le _ _) (by simp)
/-- The buses to which more can flow. -/
def WC (b : Int) (ls : List (Int × Int × Int)) (os : List Bool) (from_ to : Int) (r : List Int) : Prop :=
  (endsB b ls os.length from_ to = true ∧ ∃ (fl : List Int) (p : Nat → Bool), MF b ls os from_ to fl ∧ (∀ u : Nat, (u : Int) < b → (p u = true ↔ Rea (Res ls os fl) u from_)) ∧ r = selL p b.toNat) ∨ (endsB b ls os.length from_ to = false ∧ r = [])
theorem WC.unique {b : Int} {ls : List (Int × Int × Int)} {os : List Bool} {from_ to : Int} {r r' : List Int} (h : WC b ls os from_ to r) (k : WC b ls os from_ to r') : r = r' := by
  rcases h with ⟨h1, fl, p, h2, h3, h4⟩ | ⟨h1, h2⟩ <;> rcases k with ⟨k1, fl', q, k2, k3, k4⟩ | ⟨k1, k2⟩
  · rw [h4, k4]
    obtain rfl := h2.unique k2
    have hb := (net_len (ends_true h1).net).1
    exact selL_congr fun u hu => by
      have := h3 u (by omega)
      have := k3 u (by omega)
      cases hp : p u <;> cases hq : q u <;> simp_all
  · rw [h1] at k1; cases k1
  · rw [h1] at k1; cases k1
  · rw [h2, k2]
theorem WC.len {b : Int} {ls : List (Int × Int × Int)} {os : List Bool} {from_ to : Int} {r : List Int} (h : WC b ls os from_ to r) : r.length ≤ 8 := by
  rcases h with ⟨h1, fl, p, h2, h3, h4⟩ | ⟨h1, h2⟩
  · rw [h4]
    have := selL_len p b.toNat
    have hb := (net_len (ends_true h1).net).1
    omega
  · rw [h2]; simp

theorem weak_way {ls : List (Int × Int × Int)} {os : List Bool} {fl : List Int} {nf nb : Nat} {far : List Int} (h : Far (fun u v => Mv ls (fun k bus => decide (0 < roomF ls os fl k bus)) v u) nf nb (fun u => at_ far u.toNat)) (u : Nat) (hu : (u : Int) < nb) : decide (0 ≤ at_ far u) = true ↔ Rea (Res ls os fl) u nf := by
  have h1 := h.reach (u := (u : Int)) (by omega) hu
  simp only [Int.toNat_natCast] at h1
  rw [decide_eq_true_iff, h1]
  have e : (fun x y : Int => (fun u v => Mv ls (fun k bus => decide (0 < roomF ls os fl k bus)) v u) y x) = Res ls os fl := by
    funext x y
    simp only [Mv, Res, decide_eq_true_eq]
  constructor
  · intro h2
    have := h2.back
    rw [e] at this
    exact this
  · intro h2
    refine h2.back.mono fun a b hab => ?_
    rw [← e] at hab
    exact hab

set_option maxRecDepth 8000 in
set_option maxHeartbeats 2000000 in
theorem implWeakCut_any (b : Int) (A D : Option Addr) (c d : Nat) (ls : List (Int × Int × Int)) (os : List Bool) (from_ to : Int) (w : World) (h : Sl w w.heap.size 3 A ls.length (enc3 ls)) (g : Sl w w.heap.size 1 D os.length (encB os)) (hm : ls.length ≤ 1048576) (hn : os.length ≤ 1048576) :
    Calls Tryd.prog 48 #[.agg #[.int .i64 b, .slice A ls.length c], .slice D os.length d, .int .i64 from_, .int .i64 to] w (MadeInts (WC b ls os from_ to) w) := by
  have bw := (Below.refl _ w).alloc (Nat.le_refl _) (.cells #[.int .i64 b, .slice A ls.length c] 50)
  have B0 := Blk.new w 50 #[.int .i64 b, .slice A ls.length c]
  cases h1 : endsB b ls os.length from_ to
  · have HQ := hide h1
    go_enter Tryd.func48, Tryd.ntmps48
    go_wp2_with fail
    refine (endsValid_any _ _ _ _ _ _ _ _ _ _ (h.to bw) hm).mono ?_
    rintro e w1 ⟨rfl, hb1⟩
    rw [h1]
    go_wp2_with fail
    go_ret
    exact ⟨[], _, _, .inr ⟨HQ.out, rfl⟩, rfl, World.ownsRow_nil _ _ _ _, bw.then hb1⟩
  · have hE := ends_true h1
    have H1 := hide h1
    obtain ⟨nb, hnb⟩ : ∃ nb : Nat, b = nb := ⟨b.toNat, by have := (net_len hE.net).1; omega⟩
    subst hnb
    obtain ⟨nf, hnf⟩ : ∃ nf : Nat, from_ = nf := ⟨from_.toNat, by have := hE.f0; omega⟩
    subst hnf
    obtain ⟨nt, hnt⟩ : ∃ nt : Nat, to = nt := ⟨to.toNat, by have := hE.t0; omega⟩
    subst hnt
    have HE := hide hE
    have HH := hide h
    have HG := hide g
    clear hE
    go_enter Tryd.func48, Tryd.ntmps48
    go_wp2_with fail
    refine (endsValid_any _ _ _ _ _ _ _ _ _ _ (h.to bw) hm).mono ?_
    rintro e w1 ⟨rfl, hb1⟩
    rw [h1]
    obtain ⟨g0, g1⟩ := (B0.to hb1).two
    have K1 := hide (bw.then hb1)
    have hz1 := K1.out.size
    have BN := hide (B0.to hb1)
    clear hb1 bw B0 h1 h g
    have SH := hide (HH.out.to K1.out)
    have SG := hide (HG.out.to K1.out)
    have hz2 := BN.out.lt
    go_wp2_with fail
    refine wp_region_held_drew (S := fun w' => w'.cell? ⟨w.heap.size, 0, none⟩ = some (.int .i64 nb) ∧ w'.cell? ⟨w.heap.size, 1, none⟩ = some (.slice A ls.length c)) (by kernel_rfl) ⟨g0, g1⟩ (fun hHeld => ?_)
    refine wpAnyH_take (i := 0) (v := ?_) rfl (by kernel_rfl) (by kernel_rfl) (by kernel_rfl) (fun _ _ _ h => h) (Or.inl ⟨by rfl, ?_⟩) (by assumption) ?_
    rotate_left
    · intro w' hSw
      (try dsimp only at hSw)
      go_simp
      try (with_reducible rfl)
    simp only [Act.put, List.getElem_toArray, List.getElem_cons_zero, List.setIfInBounds_toArray, List.set_cons_zero, List.set_cons_succ]
    refine wpAnyH_take (i := 1) (v := ?_) rfl (by kernel_rfl) (by kernel_rfl) (by kernel_rfl) (fun _ _ _ h => h) (Or.inl ⟨by rfl, ?_⟩) (by assumption) ?_
    rotate_left
    · intro w' hSw
      (try dsimp only at hSw)
      go_simp
      try (with_reducible rfl)
    simp only [Act.put, List.getElem_toArray, List.getElem_cons_zero, List.getElem_cons_succ, List.setIfInBounds_toArray, List.set_cons_zero, List.set_cons_succ]
    refine wpAnyH_take (i := 2) (v := ?_) rfl (by kernel_rfl) (by kernel_rfl) (by kernel_rfl) (fun _ _ _ h => h) (Or.inl ⟨by rfl, ?_⟩) (by assumption) ?_
    rotate_left
    · intro w' hSw
      (try dsimp only at hSw)
      go_simp
      try (with_reducible rfl)
    simp only [Act.put, List.getElem_toArray, List.getElem_cons_zero, List.getElem_cons_succ, List.setIfInBounds_toArray, List.set_cons_zero, List.set_cons_succ]
    refine wpAnyH_take (i := 3) (v := ?_) rfl (by kernel_rfl) (by kernel_rfl) (by kernel_rfl) (fun _ _ _ h => h) (Or.inl ⟨by rfl, ?_⟩) (by assumption) ?_
    rotate_left
    · intro w' hSw
      (try dsimp only at hSw)
      go_simp
      try (with_reducible rfl)
    simp only [Act.put, List.getElem_toArray, List.getElem_cons_zero, List.getElem_cons_succ, List.setIfInBounds_toArray, List.set_cons_zero, List.set_cons_succ]
    refine wpAnyH_take (i := 4) (v := ?_) rfl (by kernel_rfl) (by kernel_rfl) (by kernel_rfl) (fun _ _ _ h => h) (Or.inl ⟨by rfl, ?_⟩) (by assumption) ?_
    rotate_left
    · intro w' hSw
      (try dsimp only at hSw)
      go_simp
      try (with_reducible rfl)
    simp only [Act.put, List.getElem_toArray, List.getElem_cons_zero, List.getElem_cons_succ, List.setIfInBounds_toArray, List.set_cons_zero, List.set_cons_succ]
    refine wpAnyH_take (i := 5) (v := ?_) rfl (by kernel_rfl) (by kernel_rfl) (by kernel_rfl) (fun _ _ _ h => h) (Or.inl ⟨by rfl, ?_⟩) (by assumption) ?_
    rotate_left
    · intro w' hSw
      (try dsimp only at hSw)
      go_simp
      try (with_reducible rfl)
    simp only [Act.put, List.getElem_toArray, List.getElem_cons_zero, List.getElem_cons_succ, List.setIfInBounds_toArray, List.set_cons_zero, List.set_cons_succ]
    refine wpAnyH_ready (rs := [6, 8]) (by kernel_rfl) (by simp) ?_
    refine AllReadyH.cons rfl (fun K hK => ?_) (AllReadyH.cons rfl (fun K hK => ?_) AllReadyH.nil)
    · go_simp
      go_at_call 42
      refine (implMostFlows_any _ _ _ _ _ _ _ _ _ _ (show Sl w1.drew w1.drew.heap.size _ _ _ _ from SH.out) (show Sl w1.drew w1.drew.heap.size _ _ _ _ from SG.out) hm hn).mono ?_
      rintro e w2 ⟨fl, E, f, hr, rfl, ho, hb2⟩
      go_wp2_with fail
      replace hHeld := And.intro (cellk hb2 hHeld.1) (cellk hb2 hHeld.2)
      refine hK.out _ _ hHeld (fun hHeld => ?_)
      clear hK K
      try simp only [Act.put, List.getElem_toArray, List.getElem_cons_zero, List.getElem_cons_succ, List.setIfInBounds_toArray, List.set_cons_zero, List.set_cons_succ]
      refine wpAnyH_take (i := 7) (v := ?_) rfl (by kernel_rfl) (by kernel_rfl) (by kernel_rfl) (fun _ _ _ h => h) (Or.inl ⟨by rfl, ?_⟩) (by assumption) ?_
      rotate_left
      · intro w' hSw
        (try dsimp only at hSw)
        go_simp
        try (with_reducible rfl)
      simp only [Act.put, List.getElem_toArray, List.getElem_cons_zero, List.getElem_cons_succ, List.setIfInBounds_toArray, List.set_cons_zero, List.set_cons_succ]
      refine wpAnyH_ready (rs := [8]) (by kernel_rfl) (by simp) ?_
      refine AllReadyH.cons rfl (fun K hK => ?_) AllReadyH.nil
      go_simp
      have bk := (Below.refl _ w2).alloc (Nat.le_refl _) (.cells #[.int .i64 0, .slice none 0 0, .slice none 0 0, .slice none 0 0] 96)
      have H2 := hHeld
      replace hHeld := And.intro (cellk bk hHeld.1) (cellk bk hHeld.2)
      refine hK.out _ _ hHeld (fun hHeld => ?_)
      clear hK K
      try simp only [Act.put, List.getElem_toArray, List.getElem_cons_zero, List.getElem_cons_succ, List.setIfInBounds_toArray, List.set_cons_zero, List.set_cons_succ]
      refine wpAnyH_ready (rs := [9]) (by kernel_rfl) (by simp) ?_
      refine AllReadyH.cons rfl (fun K hK => ?_) AllReadyH.nil
      go_simp
      have bk2 := (Below.refl _ w2).alloc (Nat.le_refl _) (.cells #[.int .i64 nb, .slice A ls.length c, .slice D os.length d, .slice E fl.length f] 96)
      have BX := hide (Blk.new w2 96 #[.int .i64 nb, .slice A ls.length c, .slice D os.length d, .slice E fl.length f])
      have KF := hide ((K1.out.drew.trans (hb2.mono (by simpa using hz1))).then bk2)
      have OF := hide (ho.keepB bk2)
      have HR := hide hr
      replace hHeld : (w2.alloc (.cells #[.int .i64 nb, .slice A ls.length c, .slice D os.length d, .slice E fl.length f] 96)).cell? ⟨w.heap.size, 0, none⟩ = some (.int .i64 nb) ∧ (w2.alloc (.cells #[.int .i64 nb, .slice A ls.length c, .slice D os.length d, .slice E fl.length f] 96)).cell? ⟨w.heap.size, 1, none⟩ = some (.slice A ls.length c) := ⟨cellk bk2 H2.1, cellk bk2 H2.2⟩
      refine hK.out _ _ hHeld (fun hHeld => ?_)
      clear hK K
      try simp only [Act.put, List.getElem_toArray, List.getElem_cons_zero, List.getElem_cons_succ, List.setIfInBounds_toArray, List.set_cons_zero, List.set_cons_succ]
      refine wpAnyH_done (by kernel_rfl) ?_ _
      have SFl := hide (Sl.of_own OF.out)
      clear hHeld H2 bk bk2 hb2 ho hr g0 g1
      obtain ⟨v, hv⟩ := HR.out.flo H1.out
      have HFl := hide hv
      clear hv
      have f1 : nf < nb := by have := HE.out.f1; omega
      have x0 : (w2.alloc (.cells #[.int .i64 nb, .slice A ls.length c, .slice D os.length d, .slice E fl.length f] 96)).cell? ⟨w2.heap.size, 0, none⟩ = some (.int .i64 nb) := BX.out.cell 0
      have x1 : (w2.alloc (.cells #[.int .i64 nb, .slice A ls.length c, .slice D os.length d, .slice E fl.length f] 96)).cell? ⟨w2.heap.size, 1, none⟩ = some (.slice A ls.length c) := BX.out.cell 1
      have x2 : (w2.alloc (.cells #[.int .i64 nb, .slice A ls.length c, .slice D os.length d, .slice E fl.length f] 96)).cell? ⟨w2.heap.size, 2, none⟩ = some (.slice D os.length d) := BX.out.cell 2
      have x3 : (w2.alloc (.cells #[.int .i64 nb, .slice A ls.length c, .slice D os.length d, .slice E fl.length f] 96)).cell? ⟨w2.heap.size, 3, none⟩ = some (.slice E fl.length f) := BX.out.cell 3
      go_wp2_with fail
      refine (distWeak_any nb A D E c d f w2.heap.size ls os.length fl.length nf (fun k bus => decide (0 < roomF ls os fl k bus)) (w2.alloc (.cells #[.int .i64 nb, .slice A ls.length c, .slice D os.length d, .slice E fl.length f] 96)) (HH.out.to KF.out) HE.out.net f1 (fun k bus wx hk hbx => weakMay_any nb A D E c d f w2.heap.size ls os fl k bus wx ((HH.out.to KF.out).to hbx) ((HG.out.to KF.out).to hbx) (SFl.out.to hbx) HE.out.net HE.out.len HFl.out.ok hk (BX.out.to hbx))).mono ?_
      rintro e w3 ⟨far, Df, df, ⟨hfl, hfar⟩, rfl, hof, hb3⟩
      obtain ⟨gf, cf, hvf, hgf, hgf2⟩ := hof.form (by rw [hfl]; omega)
      cases hvf
      have HF := hide hfar
      have HOF := hide hof
      have K3 := hide (KF.out.then hb3)
      have hn8 := (net_len HE.out.net).1
      have HFL := hide hfl
      clear hfar hof hb3 x0 x1 x2 x3
      rw [hfl]
      clear hfl
      have hz3 := K3.out.size
      go_wp2_with fail
      go_loopw [11, 34] (fun l i wr => ∃ (k : Nat) (L : Option Addr) (lc : Nat), k ≤ nb ∧ i = .int .i64 k ∧ l = .slice L (selL (fun u => decide (0 ≤ at_ far u)) k).length lc ∧ Hid (wr.ownsRow w3.heap.size 3 1 (.slice L (selL (fun u => decide (0 ≤ at_ far u)) k).length lc) (selL (fun u => decide (0 ≤ at_ far u)) k).length (encI (selL (fun u => decide (0 ≤ at_ far u)) k))) ∧ Hid (Below w3.heap.size w3 wr)) (fun _ i _ => nb - (intOf i).toNat)
      case atStart => exact ⟨0, none, 0, Nat.zero_le _, rfl, rfl, hide (World.ownsRow_nil _ _ _ _), hide (Below.refl _ _)⟩
      case round =>
        obtain ⟨k, L, lc, hk, rfl, rfl, HO, HK⟩ := hrel
        by_cases hlt : k < nb
        · have hc := HOF.out.cellAt k (by rw [HFL.out]; omega)
          rw [encI_at far k (by rw [HFL.out]; exact hlt)] at hc
          have hc2 := cellk HK.out hc
          have k0 : (0 : Int) ≤ k := by omega
          have k1 : (k : Int) < nb := by omega
          have hsl := selL_len (fun u => decide (0 ≤ at_ far u)) k
          have hzk := HK.out.size
          clear hc
          by_cases hp : 0 ≤ at_ far k
          · have HS := hide (selL_yes (p := fun u => decide (0 ≤ at_ far u)) (n := k) (by simpa using hp))
            go_wp2_with (at_builtin; refine app_int wr rfl (.tmp 41) (.tmp 43) rfl w3.heap.size L _ lc (selL (fun u => decide (0 ≤ at_ far u)) k) k rfl HO.out wr.heap.size rfl rfl (by omega) (by omega) ?_; intro D5 d5 w5 ho5 hg5)
            have O5 := hide ho5
            have K5 := hide (HK.out.trans (grown_below HO.out hg5 hzk))
            clear ho5 hg5
            go_roundw
            case rel => exact ⟨k + 1, D5, d5, by omega, by go_num, by rw [HS.out, List.length_append]; rfl, by rw [HS.out, List.length_append]; exact O5, K5⟩
            case measure => simp [intOf]; omega
          · have HS := hide (selL_no (p := fun u => decide (0 ≤ at_ far u)) (n := k) (by simpa using hp))
            go_wp2_with fail
            go_roundw
            case rel => exact ⟨k + 1, L, lc, by omega, by go_num, by rw [HS.out], by rw [HS.out]; exact HO, HK⟩
            case measure => simp [intOf]; omega
        · obtain rfl : k = nb := by omega
          go_wp2_with fail
          go_ret
          exact ⟨_, L, lc, .inl ⟨H1.out, fl, _, HR.out, fun u hu => weak_way HF.out u hu, rfl⟩, rfl, own_mono HO.out hz3, K3.out.trans (HK.out.mono hz3)⟩
    · go_simp
      have bk := (Below.refl _ w1).alloc (Nat.le_refl _) (.cells #[.int .i64 0, .slice none 0 0, .slice none 0 0, .slice none 0 0] 96)
      have BZ := (Blk.new w1 96 #[.int .i64 0, .slice none 0 0, .slice none 0 0, .slice none 0 0])
      have BZ' : Blk (w1.alloc (.cells #[.int .i64 0, .slice none 0 0, .slice none 0 0, .slice none 0 0] 96)).drew w1.heap.size 96 #[.int .i64 0, .slice none 0 0, .slice none 0 0, .slice none 0 0] := BZ
      replace hHeld : (w1.alloc (.cells #[.int .i64 0, .slice none 0 0, .slice none 0 0, .slice none 0 0] 96)).drew.cell? ⟨w.heap.size, 0, none⟩ = some (.int .i64 nb) ∧ (w1.alloc (.cells #[.int .i64 0, .slice none 0 0, .slice none 0 0, .slice none 0 0] 96)).drew.cell? ⟨w.heap.size, 1, none⟩ = some (.slice A ls.length c) := ⟨cellk bk g0, cellk bk g1⟩
      refine hK.out _ _ hHeld (fun hHeld => ?_)
      clear hK K
      try simp only [Act.put, List.getElem_toArray, List.getElem_cons_zero, List.getElem_cons_succ, List.setIfInBounds_toArray, List.set_cons_zero, List.set_cons_succ]
      refine wpAnyH_ready (rs := [6]) (by kernel_rfl) (by simp) ?_
      refine AllReadyH.cons rfl (fun K hK => ?_) AllReadyH.nil
      go_simp
      go_at_call 42
      refine (implMostFlows_any _ _ _ _ _ _ _ _ _ _ (show Sl (w1.alloc _).drew (w1.alloc _).drew.heap.size _ _ _ _ from SH.out.to bk.drew) (show Sl (w1.alloc _).drew (w1.alloc _).drew.heap.size _ _ _ _ from SG.out.to bk.drew) hm hn).mono ?_
      rintro e w2 ⟨fl, E, f, hr, rfl, ho, hb2⟩
      go_wp2_with fail
      replace hHeld := And.intro (cellk hb2 hHeld.1) (cellk hb2 hHeld.2)
      refine hK.out _ _ hHeld (fun hHeld => ?_)
      clear hK K
      try simp only [Act.put, List.getElem_toArray, List.getElem_cons_zero, List.getElem_cons_succ, List.setIfInBounds_toArray, List.set_cons_zero, List.set_cons_succ]
      refine wpAnyH_take (i := 7) (v := ?_) rfl (by kernel_rfl) (by kernel_rfl) (by kernel_rfl) (fun _ _ _ h => h) (Or.inl ⟨by rfl, ?_⟩) (by assumption) ?_
      rotate_left
      · intro w' hSw
        (try dsimp only at hSw)
        go_simp
        try (with_reducible rfl)
      simp only [Act.put, List.getElem_toArray, List.getElem_cons_zero, List.getElem_cons_succ, List.setIfInBounds_toArray, List.set_cons_zero, List.set_cons_succ]
      have B2 := BZ'.to hb2
      have x0 : w2.cell? ⟨w1.heap.size, 0, none⟩ = some (.int .i64 0) := B2.cell 0
      have x1 : w2.cell? ⟨w1.heap.size, 1, none⟩ = some (.slice none 0 0) := B2.cell 1
      have x2 : w2.cell? ⟨w1.heap.size, 2, none⟩ = some (.slice none 0 0) := B2.cell 2
      have x3 : w2.cell? ⟨w1.heap.size, 3, none⟩ = some (.slice none 0 0) := B2.cell 3
      have z0 := B2.frozen 0
      have z1 := B2.frozen 1
      have z2 := B2.frozen 2
      have z3 := B2.frozen 3
      refine wpAnyH_ready (rs := [9]) (by kernel_rfl) (by simp) ?_
      refine AllReadyH.cons rfl (fun K hK => ?_) AllReadyH.nil
      go_simp
      have BX := hide ((((B2.set_ 0 (.int .i64 nb)).set_ 1 (.slice A ls.length c)).set_ 2 (.slice D os.length d)).set_ 3 (.slice E fl.length f))
      have kb := (((K1.out.trans (bk.mono hz1)).drew.trans (hb2.mono (by simp; omega))).setCell (p := ⟨w1.heap.size, 0, none⟩) hz1 (.int .i64 nb))
      have KF := hide ((((kb).setCell (p := ⟨w1.heap.size, 1, none⟩) hz1 (.slice A ls.length c)).setCell (p := ⟨w1.heap.size, 2, none⟩) hz1 (.slice D os.length d)).setCell (p := ⟨w1.heap.size, 3, none⟩) hz1 (.slice E fl.length f))
      have HR := hide hr
      have SFl : Hid (Sl ((((w2.setCell ⟨w1.heap.size, 0, none⟩ (.int .i64 nb)).setCell ⟨w1.heap.size, 1, none⟩ (.slice A ls.length c)).setCell ⟨w1.heap.size, 2, none⟩ (.slice D os.length d)).setCell ⟨w1.heap.size, 3, none⟩ (.slice E fl.length f)) ((((w2.setCell ⟨w1.heap.size, 0, none⟩ (.int .i64 nb)).setCell ⟨w1.heap.size, 1, none⟩ (.slice A ls.length c)).setCell ⟨w1.heap.size, 2, none⟩ (.slice D os.length d)).setCell ⟨w1.heap.size, 3, none⟩ (.slice E fl.length f)).heap.size 1 E fl.length (encI fl)) := by
        have hbt := ((((But.refl (fun y => y = w1.heap.size) w2).setCell ⟨w1.heap.size, 0, none⟩ (.int .i64 nb) (fun _ => rfl)).setCell ⟨w1.heap.size, 1, none⟩ (.slice A ls.length c) (fun _ => rfl)).setCell ⟨w1.heap.size, 2, none⟩ (.slice D os.length d) (fun _ => rfl)).setCell ⟨w1.heap.size, 3, none⟩ (.slice E fl.length f) (fun _ => rfl)
        exact hide (Sl.of_own (hbt.own ho fun y hy hye => by have := (ho.lt y hy).1; simp at this; omega))
      replace hHeld : ((((w2.setCell ⟨w1.heap.size, 0, none⟩ (.int .i64 nb)).setCell ⟨w1.heap.size, 1, none⟩ (.slice A ls.length c)).setCell ⟨w1.heap.size, 2, none⟩ (.slice D os.length d)).setCell ⟨w1.heap.size, 3, none⟩ (.slice E fl.length f)).cell? ⟨w.heap.size, 0, none⟩ = some (.int .i64 nb) ∧ ((((w2.setCell ⟨w1.heap.size, 0, none⟩ (.int .i64 nb)).setCell ⟨w1.heap.size, 1, none⟩ (.slice A ls.length c)).setCell ⟨w1.heap.size, 2, none⟩ (.slice D os.length d)).setCell ⟨w1.heap.size, 3, none⟩ (.slice E fl.length f)).cell? ⟨w.heap.size, 1, none⟩ = some (.slice A ls.length c) := by
        have n1 : w1.heap.size ≠ w.heap.size := by omega
        simp [World.cell?_setCell_far, n1, hHeld.1, hHeld.2]
      refine hK.out _ _ hHeld (fun hHeld => ?_)
      clear hK K
      try simp only [Act.put, List.getElem_toArray, List.getElem_cons_zero, List.getElem_cons_succ, List.setIfInBounds_toArray, List.set_cons_zero, List.set_cons_succ]
      refine wpAnyH_done (by kernel_rfl) ?_ _
      clear hHeld bk kb hb2 ho hr g0 g1 B2 BZ BZ' z0 z1 z2 z3
      obtain ⟨v, hv⟩ := HR.out.flo H1.out
      have HFl := hide hv
      clear hv
      have f1 : nf < nb := by have := HE.out.f1; omega
      have x0 : ((((w2.setCell ⟨w1.heap.size, 0, none⟩ (.int .i64 nb)).setCell ⟨w1.heap.size, 1, none⟩ (.slice A ls.length c)).setCell ⟨w1.heap.size, 2, none⟩ (.slice D os.length d)).setCell ⟨w1.heap.size, 3, none⟩ (.slice E fl.length f)).cell? ⟨w1.heap.size, 0, none⟩ = some (.int .i64 nb) := BX.out.cell 0
      have x1 : ((((w2.setCell ⟨w1.heap.size, 0, none⟩ (.int .i64 nb)).setCell ⟨w1.heap.size, 1, none⟩ (.slice A ls.length c)).setCell ⟨w1.heap.size, 2, none⟩ (.slice D os.length d)).setCell ⟨w1.heap.size, 3, none⟩ (.slice E fl.length f)).cell? ⟨w1.heap.size, 1, none⟩ = some (.slice A ls.length c) := BX.out.cell 1
      have x2 : ((((w2.setCell ⟨w1.heap.size, 0, none⟩ (.int .i64 nb)).setCell ⟨w1.heap.size, 1, none⟩ (.slice A ls.length c)).setCell ⟨w1.heap.size, 2, none⟩ (.slice D os.length d)).setCell ⟨w1.heap.size, 3, none⟩ (.slice E fl.length f)).cell? ⟨w1.heap.size, 2, none⟩ = some (.slice D os.length d) := BX.out.cell 2
      have x3 : ((((w2.setCell ⟨w1.heap.size, 0, none⟩ (.int .i64 nb)).setCell ⟨w1.heap.size, 1, none⟩ (.slice A ls.length c)).setCell ⟨w1.heap.size, 2, none⟩ (.slice D os.length d)).setCell ⟨w1.heap.size, 3, none⟩ (.slice E fl.length f)).cell? ⟨w1.heap.size, 3, none⟩ = some (.slice E fl.length f) := BX.out.cell 3
      go_wp2_with fail
      refine (distWeak_any nb A D E c d f w1.heap.size ls os.length fl.length nf (fun k bus => decide (0 < roomF ls os fl k bus)) ((((w2.setCell ⟨w1.heap.size, 0, none⟩ (.int .i64 nb)).setCell ⟨w1.heap.size, 1, none⟩ (.slice A ls.length c)).setCell ⟨w1.heap.size, 2, none⟩ (.slice D os.length d)).setCell ⟨w1.heap.size, 3, none⟩ (.slice E fl.length f)) (HH.out.to KF.out) HE.out.net f1 (fun k bus wx hk hbx => weakMay_any nb A D E c d f w1.heap.size ls os fl k bus wx ((HH.out.to KF.out).to hbx) ((HG.out.to KF.out).to hbx) (SFl.out.to hbx) HE.out.net HE.out.len HFl.out.ok hk (BX.out.to hbx))).mono ?_
      rintro e w3 ⟨far, Df, df, ⟨hfl, hfar⟩, rfl, hof, hb3⟩
      obtain ⟨gf, cf, hvf, hgf, hgf2⟩ := hof.form (by rw [hfl]; omega)
      cases hvf
      have HF := hide hfar
      have HOF := hide hof
      have K3 := hide (KF.out.then hb3)
      have hn8 := (net_len HE.out.net).1
      have HFL := hide hfl
      clear hfar hof hb3 x0 x1 x2 x3
      rw [hfl]
      clear hfl
      have hz3 := K3.out.size
      go_wp2_with fail
      go_loopw [11, 34] (fun l i wr => ∃ (k : Nat) (L : Option Addr) (lc : Nat), k ≤ nb ∧ i = .int .i64 k ∧ l = .slice L (selL (fun u => decide (0 ≤ at_ far u)) k).length lc ∧ Hid (wr.ownsRow w3.heap.size 3 1 (.slice L (selL (fun u => decide (0 ≤ at_ far u)) k).length lc) (selL (fun u => decide (0 ≤ at_ far u)) k).length (encI (selL (fun u => decide (0 ≤ at_ far u)) k))) ∧ Hid (Below w3.heap.size w3 wr)) (fun _ i _ => nb - (intOf i).toNat)
      case atStart => exact ⟨0, none, 0, Nat.zero_le _, rfl, rfl, hide (World.ownsRow_nil _ _ _ _), hide (Below.refl _ _)⟩
      case round =>
        obtain ⟨k, L, lc, hk, rfl, rfl, HO, HK⟩ := hrel
        by_cases hlt : k < nb
        · have hc := HOF.out.cellAt k (by rw [HFL.out]; omega)
          rw [encI_at far k (by rw [HFL.out]; exact hlt)] at hc
          have hc2 := cellk HK.out hc
          have k0 : (0 : Int) ≤ k := by omega
          have k1 : (k : Int) < nb := by omega
          have hsl := selL_len (fun u => decide (0 ≤ at_ far u)) k
          have hzk := HK.out.size
          clear hc
          by_cases hp : 0 ≤ at_ far k
          · have HS := hide (selL_yes (p := fun u => decide (0 ≤ at_ far u)) (n := k) (by simpa using hp))
            go_wp2_with (at_builtin; refine app_int wr rfl (.tmp 41) (.tmp 43) rfl w3.heap.size L _ lc (selL (fun u => decide (0 ≤ at_ far u)) k) k rfl HO.out wr.heap.size rfl rfl (by omega) (by omega) ?_; intro D5 d5 w5 ho5 hg5)
            have O5 := hide ho5
            have K5 := hide (HK.out.trans (grown_below HO.out hg5 hzk))
            clear ho5 hg5
            go_roundw
            case rel => exact ⟨k + 1, D5, d5, by omega, by go_num, by rw [HS.out, List.length_append]; rfl, by rw [HS.out, List.length_append]; exact O5, K5⟩
            case measure => simp [intOf]; omega
          · have HS := hide (selL_no (p := fun u => decide (0 ≤ at_ far u)) (n := k) (by simpa using hp))
            go_wp2_with fail
            go_roundw
            case rel => exact ⟨k + 1, L, lc, by omega, by go_num, by rw [HS.out], by rw [HS.out]; exact HO, HK⟩
            case measure => simp [intOf]; omega
        · obtain rfl : k = nb := by omega
          go_wp2_with fail
          go_ret
          exact ⟨_, L, lc, .inl ⟨H1.out, fl, _, HR.out, fun u hu => weak_way HF.out u hu, rfl⟩, rfl, own_mono HO.out hz3, K3.out.trans (HK.out.mono hz3)⟩

end Go.Proofs.YtijnahflfbjgiaaDoor
