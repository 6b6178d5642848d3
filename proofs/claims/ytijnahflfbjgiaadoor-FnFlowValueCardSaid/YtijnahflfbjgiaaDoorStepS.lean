/-
  Chapter 34: one more unit on the best way, and the most flows; what the reference's functions compute.
-/
import Derived.Test.YtijnahflfbjgiaaDoorFarS
import Derived.Test.YtijnahflfbjgiaaDoorMostW
import Derived.Test.YtijnahflfbjgiaaDoorSkip
namespace Go.Proofs.YtijnahflfbjgiaaDoor
open Go.RowKit
set_option linter.unusedVariables false

theorem f99_at {far : List Int} (u : Nat) (h0 : 0 ≤ at_ far u) (hle : at_ far u ≤ 99) : (at_ far u < 99 ∧ f99 far u = at_ far u) ∨ (at_ far u = 99 ∧ f99 far u = -1) := by
  unfold f99
  simp only [Int.toNat_natCast]
  by_cases h : at_ far u < 99
  · exact .inl ⟨h, by rw [if_pos h]⟩
  · exact .inr ⟨by omega, by rw [if_neg h]⟩
theorem otherF_neg {b : Int} {ls : List (Int × Int × Int)} (hv : netB b ls = true) (k : Nat) (hk : k < ls.length) (u : Int) (h : otherF (at3 ls k) u < 0) : otherF (at3 ls k) u = -1 := by
  obtain ⟨m1, m2, m3, m4⟩ := net_at hv k hk
  unfold otherF at h ⊢
  split at h
  · omega
  · rename_i h1
    rw [if_neg h1]
    split at h
    · omega
    · rename_i h2
      rw [if_neg h2]
/-- The tests of the reference's search for the next line, in its order. -/
theorem step_cases3 {ls : List (Int × Int × Int)} {os : List Bool} {fl : List Int} {far : List Int} {nb bus k s : Nat} (hb : ∀ j, j < nb → 0 ≤ at_ far j ∧ at_ far j ≤ 99) (hs : f99 far bus = s + 1) (hs8 : s < 90) (hbus : bus < nb) (hin : otherF (at3 ls k) bus < nb) (hneg : otherF (at3 ls k) bus < 0 → otherF (at3 ls k) bus = -1) (hr0 : 0 ≤ roomF ls os fl k bus) :
    (otherF (at3 ls k) bus = -1 ∧ okL ls os fl (f99 far) bus k = false) ∨
    (∃ u : Nat, otherF (at3 ls k) bus = u ∧ roomF ls os fl k bus = 0 ∧ okL ls os fl (f99 far) bus k = false) ∨
    (∃ u : Nat, otherF (at3 ls k) bus = u ∧ (roomF ls os fl k bus == 0) = false ∧ (at_ far u != at_ far bus - 1) = true ∧ okL ls os fl (f99 far) bus k = false) ∨
    (∃ u : Nat, otherF (at3 ls k) bus = u ∧ (roomF ls os fl k bus == 0) = false ∧ (at_ far u != at_ far bus - 1) = false ∧ f99 far u = s ∧ okL ls os fl (f99 far) bus k = true) := by
  have hbe : at_ far bus = s + 1 := by
    rcases f99_at bus (hb bus hbus).1 (hb bus hbus).2 with ⟨_, h⟩ | ⟨_, h⟩ <;> omega
  unfold okL
  by_cases h : otherF (at3 ls k) bus < 0
  · exact .inl ⟨hneg h, by simp; omega⟩
  · obtain ⟨u, hu⟩ := Int.eq_ofNat_of_zero_le (show 0 ≤ otherF (at3 ls k) bus by omega)
    rw [hu] at hin ⊢
    have hu2 : u < nb := by omega
    by_cases h3 : 0 < roomF ls os fl k bus
    · by_cases h2 : at_ far u = at_ far bus - 1
      · have h4 : f99 far u = s := by
          rcases f99_at u (hb u hu2).1 (hb u hu2).2 with ⟨_, h⟩ | ⟨h, _⟩ <;> omega
        exact .inr (.inr (.inr ⟨u, rfl, by simp; omega, by simp [h2], h4, by simp [h3, h4, hs]⟩))
      · have h4 : ¬ f99 far u = f99 far bus - 1 := by
          rcases f99_at u (hb u hu2).1 (hb u hu2).2 with ⟨_, h⟩ | ⟨h, _⟩ <;> omega
        exact .inr (.inr (.inl ⟨u, rfl, by simp; omega, by simp [h2], by simp [h4]⟩))
    · exact .inr (.inl ⟨u, rfl, by omega, by simp; intros; omega⟩)

set_option maxRecDepth 8000 in
set_option maxHeartbeats 4000000 in
theorem l34Step_any (nb : Nat) (A D F : Option Addr) (c d f : Nat) (ls : List (Int × Int × Int)) (os : List Bool) (fl : List Int) (nf nt : Nat) (v : Int) (w : World) (h : Sl w w.heap.size 3 A ls.length (enc3 ls)) (g : Sl w w.heap.size 1 D os.length (encB os)) (s : Sl w w.heap.size 1 F fl.length (encI fl))
    (hE : Ends nb ls os.length nf nt) (hF : Flo nb ls os nf nt fl v) (hR : Rea (Res ls os fl) nt nf) :
    Calls Tryd.prog 86 #[.agg #[.int .i64 nb, .slice A ls.length c], .slice D os.length d, .slice F fl.length f, .int .i64 nf, .int .i64 nt] w (MadeInts (One nb ls os nf nt fl) w) := by
  have bw := (Below.refl _ w).alloc (Nat.le_refl _) (.cells #[.int .i64 nb, .slice A ls.length c] 50)
  have B0 := Blk.new w 50 #[.int .i64 nb, .slice A ls.length c]
  obtain ⟨⟨n1, n2⟩, n3⟩ := net_len hE.net
  have f1 : nf < nb := by have := hE.f1; omega
  have t1 : nt < nb := by have := hE.t1; omega
  have HE := hide hE
  have HFl := hide hF
  have HR := hide hR
  have HH := hide h
  have HG := hide g
  have HS := hide s
  have hfl : fl.length ≤ 10 := by rw [hF.ok.1]; exact n3
  have O0 := hide (World.ownsRow_lit (base := w.heap.size + 1) (e := 3) (size := 1) (w.alloc (.cells #[.int .i64 nb, .slice A ls.length c] 50)) #[] 0 (by simp) (Nat.zero_le _) rfl)
  simp only [World.size_alloc] at O0
  have K0 := hide (bw.alloc (by simp) (.cells #[] 3))
  have N0 := hide (B0.alloc (.cells #[] 3))
  have S0 := hide (HS.out.to K0.out)
  clear bw B0 h g s hE hF hR
  go_enter Tryd.func86, Tryd.ntmps86
  go_wp2_with (at_builtin; refine app_ints _ rfl (.tmp 14) (.tmp 15) rfl (w.heap.size + 1) _ 0 0 [] rfl O0.out _ F fl.length f fl rfl S0.out (by simp) (by omega) (by omega) ?_; intro D1 d1 w1 ho1 hg1; have K1 := hide (K0.out.trans ((grown_below O0.out hg1 (by simp)).mono (by omega))); have N1 := hide (N0.out.below (grown_below O0.out hg1 (by simp)) (by omega)); have y0 : w1.cell? ⟨w.heap.size, 0, none⟩ = some (.int .i64 nb) := N1.out.cell 0; have y1 : w1.cell? ⟨w.heap.size, 1, none⟩ = some (.slice A ls.length c) := N1.out.cell 1)
  clear y0 y1
  refine (l34Far_any nb A D F c d f ls os fl nt w1 (HH.out.to K1.out) (HG.out.to K1.out) (HS.out.to K1.out) HE.out.net HE.out.len HFl.out.ok t1).mono ?_
  rintro e w2 ⟨far, Df, df, ⟨hfl2, hfar, hbd⟩, rfl, hof, hb2⟩
  have HWay : Hid (Way nb ls os fl nt (f99 far)) := ⟨HE.out.net, HE.out.t0, HE.out.t1, by simpa using hfar⟩
  obtain ⟨gf, cf, hvf, hgf, hgf2⟩ := hof.form (by rw [hfl2]; omega)
  cases hvf
  have hpos : 0 ≤ f99 far nf := (HWay.out.far.reach HE.out.f0 (by simpa using HE.out.f1)).2 HR.out
  obtain ⟨S, hS⟩ := Int.eq_ofNat_of_zero_le hpos
  have hS8 : S < nb := by
    have h3 := HWay.out.far.lt (u := (nf : Int)) ⟨HE.out.t0, by simpa using HE.out.t1⟩ (fun u v huv => by have := Res.range HE.out.net huv; simp; omega) (by omega) (by simp; omega)
    simp at h3
    omega
  have HSe := hide hS
  have HBD := hide hbd
  have HFL := hide hfl2
  have K2 := hide (K1.out.then hb2)
  have N2 := hide (N1.out.to hb2)
  have O2 := hide (by simpa using (ho1.keepB hb2) : w2.ownsRow (w.heap.size + 1) 3 1 (.slice D1 fl.length d1) fl.length (encI fl))
  have hz1 : w1.heap.size ≤ w2.heap.size := hb2.size
  have OL : Hid (∀ g, (Value.slice D1 fl.length d1).ownBlock = some g → w.heap.size + 1 ≤ g ∧ g < w1.heap.size) := fun g hg => by
    have := ho1.lt g (by simpa using hg)
    exact this
  have cell_far : Hid (∀ u : Nat, u < nb → w2.cell? ⟨gf, u, none⟩ = some (.int .i64 (at_ far u))) := fun u hu => by
    have := hof.cellAt u (by rw [hfl2]; omega)
    rwa [encI_at far u (by rw [hfl2]; exact hu)] at this
  clear hfar hbd hof hb2 ho1 hg1 K0 N0 S0 O0 K1 N1 hS hpos
  have hlf : far.length = nb := hfl2
  have HLF := hide hlf
  rw [hlf]
  clear hlf hfl2
  go_wp2_with fail
  go_loopg [3, 13] S (fun gk buv _ wr => ∃ (P : List (Nat × Int)) (bus : Nat), buv = .int .i64 bus ∧ bus < nb ∧ Hid (f99 far bus = gk) ∧ Hid (P ++ pathF ls os fl (f99 far) gk bus = pathF ls os fl (f99 far) S nf) ∧ Hid (wr.ownsRow (w.heap.size + 1) 3 1 (.slice D1 fl.length d1) fl.length (encI (augL ls 1 P fl))) ∧ Hid (But (fun y => (Value.slice D1 fl.length d1).ownBlock = some y) w2 wr))
  case atStart => exact ⟨[], nf, rfl, f1, HSe, hide rfl, O2, hide (But.refl _ _)⟩
  case round =>
    obtain ⟨P, bus, rfl, hbus, HG1, HP, HO, HB⟩ := hrel
    by_cases hend : bus = nt
    · subst hend
      have hb1 : ((bus : Int) != bus) = false := by simp
      obtain rfl : gk = 0 := by
        have := HWay.out.far.at ⟨HE.out.t0, by simpa using HE.out.t1⟩
        have := HG1.out
        omega
      go_wp2_with fail
      go_ret
      have hpe : P = pathF ls os fl (f99 far) S nf := by have := HP.out; simpa [pathF] using this
      refine ⟨augL ls 1 P fl, D1, d1, ⟨f99 far, HWay.out, by rw [HSe.out]; omega, by rw [hpe, HSe.out]; rfl⟩, by rw [augL_len]; rfl, by rw [augL_len]; exact own_mono HO.out (by omega), ?_⟩
      exact K2.out.trans ((HB.out.to (B := w.heap.size) (by have := K2.out.size; omega) (fun k hk he => by have := OL.out k he; omega)))
    · have hb1 : ((bus : Int) != nt) = true := by simp; omega
      have HEN := hide hend
      clear hend
      obtain ⟨s, rfl⟩ : ∃ s, gk = s + 1 := ⟨gk - 1, by
        rcases Nat.eq_zero_or_pos gk with h0 | h0
        · exfalso
          have := HWay.out.far.zero (u := (bus : Int)) (by omega) (by simp; omega) (by rw [HG1.out, h0]; rfl)
          exact HEN.out (by omega)
        · omega⟩
      obtain ⟨kx, hkx⟩ := HWay.out.line (bus := (bus : Int)) (by omega) (by omega) (by rw [HG1.out]; omega)
      have HKX := hide hkx
      have hkl := (find_some hkx).1
      have HPS := hide (pathF_some (s := s) hkx)
      have hs90 : s < 90 := by
        have h3 := HWay.out.far.lt (u := (bus : Int)) ⟨HE.out.t0, by simpa using HE.out.t1⟩ (fun u v huv => by have := Res.range HE.out.net huv; simp; omega) (by omega) (by simp; omega)
        have := HG1.out
        simp at h3
        omega
      clear hkx
      have hzr := HB.out.size
      have hfp : 0 < fl.length := by have := HFl.out.ok.1; omega
      obtain ⟨gO, cO, hvO, hgO, hgO2⟩ := HO.out.form hfp
      cases hvO
      have hgl := (OL.out gO rfl)
      obtain ⟨hgl1, hgl2⟩ := hgl
      have BB : Hid (But (fun y => y = gO) w2 wr) := HB.out.less (fun y _ he => by simp [Value.ownBlock] at he; exact he.symm)
      have KW : Hid (Below w.heap.size w wr) := K2.out.trans (BB.out.to (B := w.heap.size) (by have := K2.out.size; omega) (fun y hy he => by omega))
      have N3 := hide (BB.out.blk N2.out (by omega))
      have SHo := hide (HH.out.to KW.out)
      have SGo := hide (HG.out.to KW.out)
      have SFo := hide (HS.out.to KW.out)
      have CF : Hid (∀ u : Nat, u < nb → wr.cell? ⟨gf, u, none⟩ = some (.int .i64 (at_ far u))) := fun u hu => BB.out.cell (cell_far.out u hu) (by show ¬ gf = gO; omega)
      obtain ⟨wo, hwo⟩ : ∃ wo : World, wo = wr := ⟨_, rfl⟩
      have HWO := hide hwo
      rw [← hwo] at HO HB BB KW N3 SHo SGo SFo CF
      rw [← hwo] at hzr hgO2
      clear hwo
      go_wp2_with fail
      go_loopw [13] (fun x wr => ∃ k : Nat, k ≤ kx ∧ x = .int .i64 k ∧ Hid (Below wo.heap.size wo wr)) (fun x _ => ls.length - (intOf x).toNat)
      case atStart => exact ⟨0, Nat.zero_le _, rfl, by rw [HWO.out]; exact hide (Below.refl _ _)⟩
      case round =>
        obtain ⟨k, hk, rfl, HK3⟩ := hrel
        have hklt : k < ls.length := by omega
        have hin : otherF (at3 ls k) bus < nb := by
          obtain ⟨m1, m2, m3, m4⟩ := net_at HE.out.net k hklt
          by_cases h0 : 0 ≤ otherF (at3 ls k) bus
          · rcases otherF_cases h0 with ⟨e1, e2⟩ | ⟨e1, _, e2⟩ <;> omega
          · omega
        obtain ⟨rr0, rr1⟩ := room_in_range HE.out.net HFl.out.ok k hklt bus
        have N4 := hide (N3.out.to HK3.out)
        have y0 : wr.cell? ⟨w.heap.size, 0, none⟩ = some (.int .i64 nb) := N4.out.cell 0
        have y1 : wr.cell? ⟨w.heap.size, 1, none⟩ = some (.slice A ls.length c) := N4.out.cell 1
        have cb := cellk HK3.out (CF.out bus hbus)
        have bus0 : (0 : Int) ≤ bus := by omega
        have bus1 : (bus : Int) < nb := by omega
        obtain ⟨sb1, sb2⟩ := HBD.out bus hbus
        have hw1 : IntKind.i64.wrap (at_ far bus - 1) = at_ far bus - 1 := IntWalk.i64_in _ (by omega)
        have HKa := HK3.out.drew
        have k0 : (0 : Int) ≤ k := by omega
        have k1 : (k : Int) < ls.length := by omega
        rcases step_cases3 (os := os) (fl := fl) HBD.out HG1.out hs90 hbus hin (otherF_neg HE.out.net k hklt bus) rr0 with ⟨q1, q⟩ | ⟨u, q1, q2, q⟩ | ⟨u, q1, q2, q3, q⟩ | ⟨u, q1, q2, q3, q4, q⟩
        · have hkx2 : k < kx := by
            rcases Nat.lt_or_eq_of_le hk with h | h
            · exact h
            · subst h; have := (find_some HKX.out).2.1; rw [q] at this; cases this
          clear q
          go_wp2_with fail
          refine wp_region_held_drew (S := fun w' => w'.cell? ⟨w.heap.size, 0, none⟩ = some (.int .i64 nb) ∧ w'.cell? ⟨w.heap.size, 1, none⟩ = some (.slice A ls.length c)) (by kernel_rfl) ⟨y0, y1⟩ (fun hHeld => ?_)
          refine wpAnyH_take (i := 0) (v := ?_) rfl (by kernel_rfl) (by kernel_rfl) (by kernel_rfl) (fun _ _ _ h => h) (Or.inl ⟨by rfl, ?_⟩) (by assumption) ?_
          rotate_left
          · intro w' hSw
            (try dsimp only at hSw)
            go_simp
            try (with_reducible rfl)
          simp only [Act.put, List.getElem_toArray, List.getElem_cons_zero, List.setIfInBounds_toArray, List.set_cons_zero, List.set_cons_succ]
          refine wpAnyH_take (i := 1) (v := ?_) rfl (by kernel_rfl) (by kernel_rfl) (by kernel_rfl) (fun _ _ _ h => h) (Or.inl ⟨by rfl, ?_⟩) (by assumption) ?_
          rotate_left
          · intro w' hSw
            (try dsimp only at hSw)
            go_simp
            try (with_reducible rfl)
          simp only [Act.put, List.getElem_toArray, List.getElem_cons_zero, List.getElem_cons_succ, List.setIfInBounds_toArray, List.set_cons_zero, List.set_cons_succ]
          refine wpAnyH_take (i := 2) (v := ?_) rfl (by kernel_rfl) (by kernel_rfl) (by kernel_rfl) (fun _ _ _ h => h) (Or.inl ⟨by rfl, ?_⟩) (by assumption) ?_
          rotate_left
          · intro w' hSw
            (try dsimp only at hSw)
            go_simp
            try (with_reducible rfl)
          simp only [Act.put, List.getElem_toArray, List.getElem_cons_zero, List.getElem_cons_succ, List.setIfInBounds_toArray, List.set_cons_zero, List.set_cons_succ]
          refine wpAnyH_ready (rs := [3]) (by kernel_rfl) (by simp) ?_
          refine AllReadyH.cons rfl (fun K hK => ?_) AllReadyH.nil
          go_simp
          go_at_call 108
          refine (specOtherEnd_any _ _ _ _ _ _ _ (SHo.out.to HKa) HE.out.net hklt).mono ?_
          rintro e w5 ⟨rfl, hb5⟩
          replace HKa := HKa.then hb5
          go_wp2_with fail
          replace hHeld := And.intro (cellk hb5 hHeld.1) (cellk hb5 hHeld.2)
          refine hK.out _ _ hHeld (fun hHeld => ?_)
          clear hK K
          try simp only [Act.put, List.getElem_toArray, List.getElem_cons_zero, List.getElem_cons_succ, List.setIfInBounds_toArray, List.set_cons_zero, List.set_cons_succ]
          refine wpAnyH_take (i := 4) (v := ?_) rfl (by kernel_rfl) (by kernel_rfl) (by kernel_rfl) (fun _ _ _ h => h) (Or.inl ⟨by rfl, ?_⟩) (by assumption) ?_
          rotate_left
          · intro w' hSw
            (try dsimp only at hSw)
            go_simp
            try (with_reducible rfl)
          simp only [Act.put, List.getElem_toArray, List.getElem_cons_zero, List.getElem_cons_succ, List.setIfInBounds_toArray, List.set_cons_zero, List.set_cons_succ]
          refine wpAnyH_take (i := 5) (v := ?_) rfl (by kernel_rfl) (by kernel_rfl) (by kernel_rfl) (fun _ _ _ h => h) (Or.inl ⟨by rfl, ?_⟩) (by assumption) ?_
          rotate_left
          · intro w' hSw
            (try dsimp only at hSw)
            go_simp
            try (with_reducible rfl)
          simp only [Act.put, List.getElem_toArray, List.getElem_cons_zero, List.getElem_cons_succ, List.setIfInBounds_toArray, List.set_cons_zero, List.set_cons_succ]
          refine wpAnyH_skips (by kernel_rfl) [6, 7, 8, 9, 10] _ _ _ _ (by kernel_rfl) (by rfl) (by assumption) (fun _ _ _ _ _ h => h) ?_
          simp only [skips, marks, Act.put, List.getElem?_toArray, List.getElem?_cons_zero, List.getElem?_cons_succ, List.setIfInBounds_toArray, List.set_cons_zero, List.set_cons_succ]
          refine wpAnyH_ready (rs := [11]) (by kernel_rfl) (by simp) ?_
          refine AllReadyH.cons rfl (fun K hK => ?_) AllReadyH.nil
          go_simp
          refine hK.out _ _ hHeld (fun hHeld => ?_)
          clear hK K
          try simp only [Act.put, List.getElem_toArray, List.getElem_cons_zero, List.getElem_cons_succ, List.setIfInBounds_toArray, List.set_cons_zero, List.set_cons_succ]
          refine wpAnyH_skips (by kernel_rfl) [12] _ _ _ _ (by kernel_rfl) (by rfl) (by assumption) (fun _ _ _ _ _ h => h) ?_
          simp only [skips, marks, Act.put, List.getElem?_toArray, List.getElem?_cons_zero, List.getElem?_cons_succ, List.setIfInBounds_toArray, List.set_cons_zero, List.set_cons_succ]
          refine wpAnyH_take (i := 13) (v := ?_) rfl (by kernel_rfl) (by kernel_rfl) (by kernel_rfl) (fun _ _ _ h => h) (Or.inl ⟨by rfl, ?_⟩) (by assumption) ?_
          rotate_left
          · intro w' hSw
            (try dsimp only at hSw)
            go_simp
            try (with_reducible rfl)
          simp only [Act.put, List.getElem_toArray, List.getElem_cons_zero, List.getElem_cons_succ, List.setIfInBounds_toArray, List.set_cons_zero, List.set_cons_succ]
          refine wpAnyH_take (i := 14) (v := ?_) rfl (by kernel_rfl) (by kernel_rfl) (by kernel_rfl) (fun _ _ _ h => h) (Or.inl ⟨by rfl, ?_⟩) (by assumption) ?_
          rotate_left
          · intro w' hSw
            (try dsimp only at hSw)
            go_simp
            try (with_reducible rfl)
          simp only [Act.put, List.getElem_toArray, List.getElem_cons_zero, List.getElem_cons_succ, List.setIfInBounds_toArray, List.set_cons_zero, List.set_cons_succ]
          refine wpAnyH_skips (by kernel_rfl) [15, 16, 17, 18, 22, 23, 24] _ _ _ _ (by kernel_rfl) (by rfl) (by assumption) (fun _ _ _ _ _ h => h) ?_
          simp only [skips, marks, Act.put, List.getElem?_toArray, List.getElem?_cons_zero, List.getElem?_cons_succ, List.setIfInBounds_toArray, List.set_cons_zero, List.set_cons_succ]
          refine wpAnyH_ready (rs := [19, 25]) (by kernel_rfl) (by simp) ?_
          refine AllReadyH.cons rfl (fun K hK => ?_) (AllReadyH.cons rfl (fun K hK => ?_) AllReadyH.nil)
          · skip
            go_simp
            refine hK.out _ _ hHeld (fun hHeld => ?_)
            clear hK K
            try simp only [Act.put, List.getElem_toArray, List.getElem_cons_zero, List.getElem_cons_succ, List.setIfInBounds_toArray, List.set_cons_zero, List.set_cons_succ]
            refine wpAnyH_skips (by kernel_rfl) [20, 21, 25, 26, 27] _ _ _ _ (by kernel_rfl) (by rfl) (by assumption) (fun _ _ _ _ _ h => h) ?_
            simp only [skips, marks, Act.put, List.getElem?_toArray, List.getElem?_cons_zero, List.getElem?_cons_succ, List.setIfInBounds_toArray, List.set_cons_zero, List.set_cons_succ]
            refine wpAnyH_take (i := 28) (v := ?_) rfl (by kernel_rfl) (by kernel_rfl) (by kernel_rfl) (fun _ _ _ h => h) (Or.inl ⟨by rfl, ?_⟩) (by assumption) ?_
            rotate_left
            · intro w' hSw
              (try dsimp only at hSw)
              go_simp
              try (with_reducible rfl)
            simp only [Act.put, List.getElem_toArray, List.getElem_cons_zero, List.getElem_cons_succ, List.setIfInBounds_toArray, List.set_cons_zero, List.set_cons_succ]
            refine wpAnyH_done (by kernel_rfl) ?_ _
            have HK6 := hide HKa
            clear HKa
            go_wp2_with fail
            go_roundw
            case rel => exact ⟨k + 1, by omega, by go_num, HK6⟩
            case measure => simp [intOf]; omega
          · skip
            go_simp
            refine hK.out _ _ hHeld (fun hHeld => ?_)
            clear hK K
            try simp only [Act.put, List.getElem_toArray, List.getElem_cons_zero, List.getElem_cons_succ, List.setIfInBounds_toArray, List.set_cons_zero, List.set_cons_succ]
            refine wpAnyH_skips (by kernel_rfl) [26] _ _ _ _ (by kernel_rfl) (by rfl) (by assumption) (fun _ _ _ _ _ h => h) ?_
            simp only [skips, marks, Act.put, List.getElem?_toArray, List.getElem?_cons_zero, List.getElem?_cons_succ, List.setIfInBounds_toArray, List.set_cons_zero, List.set_cons_succ]
            refine wpAnyH_ready (rs := [19]) (by kernel_rfl) (by simp) ?_
            refine AllReadyH.cons rfl (fun K hK => ?_) AllReadyH.nil
            go_simp
            refine hK.out _ _ hHeld (fun hHeld => ?_)
            clear hK K
            try simp only [Act.put, List.getElem_toArray, List.getElem_cons_zero, List.getElem_cons_succ, List.setIfInBounds_toArray, List.set_cons_zero, List.set_cons_succ]
            refine wpAnyH_skips (by kernel_rfl) [20, 21, 27] _ _ _ _ (by kernel_rfl) (by rfl) (by assumption) (fun _ _ _ _ _ h => h) ?_
            simp only [skips, marks, Act.put, List.getElem?_toArray, List.getElem?_cons_zero, List.getElem?_cons_succ, List.setIfInBounds_toArray, List.set_cons_zero, List.set_cons_succ]
            refine wpAnyH_take (i := 28) (v := ?_) rfl (by kernel_rfl) (by kernel_rfl) (by kernel_rfl) (fun _ _ _ h => h) (Or.inl ⟨by rfl, ?_⟩) (by assumption) ?_
            rotate_left
            · intro w' hSw
              (try dsimp only at hSw)
              go_simp
              try (with_reducible rfl)
            simp only [Act.put, List.getElem_toArray, List.getElem_cons_zero, List.getElem_cons_succ, List.setIfInBounds_toArray, List.set_cons_zero, List.set_cons_succ]
            refine wpAnyH_done (by kernel_rfl) ?_ _
            have HK6 := hide HKa
            clear HKa
            go_wp2_with fail
            go_roundw
            case rel => exact ⟨k + 1, by omega, by go_num, HK6⟩
            case measure => simp [intOf]; omega
        · have hkx2 : k < kx := by
            rcases Nat.lt_or_eq_of_le hk with h | h
            · exact h
            · subst h; have := (find_some HKX.out).2.1; rw [q] at this; cases this
          have hg1 : decide (((u : Nat) : Int) < 0) = false := by simp
          clear q
          go_wp2_with fail
          refine wp_region_held_drew (S := fun w' => w'.cell? ⟨w.heap.size, 0, none⟩ = some (.int .i64 nb) ∧ w'.cell? ⟨w.heap.size, 1, none⟩ = some (.slice A ls.length c)) (by kernel_rfl) ⟨y0, y1⟩ (fun hHeld => ?_)
          refine wpAnyH_take (i := 0) (v := ?_) rfl (by kernel_rfl) (by kernel_rfl) (by kernel_rfl) (fun _ _ _ h => h) (Or.inl ⟨by rfl, ?_⟩) (by assumption) ?_
          rotate_left
          · intro w' hSw
            (try dsimp only at hSw)
            go_simp
            try (with_reducible rfl)
          simp only [Act.put, List.getElem_toArray, List.getElem_cons_zero, List.setIfInBounds_toArray, List.set_cons_zero, List.set_cons_succ]
          refine wpAnyH_take (i := 1) (v := ?_) rfl (by kernel_rfl) (by kernel_rfl) (by kernel_rfl) (fun _ _ _ h => h) (Or.inl ⟨by rfl, ?_⟩) (by assumption) ?_
          rotate_left
          · intro w' hSw
            (try dsimp only at hSw)
            go_simp
            try (with_reducible rfl)
          simp only [Act.put, List.getElem_toArray, List.getElem_cons_zero, List.getElem_cons_succ, List.setIfInBounds_toArray, List.set_cons_zero, List.set_cons_succ]
          refine wpAnyH_take (i := 2) (v := ?_) rfl (by kernel_rfl) (by kernel_rfl) (by kernel_rfl) (fun _ _ _ h => h) (Or.inl ⟨by rfl, ?_⟩) (by assumption) ?_
          rotate_left
          · intro w' hSw
            (try dsimp only at hSw)
            go_simp
            try (with_reducible rfl)
          simp only [Act.put, List.getElem_toArray, List.getElem_cons_zero, List.getElem_cons_succ, List.setIfInBounds_toArray, List.set_cons_zero, List.set_cons_succ]
          refine wpAnyH_ready (rs := [3]) (by kernel_rfl) (by simp) ?_
          refine AllReadyH.cons rfl (fun K hK => ?_) AllReadyH.nil
          go_simp
          go_at_call 108
          refine (specOtherEnd_any _ _ _ _ _ _ _ (SHo.out.to HKa) HE.out.net hklt).mono ?_
          rintro e w5 ⟨rfl, hb5⟩
          replace HKa := HKa.then hb5
          go_wp2_with fail
          replace hHeld := And.intro (cellk hb5 hHeld.1) (cellk hb5 hHeld.2)
          refine hK.out _ _ hHeld (fun hHeld => ?_)
          clear hK K
          try simp only [Act.put, List.getElem_toArray, List.getElem_cons_zero, List.getElem_cons_succ, List.setIfInBounds_toArray, List.set_cons_zero, List.set_cons_succ]
          refine wpAnyH_take (i := 4) (v := ?_) rfl (by kernel_rfl) (by kernel_rfl) (by kernel_rfl) (fun _ _ _ h => h) (Or.inl ⟨by rfl, ?_⟩) (by assumption) ?_
          rotate_left
          · intro w' hSw
            (try dsimp only at hSw)
            go_simp
            try (with_reducible rfl)
          simp only [Act.put, List.getElem_toArray, List.getElem_cons_zero, List.getElem_cons_succ, List.setIfInBounds_toArray, List.set_cons_zero, List.set_cons_succ]
          refine wpAnyH_take (i := 5) (v := ?_) rfl (by kernel_rfl) (by kernel_rfl) (by kernel_rfl) (fun _ _ _ h => h) (Or.inl ⟨by rfl, ?_⟩) (by assumption) ?_
          rotate_left
          · intro w' hSw
            (try dsimp only at hSw)
            go_simp
            try (with_reducible rfl)
          simp only [Act.put, List.getElem_toArray, List.getElem_cons_zero, List.getElem_cons_succ, List.setIfInBounds_toArray, List.set_cons_zero, List.set_cons_succ]
          refine wpAnyH_take (i := 6) (v := ?_) rfl (by kernel_rfl) (by kernel_rfl) (by kernel_rfl) (fun _ _ _ h => h) (Or.inl ⟨by rfl, ?_⟩) (by assumption) ?_
          rotate_left
          · intro w' hSw
            (try dsimp only at hSw)
            go_simp
            try (with_reducible rfl)
          simp only [Act.put, List.getElem_toArray, List.getElem_cons_zero, List.getElem_cons_succ, List.setIfInBounds_toArray, List.set_cons_zero, List.set_cons_succ]
          refine wpAnyH_take (i := 7) (v := ?_) rfl (by kernel_rfl) (by kernel_rfl) (by kernel_rfl) (fun _ _ _ h => h) (Or.inl ⟨by rfl, ?_⟩) (by assumption) ?_
          rotate_left
          · intro w' hSw
            (try dsimp only at hSw)
            go_simp
            try (with_reducible rfl)
          simp only [Act.put, List.getElem_toArray, List.getElem_cons_zero, List.getElem_cons_succ, List.setIfInBounds_toArray, List.set_cons_zero, List.set_cons_succ]
          refine wpAnyH_take (i := 8) (v := ?_) rfl (by kernel_rfl) (by kernel_rfl) (by kernel_rfl) (fun _ _ _ h => h) (Or.inl ⟨by rfl, ?_⟩) (by assumption) ?_
          rotate_left
          · intro w' hSw
            (try dsimp only at hSw)
            go_simp
            try (with_reducible rfl)
          simp only [Act.put, List.getElem_toArray, List.getElem_cons_zero, List.getElem_cons_succ, List.setIfInBounds_toArray, List.set_cons_zero, List.set_cons_succ]
          refine wpAnyH_take (i := 9) (v := ?_) rfl (by kernel_rfl) (by kernel_rfl) (by kernel_rfl) (fun _ _ _ h => h) (Or.inl ⟨by rfl, ?_⟩) (by assumption) ?_
          rotate_left
          · intro w' hSw
            (try dsimp only at hSw)
            go_simp
            try (with_reducible rfl)
          simp only [Act.put, List.getElem_toArray, List.getElem_cons_zero, List.getElem_cons_succ, List.setIfInBounds_toArray, List.set_cons_zero, List.set_cons_succ]
          refine wpAnyH_take (i := 10) (v := ?_) rfl (by kernel_rfl) (by kernel_rfl) (by kernel_rfl) (fun _ _ _ h => h) (Or.inl ⟨by rfl, ?_⟩) (by assumption) ?_
          rotate_left
          · intro w' hSw
            (try dsimp only at hSw)
            go_simp
            try (with_reducible rfl)
          simp only [Act.put, List.getElem_toArray, List.getElem_cons_zero, List.getElem_cons_succ, List.setIfInBounds_toArray, List.set_cons_zero, List.set_cons_succ]
          refine wpAnyH_ready (rs := [11]) (by kernel_rfl) (by simp) ?_
          refine AllReadyH.cons rfl (fun K hK => ?_) AllReadyH.nil
          go_simp
          go_at_call 107
          refine (l34Room_any _ _ _ _ _ _ _ _ _ _ _ _ _ (SHo.out.to HKa) (SGo.out.to HKa) (SFo.out.to HKa) HE.out.net HE.out.len HFl.out.ok hklt).mono ?_
          rintro e w5 ⟨rfl, hb5⟩
          replace HKa := HKa.then hb5
          go_wp2_with fail
          replace hHeld := And.intro (cellk hb5 hHeld.1) (cellk hb5 hHeld.2)
          refine hK.out _ _ hHeld (fun hHeld => ?_)
          clear hK K
          try simp only [Act.put, List.getElem_toArray, List.getElem_cons_zero, List.getElem_cons_succ, List.setIfInBounds_toArray, List.set_cons_zero, List.set_cons_succ]
          refine wpAnyH_take (i := 12) (v := ?_) rfl (by kernel_rfl) (by kernel_rfl) (by kernel_rfl) (fun _ _ _ h => h) (Or.inl ⟨by rfl, ?_⟩) (by assumption) ?_
          rotate_left
          · intro w' hSw
            (try dsimp only at hSw)
            go_simp
            try (with_reducible rfl)
          simp only [Act.put, List.getElem_toArray, List.getElem_cons_zero, List.getElem_cons_succ, List.setIfInBounds_toArray, List.set_cons_zero, List.set_cons_succ]
          refine wpAnyH_take (i := 13) (v := ?_) rfl (by kernel_rfl) (by kernel_rfl) (by kernel_rfl) (fun _ _ _ h => h) (Or.inl ⟨by rfl, ?_⟩) (by assumption) ?_
          rotate_left
          · intro w' hSw
            (try dsimp only at hSw)
            go_simp
            try (with_reducible rfl)
          simp only [Act.put, List.getElem_toArray, List.getElem_cons_zero, List.getElem_cons_succ, List.setIfInBounds_toArray, List.set_cons_zero, List.set_cons_succ]
          refine wpAnyH_take (i := 14) (v := ?_) rfl (by kernel_rfl) (by kernel_rfl) (by kernel_rfl) (fun _ _ _ h => h) (Or.inl ⟨by rfl, ?_⟩) (by assumption) ?_
          rotate_left
          · intro w' hSw
            (try dsimp only at hSw)
            go_simp
            try (with_reducible rfl)
          simp only [Act.put, List.getElem_toArray, List.getElem_cons_zero, List.getElem_cons_succ, List.setIfInBounds_toArray, List.set_cons_zero, List.set_cons_succ]
          refine wpAnyH_skips (by kernel_rfl) [15, 16, 17, 18, 22, 23, 24] _ _ _ _ (by kernel_rfl) (by rfl) (by assumption) (fun _ _ _ _ _ h => h) ?_
          simp only [skips, marks, Act.put, List.getElem?_toArray, List.getElem?_cons_zero, List.getElem?_cons_succ, List.setIfInBounds_toArray, List.set_cons_zero, List.set_cons_succ]
          refine wpAnyH_ready (rs := [19, 25]) (by kernel_rfl) (by simp) ?_
          refine AllReadyH.cons rfl (fun K hK => ?_) (AllReadyH.cons rfl (fun K hK => ?_) AllReadyH.nil)
          · skip
            go_simp
            refine hK.out _ _ hHeld (fun hHeld => ?_)
            clear hK K
            try simp only [Act.put, List.getElem_toArray, List.getElem_cons_zero, List.getElem_cons_succ, List.setIfInBounds_toArray, List.set_cons_zero, List.set_cons_succ]
            refine wpAnyH_skips (by kernel_rfl) [20, 21, 25, 26, 27] _ _ _ _ (by kernel_rfl) (by rfl) (by assumption) (fun _ _ _ _ _ h => h) ?_
            simp only [skips, marks, Act.put, List.getElem?_toArray, List.getElem?_cons_zero, List.getElem?_cons_succ, List.setIfInBounds_toArray, List.set_cons_zero, List.set_cons_succ]
            refine wpAnyH_take (i := 28) (v := ?_) rfl (by kernel_rfl) (by kernel_rfl) (by kernel_rfl) (fun _ _ _ h => h) (Or.inl ⟨by rfl, ?_⟩) (by assumption) ?_
            rotate_left
            · intro w' hSw
              (try dsimp only at hSw)
              go_simp
              try (with_reducible rfl)
            simp only [Act.put, List.getElem_toArray, List.getElem_cons_zero, List.getElem_cons_succ, List.setIfInBounds_toArray, List.set_cons_zero, List.set_cons_succ]
            refine wpAnyH_done (by kernel_rfl) ?_ _
            have HK6 := hide HKa
            clear HKa
            go_wp2_with fail
            go_roundw
            case rel => exact ⟨k + 1, by omega, by go_num, HK6⟩
            case measure => simp [intOf]; omega
          · skip
            go_simp
            refine hK.out _ _ hHeld (fun hHeld => ?_)
            clear hK K
            try simp only [Act.put, List.getElem_toArray, List.getElem_cons_zero, List.getElem_cons_succ, List.setIfInBounds_toArray, List.set_cons_zero, List.set_cons_succ]
            refine wpAnyH_skips (by kernel_rfl) [26] _ _ _ _ (by kernel_rfl) (by rfl) (by assumption) (fun _ _ _ _ _ h => h) ?_
            simp only [skips, marks, Act.put, List.getElem?_toArray, List.getElem?_cons_zero, List.getElem?_cons_succ, List.setIfInBounds_toArray, List.set_cons_zero, List.set_cons_succ]
            refine wpAnyH_ready (rs := [19]) (by kernel_rfl) (by simp) ?_
            refine AllReadyH.cons rfl (fun K hK => ?_) AllReadyH.nil
            go_simp
            refine hK.out _ _ hHeld (fun hHeld => ?_)
            clear hK K
            try simp only [Act.put, List.getElem_toArray, List.getElem_cons_zero, List.getElem_cons_succ, List.setIfInBounds_toArray, List.set_cons_zero, List.set_cons_succ]
            refine wpAnyH_skips (by kernel_rfl) [20, 21, 27] _ _ _ _ (by kernel_rfl) (by rfl) (by assumption) (fun _ _ _ _ _ h => h) ?_
            simp only [skips, marks, Act.put, List.getElem?_toArray, List.getElem?_cons_zero, List.getElem?_cons_succ, List.setIfInBounds_toArray, List.set_cons_zero, List.set_cons_succ]
            refine wpAnyH_take (i := 28) (v := ?_) rfl (by kernel_rfl) (by kernel_rfl) (by kernel_rfl) (fun _ _ _ h => h) (Or.inl ⟨by rfl, ?_⟩) (by assumption) ?_
            rotate_left
            · intro w' hSw
              (try dsimp only at hSw)
              go_simp
              try (with_reducible rfl)
            simp only [Act.put, List.getElem_toArray, List.getElem_cons_zero, List.getElem_cons_succ, List.setIfInBounds_toArray, List.set_cons_zero, List.set_cons_succ]
            refine wpAnyH_done (by kernel_rfl) ?_ _
            have HK6 := hide HKa
            clear HKa
            go_wp2_with fail
            go_roundw
            case rel => exact ⟨k + 1, by omega, by go_num, HK6⟩
            case measure => simp [intOf]; omega
        · have hkx2 : k < kx := by
            rcases Nat.lt_or_eq_of_le hk with h | h
            · exact h
            · subst h; have := (find_some HKX.out).2.1; rw [q] at this; cases this
          have hu : u < nb := by omega
          have hg1 : decide (((u : Nat) : Int) < 0) = false := by simp
          have cu := cellk HK3.out (CF.out u hu)
          have u0 : (0 : Int) ≤ u := by omega
          have u1 : (u : Int) < nb := by omega
          clear q
          go_wp2_with fail
          go_region_held3 (fun w' => w'.cell? ⟨w.heap.size, 0, none⟩ = some (.int .i64 nb) ∧ w'.cell? ⟨w.heap.size, 1, none⟩ = some (.slice A ls.length c) ∧ w'.cell? ⟨gf, u, none⟩ = some (.int .i64 (at_ far u)) ∧ w'.cell? ⟨gf, bus, none⟩ = some (.int .i64 (at_ far bus)))
            (first | go_keep | (refine ⟨cellk hb5 ?_, cellk hb5 ?_, cellk hb5 ?_, cellk hb5 ?_⟩ <;> go_keep))
            (first | (go_at_call 108; refine (specOtherEnd_any _ _ _ _ _ _ _ ?_ HE.out.net hklt).mono ?_; exact SHo.out.to HKa; rintro e w5 ⟨rfl, hb5⟩; replace HKa := HKa.then hb5) | (go_at_call 107; refine (l34Room_any _ _ _ _ _ _ _ _ _ _ _ _ _ ?_ ?_ ?_ HE.out.net HE.out.len HFl.out.ok hklt).mono ?_; exact SHo.out.to HKa; exact SGo.out.to HKa; exact SFo.out.to HKa; rintro e w5 ⟨rfl, hb5⟩; replace HKa := HKa.then hb5))
          have HK6 := hide HKa
          clear HKa
          go_wp2_with fail
          go_roundw
          case rel => exact ⟨k + 1, by omega, by go_num, HK6⟩
          case measure => simp [intOf]; omega
        · have hu : u < nb := by omega
          obtain rfl : k = kx := by
            rcases Nat.lt_or_eq_of_le hk with h | h
            · have := (find_some HKX.out).2.2 k h; rw [q] at this; cases this
            · exact h
          have hg1 : decide (((u : Nat) : Int) < 0) = false := by simp
          have cu := cellk HK3.out (CF.out u hu)
          have u0 : (0 : Int) ≤ u := by omega
          have u1 : (u : Int) < nb := by omega
          have Q1 := hide q1
          have Q4 := hide q4
          clear q q4
          go_wp2_with fail
          go_region_held3 (fun w' => w'.cell? ⟨w.heap.size, 0, none⟩ = some (.int .i64 nb) ∧ w'.cell? ⟨w.heap.size, 1, none⟩ = some (.slice A ls.length c) ∧ w'.cell? ⟨gf, u, none⟩ = some (.int .i64 (at_ far u)) ∧ w'.cell? ⟨gf, bus, none⟩ = some (.int .i64 (at_ far bus)))
            (first | go_keep | (refine ⟨cellk hb5 ?_, cellk hb5 ?_, cellk hb5 ?_, cellk hb5 ?_⟩ <;> go_keep))
            (first | (go_at_call 108; refine (specOtherEnd_any _ _ _ _ _ _ _ ?_ HE.out.net hklt).mono ?_; exact SHo.out.to HKa; rintro e w5 ⟨rfl, hb5⟩; replace HKa := HKa.then hb5) | (go_at_call 107; refine (l34Room_any _ _ _ _ _ _ _ _ _ _ _ _ _ ?_ ?_ ?_ HE.out.net HE.out.len HFl.out.ok hklt).mono ?_; exact SHo.out.to HKa; exact SGo.out.to HKa; exact SFo.out.to HKa; rintro e w5 ⟨rfl, hb5⟩; replace HKa := HKa.then hb5))
          have HK6 := hide HKa
          clear HKa
          clear y0 y1 cb cu
          have KW6 := hide (KW.out.then HK6.out)
          have N6 := hide (N3.out.to HK6.out)
          have O6 := hide (HO.out.keepB HK6.out)
          have B6 := hide (HB.out.below HK6.out)
          have y0 : w5.cell? ⟨w.heap.size, 0, none⟩ = some (.int .i64 nb) := N6.out.cell 0
          have y1 : w5.cell? ⟨w.heap.size, 1, none⟩ = some (.slice A ls.length c) := N6.out.cell 1
          obtain ⟨b0, o0, hA, hb, hd0, hd1, hd2⟩ := (HH.out.to KW6.out).three k hklt
          subst hA
          have zf : fl.length = ls.length := HFl.out.ok.1
          have hkf : k < fl.length := by omega
          have hnd : ∀ p ∈ P, p.1 ≠ k := by
            have hL := HWay.out.lines S nf HE.out.f0 HE.out.f1 HSe.out
            rw [← HP.out, HPS.out] at hL
            simp only [List.map_append, List.map_cons] at hL
            intro p hp
            exact (List.nodup_append.1 hL).2.2 _ (List.mem_map_of_mem hp) _ (List.mem_cons_self ..)
          have ha : at_ (augL ls 1 P fl) k = at_ fl k := augL_out _ _ _ _ hnd
          obtain ⟨⟨m6, m7⟩, _⟩ := HFl.out.ok.2 k hklt
          obtain ⟨m1, m2, m3, m4, m5⟩ := net_at HE.out.net k hklt
          have co := O6.out.cellAt k (by omega)
          rw [encI_at _ k (by rw [augL_len]; exact hkf), ha] at co
          have zo := O6.out.frozenAt k
          have k2 : (k : Int) < fl.length := by omega
          have ne1 : gO ≠ w.heap.size := by omega
          have HND := hide hnd
          have HA := hide ha
          clear hnd ha m1 m2 m3 zf
          by_cases hab : (at3 ls k).1 = bus
          · have hq : ((at3 ls k).1 == (bus : Int)) = true := by simp [hab]
            have HVal := hide (show augL ls 1 (P ++ [(k, (bus : Int))]) fl = (augL ls 1 P fl).set k (at_ fl k + 1) by simp [augL, List.foldl_append, augS]; rw [if_pos hab.symm]; exact congrArg (fun x => (List.foldl (augS ls 1) fl P).set k (x + 1)) HA.out)
            have K7 := hide (KW6.out.setCell (p := ⟨gO, k, none⟩) (by show w.heap.size ≤ gO; omega) (.int .i64 (at_ fl k + 1)))
            have O7 : Hid ((w5.setCell ⟨gO, k, none⟩ (.int .i64 (at_ fl k + 1))).ownsRow (w.heap.size + 1) 3 1 (.slice (some ⟨gO, 0, none⟩) fl.length d1) fl.length (encI (augL ls 1 (P ++ [(k, (bus : Int))]) fl))) := by rw [HVal.out, encI_set]; exact (O6.out.stored k _).1
            have B7 := hide (B6.out.setCell ⟨gO, k, none⟩ (.int .i64 (at_ fl k + 1)) (fun _ => rfl))
            clear hab
            go_wp2_with fail
            refine (specOtherEnd_any _ _ _ _ _ _ _ (HH.out.to K7.out) HE.out.net hklt).mono ?_
            rintro e w8 ⟨rfl, hb8⟩
            have O8 := hide (O7.out.keepB hb8)
            have B8 := hide (B7.out.below hb8)
            have QP : Hid ((P ++ [(k, (bus : Int))]) ++ pathF ls os fl (f99 far) s u = pathF ls os fl (f99 far) S nf) := by
              have h1 := HPS.out
              rw [Q1.out] at h1
              have h2 := HP.out
              rw [h1] at h2
              exact hide (by simpa using h2)
            clear hb8
            go_wp2_with fail
            go_roundg s
            case measure => omega
            case rel => exact ⟨P ++ [(k, (bus : Int))], u, rfl, hu, hide Q4.out, QP, O8, B8⟩
          · have hq : ((at3 ls k).1 == (bus : Int)) = false := by simp [hab]
            have HVal := hide (show augL ls 1 (P ++ [(k, (bus : Int))]) fl = (augL ls 1 P fl).set k (at_ fl k - 1) by simp [augL, List.foldl_append, augS]; rw [if_neg (Ne.symm hab)]; exact congrArg (fun x => (List.foldl (augS ls 1) fl P).set k (x - 1)) HA.out)
            have K7 := hide (KW6.out.setCell (p := ⟨gO, k, none⟩) (by show w.heap.size ≤ gO; omega) (.int .i64 (at_ fl k - 1)))
            have O7 : Hid ((w5.setCell ⟨gO, k, none⟩ (.int .i64 (at_ fl k - 1))).ownsRow (w.heap.size + 1) 3 1 (.slice (some ⟨gO, 0, none⟩) fl.length d1) fl.length (encI (augL ls 1 (P ++ [(k, (bus : Int))]) fl))) := by rw [HVal.out, encI_set]; exact (O6.out.stored k _).1
            have B7 := hide (B6.out.setCell ⟨gO, k, none⟩ (.int .i64 (at_ fl k - 1)) (fun _ => rfl))
            clear hab
            go_wp2_with fail
            refine (specOtherEnd_any _ _ _ _ _ _ _ (HH.out.to K7.out) HE.out.net hklt).mono ?_
            rintro e w8 ⟨rfl, hb8⟩
            have O8 := hide (O7.out.keepB hb8)
            have B8 := hide (B7.out.below hb8)
            have QP : Hid ((P ++ [(k, (bus : Int))]) ++ pathF ls os fl (f99 far) s u = pathF ls os fl (f99 far) S nf) := by
              have h1 := HPS.out
              rw [Q1.out] at h1
              have h2 := HP.out
              rw [h1] at h2
              exact hide (by simpa using h2)
            clear hb8
            go_wp2_with fail
            go_roundg s
            case measure => omega
            case rel => exact ⟨P ++ [(k, (bus : Int))], u, rfl, hu, hide Q4.out, QP, O8, B8⟩

end Go.Proofs.YtijnahflfbjgiaaDoor
