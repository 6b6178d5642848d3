/-
  The laws FnRoomsValid and FnRoomMay over drawn rooms: the walks.
-/
import Derived.Test.YtgkgdbmmhcdohaaDoorRoomsDraw
import Derived.Test.YtgkgdbmmhcdohaaDoorNet
namespace Go.Proofs.YtgkgdbmmhcdohaaDoor
open Go.RowKit
set_option linter.unusedVariables false

/-- Drawn rooms, in memory of the call's own. -/
def GotR (w : World) (e : Ending) (w' : World) : Prop :=
  ∃ (a b : Int) (xs : List Int) (D : Option Addr) (d : Nat), (0 ≤ a ∧ a ≤ 100) ∧ (0 ≤ b ∧ b ≤ 101) ∧ xs.length ≤ 5 ∧ e = .returned (.agg #[.int .i64 a, .int .i64 b, .slice D xs.length d]) ∧ w'.ownsRow w.heap.size 3 1 (.slice D xs.length d) xs.length (encI xs) ∧ Below w.heap.size w w'
/-- Drawn rooms and a room, in memory of the call's own. -/
def GotRM (w : World) (e : Ending) (w' : World) : Prop :=
  ∃ (a b : Int) (xs : List Int) (D : Option Addr) (d : Nat) (r : Int), (0 ≤ a ∧ a ≤ 100) ∧ (0 ≤ b ∧ b ≤ 101) ∧ xs.length ≤ 5 ∧ e = .returned (.tuple #[.agg #[.int .i64 a, .int .i64 b, .slice D xs.length d], .int .i64 r]) ∧ w'.ownsRow w.heap.size 3 1 (.slice D xs.length d) xs.length (encI xs) ∧ Below w.heap.size w w'

theorem DrawRoomsValid_any (A : Option Addr) (c : Nat) (xs : List Int) (w : World) (h : Sl w w.heap.size 1 A xs.length (encU xs)) (hc : xs.length ≤ c) (hm : c ≤ maxLen) (hx : ∀ n ∈ xs, 0 ≤ n ∧ n ≤ 255) :
    Calls Tryd.prog 8 #[.slice A xs.length c] w (GotR w) := by
  have HW := hide (((Below.refl _ w).alloc (Nat.le_refl _) (.cells #[.int .i64 0, .int .i64 0, .slice none 0 0] 25)))
  have HB := hide (Blk.new w 25 #[.int .i64 0, .int .i64 0, .slice none 0 0])
  have HA := hide (h.to HW.out)
  clear h
  go_enter Tryd.func8, Tryd.ntmps8
  go_wp2_with fail
  refine (l20Open_any _ _ _ _ HA.out hc hm hx).mono ?_
  rintro e w0 ⟨rfl, hr, hb⟩
  have hr0 : RdU (w.heap.size + 1) w0 (w.heap.size + 1) 0 := by
    rw [World.size_alloc] at hr
    exact ⟨0, Nat.le_refl _, hr⟩
  have HR0 := hide hr0
  have K := hide (HW.out.then hb)
  have HB0 := hide (HB.out.to hb)
  have hs := hb.size
  clear hr hb hx HA
  go_wp2_with fail
  refine (l20Rooms_any (w.heap.size + 1) (w.heap.size + 1) 0 2 _ HR0.out (by omega) (by omega)).mono ?_
  rintro e w1 ⟨a, b, ys, D, d, ha, hbb, hl, rfl, ho, hrd, hg⟩
  have K1 := hide (K.out.trans ((below_of_grown hg (Nat.le_refl _) hr0.lt).mono (by simp)))
  have H3 := hide (own_mono ho (show w.heap.size + 1 ≤ w0.heap.size by simpa using hs))
  have HB1 := hide (HB0.out.grown hg (fun he => by injection he with he; simp at he))
  obtain ⟨c0, c1, c2⟩ := HB1.out.three
  have f0 := HB1.out.frozen 0
  have f1 := HB1.out.frozen 1
  have f2 := HB1.out.frozen 2
  clear ho hrd hg hr0 HR0 HB0
  have hn := own_low H3.out (q := w.heap.size) (by omega)
  have HO := hide (((H3.out.kept (ssetc _ w.heap.size 0 (.int .i64 a)) hn).kept (ssetc _ w.heap.size 1 (.int .i64 b)) hn).kept (ssetc _ w.heap.size 2 (.slice D ys.length d)) hn)
  have HK := hide (((K1.out.setCell (p := ⟨w.heap.size, 0, none⟩) (by simp) (.int .i64 a)).setCell (p := ⟨w.heap.size, 1, none⟩) (by simp) (.int .i64 b)).setCell (p := ⟨w.heap.size, 2, none⟩) (by simp) (.slice D ys.length d))
  have hBB := ((HB1.out.set_ 0 (.int .i64 a)).set_ 1 (.int .i64 b)).set_ 2 (.slice D ys.length d)
  have p0 := (hBB.cell 0).trans (show _ = some (.int .i64 a) by simp)
  have p1 := (hBB.cell 1).trans (show _ = some (.int .i64 b) by simp)
  have p2 := (hBB.cell 2).trans (show _ = some (.slice D ys.length d) by simp)
  clear hBB
  go_wp2_with fail
  exact bodyPost_ret (v := .agg #[.int .i64 a, .int .i64 b, .slice D ys.length d]) (by simp [results, Tryd.results8, go_sem, p0, p1, p2]) rfl ⟨a, b, ys, D, d, ha, hbb, hl, rfl, own_mono HO.out (by omega), HK.out⟩

theorem DrawRoomMay_any (A : Option Addr) (c : Nat) (xs : List Int) (w : World) (h : Sl w w.heap.size 1 A xs.length (encU xs)) (hc : xs.length ≤ c) (hm : c ≤ maxLen) (hx : ∀ n ∈ xs, 0 ≤ n ∧ n ≤ 255) :
    Calls Tryd.prog 12 #[.slice A xs.length c] w (GotRM w) := by
  have HW := hide (((Below.refl _ w).alloc (Nat.le_refl _) (.cells #[.int .i64 0, .int .i64 0, .slice none 0 0] 25)))
  have HB := hide (Blk.new w 25 #[.int .i64 0, .int .i64 0, .slice none 0 0])
  have HA := hide (h.to HW.out)
  clear h
  go_enter Tryd.func12, Tryd.ntmps12
  go_wp2_with fail
  refine (l20Open_any _ _ _ _ HA.out hc hm hx).mono ?_
  rintro e w0 ⟨rfl, hr, hb⟩
  have hr0 : RdU (w.heap.size + 1) w0 (w.heap.size + 1) 0 := by
    rw [World.size_alloc] at hr
    exact ⟨0, Nat.le_refl _, hr⟩
  have HR0 := hide hr0
  have K := hide (HW.out.then hb)
  have HB0 := hide (HB.out.to hb)
  have hs := hb.size
  clear hr hb hx HA
  go_wp2_with fail
  refine (l20Rooms_any (w.heap.size + 1) (w.heap.size + 1) 0 9 _ HR0.out (by omega) (by omega)).mono ?_
  rintro e w1 ⟨a, b, ys, D, d, ha, hbb, hl, rfl, ho, hrd, hg⟩
  have hlt1 := hr0.lt
  have H3 := hide (own_mono ho (show w.heap.size + 1 + 1 ≤ w0.heap.size by omega))
  clear ho hr0 HR0
  go_wp2_with fail
  refine (pick_u _ _ _ 2 _ hrd (by omega)).mono ?_
  rintro e w2 ⟨v, v1, v2, _, rfl, hr2, o2⟩
  have v3 := v2 (by omega)
  have H32 := hide (o2.own H3.out (by simp))
  have hg2 := hg.trans o2.1
  clear v2 hrd hg H3 o2
  go_wp2_with fail
  refine (pick_u _ _ _ 12 _ hr2 (by omega)).mono ?_
  rintro e w3 ⟨u, u1, u2, _, rfl, hr3, o3⟩
  have u3 := u2 (by omega)
  have H33 := hide (own_mono (o3.own H32.out (by simp)) (show w.heap.size + 1 ≤ w.heap.size + 1 + 1 by omega))
  have hg3 := hg2.trans o3.1
  clear u2 hr2 hr3 hg2 H32 o3
  have K1 := hide (K.out.trans ((below_of_grown hg3 (Nat.le_refl _) hlt1).mono (by simp)))
  have HB1 := hide (HB0.out.grown hg3 (fun he => by injection he with he; simp at he))
  obtain ⟨c0, c1, c2⟩ := HB1.out.three
  have f0 := HB1.out.frozen 0
  have f1 := HB1.out.frozen 1
  have f2 := HB1.out.frozen 2
  clear hg3 HB0
  have hn := own_low H33.out (q := w.heap.size) (by omega)
  have HO := hide (((H33.out.kept (ssetc _ w.heap.size 0 (.int .i64 a)) hn).kept (ssetc _ w.heap.size 1 (.int .i64 b)) hn).kept (ssetc _ w.heap.size 2 (.slice D ys.length d)) hn)
  have HK := hide (((K1.out.setCell (p := ⟨w.heap.size, 0, none⟩) (by simp) (.int .i64 a)).setCell (p := ⟨w.heap.size, 1, none⟩) (by simp) (.int .i64 b)).setCell (p := ⟨w.heap.size, 2, none⟩) (by simp) (.slice D ys.length d))
  have hBB := ((HB1.out.set_ 0 (.int .i64 a)).set_ 1 (.int .i64 b)).set_ 2 (.slice D ys.length d)
  have p0 := (hBB.cell 0).trans (show _ = some (.int .i64 a) by simp)
  have p1 := (hBB.cell 1).trans (show _ = some (.int .i64 b) by simp)
  have p2 := (hBB.cell 2).trans (show _ = some (.slice D ys.length d) by simp)
  clear hBB
  go_wp2_with fail
  exact bodyPost_ret (v := .tuple #[.agg #[.int .i64 a, .int .i64 b, .slice D ys.length d], .int .i64 (v + u / 11 * 2)]) (by simp [results, Tryd.results12, go_sem, p0, p1, p2]) rfl ⟨a, b, ys, D, d, _, ha, hbb, hl, rfl, own_mono HO.out (by omega), HK.out⟩

/-! ### the plain law -/
theorem rooms_odd {a b : Int} {xs : List Int} (h : roomsB a b xs = true) : roomsB (a + 1) b xs = false := by
  cases hb : roomsB (a + 1) b xs
  · rfl
  · have h1 := rooms_parts h
    have h2 := rooms_parts hb
    omega
theorem rooms_two {a b : Int} {xs : List Int} (h : roomsB a b xs = true) (h2 : a + 2 ≤ 99) : roomsB (a + 2) b xs = true := by
  obtain ⟨a0, a1, b0, b1, a2, b2, l0, l1, hx⟩ := rooms_parts h
  exact rooms_mk (by omega) h2 b0 b1 (by omega) b2 l0 l1 fun e he => by obtain ⟨x0, x1, x2⟩ := hx e he; exact ⟨x0, fun hp => by have := x1 hp; omega, x2⟩
theorem Sl.nil1 (w : World) (B : Nat) (A : Option Addr) : Sl w B 1 A ([] : List Int).length (encI []) := ⟨by simp [encI], fun hn => absurd hn (by simp)⟩
theorem cnt_two (xs : List Int) {a b : Int} (h : a ≠ b) : ∀ k, cntF xs a k + cntF xs b k ≤ k
  | 0 => by simp [cntF]
  | k + 1 => by
    have ih := cnt_two xs h k
    by_cases ha : at_ xs k = a
    · have hb : at_ xs k ≠ b := fun hb => h (ha.symm.trans hb)
      rw [cntF_yes ha, cntF_no hb]; omega
    · by_cases hb : at_ xs k = b
      · rw [cntF_no ha, cntF_yes hb]; omega
      · rw [cntF_no ha, cntF_no hb]; omega
theorem may_parts {a b r : Int} {xs : List Int} (h : mayB a b xs r = true) : roomsB a b xs = true ∧ (r = 0 ∨ r = 1) ∧ (xs.length : Int) < 2 * cntF xs (epOf a b r) xs.length := by
  unfold mayB at h
  simp only [Bool.and_eq_true, decide_eq_true_eq] at h
  obtain ⟨⟨h1, h2⟩, h3⟩ := h
  obtain ⟨r1, r2⟩ := inB_true h2
  exact ⟨h1, by omega, h3⟩
theorem may_not {a b r : Int} {xs : List Int} (h : mayB a b xs r = true) : mayB a b xs (1 - r) = false := by
  cases hb : mayB a b xs (1 - r)
  · rfl
  · obtain ⟨h1, h2, h3⟩ := may_parts h
    obtain ⟨_, _, h4⟩ := may_parts hb
    have h5 := rooms_parts h1
    have hne : a ≠ b := by omega
    have h6 := cnt_two xs hne xs.length
    have e0 : epOf a b 0 = a := rfl
    have e1 : epOf a b 1 = b := rfl
    rcases h2 with rfl | rfl
    · rw [show (1 : Int) - 0 = 1 from rfl, e1] at h4
      rw [e0] at h3
      omega
    · rw [show (1 : Int) - 1 = 0 from rfl, e0] at h4
      rw [e1] at h3
      omega

set_option maxHeartbeats 2000000 in
theorem fnRoomsValid_walk (A0 : Option Addr) (c0 : Nat) (x0 : List Int) (w : World) (l0 : x0.length ≤ c0) (m0 : c0 ≤ maxLen) (s0 : Sl w w.heap.size 1 A0 x0.length (encU x0)) (i0 : ∀ n ∈ x0, 0 ≤ n ∧ n ≤ 255) :
    Calls Tryd.prog 3 #[.slice A0 x0.length c0] w fun e w' => e = .returned (.bool true) ∧ Below w.heap.size w w' := by
  have hm2 := m0
  unfold maxLen at m0
  by_cases hm : x0.length ≤ 1048576
  · have HC := hide (DrawRoomsValid_any A0 c0 x0 w s0 l0 hm2 i0)
    clear i0 s0
    go_enter Tryd.func3, Tryd.ntmps3
    go_wp2_with fail
    refine HC.out.mono ?_
    rintro e w1 ⟨a, b, ys, D, d, ha, hb, hl, rfl, ho, hb1⟩
    have kk := (Below.refl _ w1).alloc (Nat.le_refl _) (.cells #[.int .i64 a, .int .i64 b, .slice D ys.length d] 25)
    have K := hide (hb1.then kk)
    have HO := hide (ho.keepB kk)
    have HB := hide (Blk.new w1 25 #[.int .i64 a, .int .i64 b, .slice D ys.length d])
    obtain ⟨c0, c1, c2⟩ := HB.out.three
    clear hb1 HC ho kk
    go_wp2_with fail
    refine (implRoomsValid_any _ _ _ _ _ _ (Sl.of_own HO.out) (by omega)).mono ?_
    rintro e w2 ⟨rfl, hb2⟩
    have K2 := hide (K.out.then hb2)
    have HO2 := hide (HO.out.keepB hb2)
    have HB2 := hide (HB.out.to hb2)
    clear c0 c1 c2
    obtain ⟨c0, c1, c2⟩ := HB2.out.three
    clear hb2 K HO HB
    go_wp2_with fail
    refine (specRoomsValid_any _ _ _ _ _ _ (Sl.of_own HO2.out) (by omega)).mono ?_
    rintro e w3 ⟨rfl, hb3⟩
    have K3 := hide (K2.out.then hb3)
    have HO3 := hide (HO2.out.keepB hb3)
    have HB3 := hide (HB2.out.to hb3)
    clear c0 c1 c2
    obtain ⟨c0, c1, c2⟩ := HB3.out.three
    clear hb3 K2 HO2 HB2
    cases hv : roomsB a b ys
    · have HV := hide hv
      clear hv
      go_wp2_with fail
      refine (implRoomsValid_any 0 0 none 0 [] _ (Sl.nil1 _ _ _) (by simp)).mono ?_
      rintro e w4 ⟨rfl, hb4⟩
      have K4 := hide (K3.out.then hb4)
      rw [show roomsB 0 0 [] = false from rfl]
      clear hb4
      go_wp2_with fail
      refine (alive_any _).mono ?_
      rintro e w5 ⟨rfl, hb5⟩
      have K5 := hide (K4.out.then hb5)
      clear hb5
      go_wp2_with fail
      go_ret
      exact ⟨rfl, K5.out⟩
    · have HV := hide hv
      clear hv
      go_wp2_with fail
      refine (implRoomsValid_any _ _ _ _ _ _ (Sl.of_own HO3.out) (by omega)).mono ?_
      rintro e w4 ⟨rfl, hb4⟩
      have K4 := hide (K3.out.then hb4)
      have HO4 := hide (HO3.out.keepB hb4)
      have HB4 := hide (HB3.out.to hb4)
      rw [rooms_odd HV.out]
      clear c0 c1 c2
      obtain ⟨c0, c1, c2⟩ := HB4.out.three
      clear hb4 K3 HO3 HB3
      by_cases h99 : 99 < a + 2
      · go_wp2_with fail
        go_ret
        exact ⟨rfl, K4.out⟩
      · have HN := hide (show a + 2 ≤ 99 by omega)
        go_wp2_with fail
        refine (implRoomsValid_any _ _ _ _ _ _ (Sl.of_own HO4.out) (by omega)).mono ?_
        rintro e w5 ⟨rfl, hb5⟩
        have K5 := hide (K4.out.then hb5)
        rw [rooms_two HV.out HN.out]
        clear hb5
        go_wp2_with fail
        go_ret
        exact ⟨rfl, K5.out⟩
  · go_enter Tryd.func3, Tryd.ntmps3
    go_wp2_with fail
    go_ret
    exact ⟨rfl, Below.refl _ _⟩

set_option maxHeartbeats 2000000 in
theorem fnRoomMay_walk (A0 : Option Addr) (c0 : Nat) (x0 : List Int) (w : World) (l0 : x0.length ≤ c0) (m0 : c0 ≤ maxLen) (s0 : Sl w w.heap.size 1 A0 x0.length (encU x0)) (i0 : ∀ n ∈ x0, 0 ≤ n ∧ n ≤ 255) :
    Calls Tryd.prog 4 #[.slice A0 x0.length c0] w fun e w' => e = .returned (.bool true) ∧ Below w.heap.size w w' := by
  have hm2 := m0
  unfold maxLen at m0
  by_cases hm : x0.length ≤ 1048576
  · have HC := hide (DrawRoomMay_any A0 c0 x0 w s0 l0 hm2 i0)
    clear i0 s0
    go_enter Tryd.func4, Tryd.ntmps4
    go_wp2_with fail
    refine HC.out.mono ?_
    rintro e w1 ⟨a, b, ys, D, d, r, ha, hb, hl, rfl, ho, hb1⟩
    have kk := (Below.refl _ w1).alloc (Nat.le_refl _) (.cells #[.int .i64 a, .int .i64 b, .slice D ys.length d] 25)
    have K := hide (hb1.then kk)
    have HO := hide (ho.keepB kk)
    have HB := hide (Blk.new w1 25 #[.int .i64 a, .int .i64 b, .slice D ys.length d])
    obtain ⟨c0, c1, c2⟩ := HB.out.three
    clear hb1 HC ho kk
    go_wp2_with fail
    refine (implRoomMay_any _ _ _ _ _ _ _ (Sl.of_own HO.out) (by omega)).mono ?_
    rintro e w2 ⟨rfl, hb2⟩
    have K2 := hide (K.out.then hb2)
    have HO2 := hide (HO.out.keepB hb2)
    have HB2 := hide (HB.out.to hb2)
    clear c0 c1 c2
    obtain ⟨c0, c1, c2⟩ := HB2.out.three
    clear hb2 K HO HB
    go_wp2_with fail
    refine (specRoomMay_any _ _ _ _ _ _ _ (Sl.of_own HO2.out) (by omega)).mono ?_
    rintro e w3 ⟨rfl, hb3⟩
    have K3 := hide (K2.out.then hb3)
    have HO3 := hide (HO2.out.keepB hb3)
    have HB3 := hide (HB2.out.to hb3)
    clear c0 c1 c2
    obtain ⟨c0, c1, c2⟩ := HB3.out.three
    clear hb3 K2 HO2 HB2
    cases hv : mayB a b ys r
    · go_wp2_with fail
      refine (alive_any _).mono ?_
      rintro e w4 ⟨rfl, hb4⟩
      have K4 := hide (K3.out.then hb4)
      clear hb4
      go_wp2_with fail
      go_ret
      exact ⟨rfl, K4.out⟩
    · have HV := hide hv
      obtain ⟨hv1, hr, hc⟩ := may_parts hv
      have HCN := hide hc
      clear hv hv1 hc
      have HS := hide (Sl.of_own HO3.out)
      rcases hr with rfl | rfl
      · go_wp2_with fail
        go_loop [7, 8] (fun q i => ∃ k : Nat, k ≤ ys.length ∧ i = .int .i64 k ∧ q = .int .i64 (cntF ys a k)) (fun _ i => ys.length - (intOf i).toNat)
        case atStart => exact ⟨0, Nat.zero_le _, rfl, rfl⟩
        case round =>
          obtain ⟨k, hk, rfl, rfl⟩ := hrel
          obtain ⟨u1, u2⟩ := cntF_in ys a k
          by_cases hlt : k < ys.length
          · obtain ⟨b0, off, rfl, hb, hcc⟩ := HS.out.int k hlt
            by_cases he : at_ ys k = a
            · have he' : (at_ ys k == a) = true := by simp [he]
              have HE := hide he
              clear he
              go_wp2_with fail
              go_round
              case rel => exact ⟨k + 1, by omega, by go_num, vint (cntF_yes HE.out).symm⟩
              case measure => simp [intOf]; omega
            · have he' : (at_ ys k == a) = false := by simp [he]
              have HE := hide he
              clear he
              go_wp2_with fail
              go_round
              case rel => exact ⟨k + 1, by omega, by go_num, vint (cntF_no HE.out).symm⟩
              case measure => simp [intOf]; omega
          · obtain rfl : k = ys.length := by omega
            have hcn : (ys.length : Int) < 2 * cntF ys a ys.length := HCN.out
            go_wp2_with fail
            refine (implRoomMay_any _ _ _ _ _ _ _ (Sl.of_own HO3.out) (by omega)).mono ?_
            rintro e w4 ⟨rfl, hb4⟩
            have K4 := hide (K3.out.then hb4)
            have HB4 := hide (HB3.out.to hb4)
            have hvn := may_not HV.out
            (first | rw [Int.sub_zero] at hvn | rw [Int.sub_self] at hvn)
            rw [hvn]
            clear c0 c1 c2
            obtain ⟨c0, c1, c2⟩ := HB4.out.three
            clear hb4
            go_wp2_with fail
            go_ret
            exact ⟨rfl, K4.out⟩
      · go_wp2_with fail
        go_loop [7, 8] (fun q i => ∃ k : Nat, k ≤ ys.length ∧ i = .int .i64 k ∧ q = .int .i64 (cntF ys b k)) (fun _ i => ys.length - (intOf i).toNat)
        case atStart => exact ⟨0, Nat.zero_le _, rfl, rfl⟩
        case round =>
          obtain ⟨k, hk, rfl, rfl⟩ := hrel
          obtain ⟨u1, u2⟩ := cntF_in ys b k
          by_cases hlt : k < ys.length
          · obtain ⟨b0, off, rfl, hb, hcc⟩ := HS.out.int k hlt
            by_cases he : at_ ys k = b
            · have he' : (at_ ys k == b) = true := by simp [he]
              have HE := hide he
              clear he
              go_wp2_with fail
              go_round
              case rel => exact ⟨k + 1, by omega, by go_num, vint (cntF_yes HE.out).symm⟩
              case measure => simp [intOf]; omega
            · have he' : (at_ ys k == b) = false := by simp [he]
              have HE := hide he
              clear he
              go_wp2_with fail
              go_round
              case rel => exact ⟨k + 1, by omega, by go_num, vint (cntF_no HE.out).symm⟩
              case measure => simp [intOf]; omega
          · obtain rfl : k = ys.length := by omega
            have hcn : (ys.length : Int) < 2 * cntF ys b ys.length := HCN.out
            go_wp2_with fail
            refine (implRoomMay_any _ _ _ _ _ _ _ (Sl.of_own HO3.out) (by omega)).mono ?_
            rintro e w4 ⟨rfl, hb4⟩
            have K4 := hide (K3.out.then hb4)
            have HB4 := hide (HB3.out.to hb4)
            have hvn := may_not HV.out
            (first | rw [Int.sub_zero] at hvn | rw [Int.sub_self] at hvn)
            rw [hvn]
            clear c0 c1 c2
            obtain ⟨c0, c1, c2⟩ := HB4.out.three
            clear hb4
            go_wp2_with fail
            go_ret
            exact ⟨rfl, K4.out⟩
  · go_enter Tryd.func4, Tryd.ntmps4
    go_wp2_with fail
    go_ret
    exact ⟨rfl, Below.refl _ _⟩

end Go.Proofs.YtgkgdbmmhcdohaaDoor
