/-
  BadLine and MendReadings: what the reference's functions compute.
-/
import Derived.Test.YtbebhbcjdiahcaaDoorTryS
import Derived.Test.YtbebhbcjdiahcaaDoorResJ
namespace Go.Proofs.YtbebhbcjdiahcaaDoor
open Go.RowKit
set_option linter.unusedVariables false

set_option maxRecDepth 8000 in
set_option maxHeartbeats 4000000 in
theorem specBadLine_any (b : Int) (A D B R : Option Addr) (c d f n rc : Nat) (ls : List (Int × Int × Int)) (on : List Bool) (bs : List (Int × Int)) (rs : List Int) (w : World) (h : Sl w w.heap.size 3 A ls.length (enc3 ls)) (g : Sl w w.heap.size 1 D n (encB on)) (hon : on.length = n) (s : Sl w w.heap.size 2 B bs.length (enc2 bs)) (r : Sl w w.heap.size 1 R rs.length (encI rs)) (hm : ls.length ≤ 1048576) (hn : bs.length ≤ 1048576) (hrn : rs.length ≤ 1048576) :
    Calls Tryd.prog 17 #[.agg #[.int .i64 b, .slice A ls.length c], .slice D n d, .slice B bs.length f, .slice R rs.length rc] w fun e w' => ∃ x, BadR b ls on bs rs x ∧ e = .returned (.int .i64 x) ∧ Below w.heap.size w w' := by
  have B0 := hide (Blk.new w 25 #[.int .i64 b, .slice A ls.length c])
  have K0 := hide ((Below.refl _ w).alloc (Nat.le_refl _) (.cells #[.int .i64 b, .slice A ls.length c] 25))
  have HH := hide h
  have GG := hide g
  have SS := hide s
  have RR := hide r
  clear h g s r
  go_enter Tryd.func17, Tryd.ntmps17
  go_wp2_with fail
  refine (l31Ok_any b A D B R c d f n rc ls on bs rs _ (HH.out.to K0.out) (GG.out.to K0.out) hon (SS.out.to K0.out) (RR.out.to K0.out) hm hn hrn).mono ?_
  rintro e w1 ⟨rfl, hb1⟩
  have K1 := hide (K0.out.then hb1)
  have B1 := hide (B0.out.to hb1)
  clear hb1 K0 B0
  obtain ⟨g0, g1⟩ := B1.out.two
  cases hk : okB b ls on bs rs
  · have HQ := hide hk
    clear hk
    go_wp2_with fail
    go_ret
    exact ⟨-1, .inl ⟨HQ.out, rfl⟩, rfl, K1.out⟩
  · have hk2 := hk
    obtain ⟨hr, hrd⟩ := okB_true hk
    obtain ⟨hf, hcy, hon1⟩ := (radB_iff _ _ _ _).1 hr
    obtain ⟨hv, hnl, hbl, hok⟩ := fedB_true hf
    rw [hon] at hnl
    subst hnl
    obtain ⟨nb, rfl⟩ : ∃ nb : Nat, b = nb := ⟨bs.length, hbl.symm⟩
    obtain ⟨⟨n1, n2⟩, n3⟩ := net_len hv
    have HQ := hide hk2
    have HCY := hide hcy
    have HONE := hide hon1
    have hb8 : bs.length ≤ 8 := by omega
    clear hr hrd hf hcy hon1 hv hbl hok hk hk2
    go_wp2_with fail
    refine (specResiduals_any nb A D B R c d f ls.length rc ls on bs rs w1 (HH.out.to K1.out) (GG.out.to K1.out) hon (SS.out.to K1.out) (RR.out.to K1.out) hm hn hrn).mono ?_
    rintro e w2 ⟨l2, M, m, hl2, rfl, ho2, hb2⟩
    obtain ⟨ps, hp, hl2e⟩ : ∃ ps, PL ls on bs ps ∧ l2 = resL ls on bs rs ps := by
      rcases hl2 with ⟨h1, _⟩ | ⟨_, qs, h2, h3⟩
      · rw [HQ.out] at h1; cases h1
      · exact ⟨qs, h2, h3⟩
    subst hl2e
    have HP := hide hp
    have K2 := hide (K1.out.then hb2)
    have B2 := hide (B1.out.to hb2)
    have S2 := hide (Sl.of_own ho2)
    have hl12 : (resL ls on bs rs ps).length ≤ 1048576 := by rw [resL_len]; omega
    clear hl2 ho2 hb2 hp g0 g1 K1 B1
    go_wp2_with fail
    refine (l31None_any _ _ _ _ S2.out hl12).mono ?_
    rintro e w3 ⟨rfl, rfl⟩
    cases hz : zeroL (resL ls on bs rs ps)
    · have HZ := hide hz
      clear hz
      go_wp2_with fail
      go_loopw [9] (fun x wr => ∃ k : Nat, k ≤ ls.length ∧ x = .int .i64 k ∧ Hid (∀ j, j < k → goodB ls on bs rs ps j = false) ∧ Hid (Blk wr w.heap.size 25 #[.int .i64 nb, .slice A ls.length c]) ∧ Hid (Below w.heap.size w wr)) (fun x _ => ls.length - (intOf x).toNat)
      case atStart => exact ⟨0, Nat.zero_le _, rfl, hide (fun j hj => absurd hj (by omega)), B2, K2⟩
      case round =>
        clear K2 B2 S2
        obtain ⟨k, hk, rfl, HN, HB, HK⟩ := hrel
        obtain ⟨g0, g1⟩ := HB.out.two
        by_cases hlt : k < ls.length
        · go_wp2_with fail
          refine (l31Try_any nb k A D B R c d f rc ls on bs rs wr (HH.out.to HK.out) (GG.out.to HK.out) hon (SS.out.to HK.out) (RR.out.to HK.out) HQ.out hlt).mono ?_
          rintro e w5 ⟨l5, t, M5, m5, ⟨qs, hq, hgt⟩, rfl, ho5, hb5⟩
          have hgs := goodB_same (rs := rs) HP.out hq HCY.out HONE.out k
          rw [← hgs] at hgt
          have K5 := hide (HK.out.then hb5)
          have B5 := hide (HB.out.to hb5)
          clear hq hgs hb5 ho5
          rcases hgt with ⟨h1, h2, rfl⟩ | ⟨h1, h2, rfl⟩
          · have HG := hide h1
            clear h1 h2
            go_wp2_with fail
            go_ret
            exact ⟨k, .inr ⟨HQ.out, ps, HP.out, .inr ⟨HZ.out, .inl ⟨k, hlt, rfl, HG.out, HN.out⟩⟩⟩, rfl, K5.out⟩
          · have HG := hide h1
            clear h1 h2
            go_wp2_with fail
            go_roundw
            case rel => exact ⟨k + 1, by omega, by go_num, hide (fun j hj => by
                by_cases hjk : j = k
                · subst hjk; exact HG.out
                · exact HN.out j (by omega)), B5, K5⟩
            case measure => simp [intOf]; omega
        · obtain rfl : k = ls.length := by omega
          go_wp2_with fail
          go_ret
          exact ⟨-1, .inr ⟨HQ.out, ps, HP.out, .inr ⟨HZ.out, .inr ⟨rfl, HN.out⟩⟩⟩, rfl, HK.out⟩
    · have HZ := hide hz
      clear hz
      go_wp2_with fail
      go_ret
      exact ⟨-1, .inr ⟨HQ.out, ps, HP.out, .inl ⟨HZ.out, rfl⟩⟩, rfl, K2.out⟩

set_option maxRecDepth 8000 in
set_option maxHeartbeats 4000000 in
theorem specMend_any (b : Int) (A D B R : Option Addr) (c d f n rc : Nat) (ls : List (Int × Int × Int)) (on : List Bool) (bs : List (Int × Int)) (rs : List Int) (w : World) (h : Sl w w.heap.size 3 A ls.length (enc3 ls)) (g : Sl w w.heap.size 1 D n (encB on)) (hon : on.length = n) (s : Sl w w.heap.size 2 B bs.length (enc2 bs)) (r : Sl w w.heap.size 1 R rs.length (encI rs)) (hm : ls.length ≤ 1048576) (hn : bs.length ≤ 1048576) (hrn : rs.length ≤ 1048576) :
    Calls Tryd.prog 20 #[.agg #[.int .i64 b, .slice A ls.length c], .slice D n d, .slice B bs.length f, .slice R rs.length rc] w fun e w' => ∃ l t M m, MendR b ls on bs rs l t ∧ e = .returned (.tuple #[.slice M l.length m, .bool t]) ∧ w'.ownsRow w.heap.size 3 1 (.slice M l.length m) l.length (encI l) ∧ Below w.heap.size w w' := by
  have B0 := hide (Blk.new w 25 #[.int .i64 b, .slice A ls.length c])
  have K0 := hide ((Below.refl _ w).alloc (Nat.le_refl _) (.cells #[.int .i64 b, .slice A ls.length c] 25))
  have HH := hide h
  have GG := hide g
  have SS := hide s
  have RR := hide r
  clear h g s r
  go_enter Tryd.func20, Tryd.ntmps20
  go_wp2_with fail
  refine (l31Ok_any b A D B R c d f n rc ls on bs rs _ (HH.out.to K0.out) (GG.out.to K0.out) hon (SS.out.to K0.out) (RR.out.to K0.out) hm hn hrn).mono ?_
  rintro e w1 ⟨rfl, hb1⟩
  have K1 := hide (K0.out.then hb1)
  have B1 := hide (B0.out.to hb1)
  clear hb1 K0 B0
  obtain ⟨g0, g1⟩ := B1.out.two
  cases hk : okB b ls on bs rs
  · have HQ := hide hk
    clear hk
    go_wp2_with fail
    refine bodyPost_ret (v := .tuple #[.slice (some ⟨w1.heap.size, 0, none⟩) 0 0, .bool false]) (by simp [results, Tryd.results20, go_sem]) rfl ?_
    have hoE := World.ownsRow_lit (base := w.heap.size) (e := 3) (size := 1) w1 #[] 0 (by have := K1.out.size; omega) (Nat.zero_le _) rfl
    exact ⟨[], false, some ⟨w1.heap.size, 0, none⟩, 0, .inl ⟨HQ.out, rfl, rfl⟩, rfl, hoE, K1.out.alloc K1.out.size _⟩
  · have hk2 := hk
    obtain ⟨hr, hrd⟩ := okB_true hk
    obtain ⟨hf, hcy, hon1⟩ := (radB_iff _ _ _ _).1 hr
    obtain ⟨hv, hnl, hbl, hok⟩ := fedB_true hf
    rw [hon] at hnl
    subst hnl
    obtain ⟨nb, rfl⟩ : ∃ nb : Nat, b = nb := ⟨bs.length, hbl.symm⟩
    obtain ⟨⟨n1, n2⟩, n3⟩ := net_len hv
    have HQ := hide hk2
    have HCY := hide hcy
    have HONE := hide hon1
    have hb8 : bs.length ≤ 8 := by omega
    clear hr hrd hf hcy hon1 hv hbl hok hk hk2
    go_wp2_with fail
    refine (specResiduals_any nb A D B R c d f ls.length rc ls on bs rs w1 (HH.out.to K1.out) (GG.out.to K1.out) hon (SS.out.to K1.out) (RR.out.to K1.out) hm hn hrn).mono ?_
    rintro e w2 ⟨l2, M, m, hl2, rfl, ho2, hb2⟩
    obtain ⟨ps, hp, hl2e⟩ : ∃ ps, PL ls on bs ps ∧ l2 = resL ls on bs rs ps := by
      rcases hl2 with ⟨h1, _⟩ | ⟨_, qs, h2, h3⟩
      · rw [HQ.out] at h1; cases h1
      · exact ⟨qs, h2, h3⟩
    subst hl2e
    have HP := hide hp
    have K2 := hide (K1.out.then hb2)
    have B2 := hide (B1.out.to hb2)
    have S2 := hide (Sl.of_own ho2)
    have hl12 : (resL ls on bs rs ps).length ≤ 1048576 := by rw [resL_len]; omega
    clear hl2 ho2 hb2 hp g0 g1 K1 B1
    obtain ⟨g0, g1⟩ := B2.out.two
    go_wp2_with fail
    refine (l31None_any _ _ _ _ S2.out hl12).mono ?_
    rintro e w3 ⟨rfl, rfl⟩
    cases hz : zeroL (resL ls on bs rs ps)
    · have HZ := hide hz
      clear hz
      go_wp2_with fail
      refine (specBadLine_any nb A D B R c d f ls.length rc ls on bs rs w2 (HH.out.to K2.out) (GG.out.to K2.out) hon (SS.out.to K2.out) (RR.out.to K2.out) hm hn hrn).mono ?_
      rintro e w4 ⟨x, hx, rfl, hb4⟩
      have K4 := hide (K2.out.then hb4)
      have B4 := hide (B2.out.to hb4)
      have hfg : FirstG ls on bs rs ps x := by
        rcases hx with ⟨h1, _⟩ | ⟨_, qs, h2, h3⟩
        · rw [HQ.out] at h1; cases h1
        · rw [← resL_same HP.out h2 HCY.out HONE.out] at h3
          rcases h3 with ⟨h3, _⟩ | ⟨_, h3⟩
          · rw [HZ.out] at h3; cases h3
          · exact h3.same h2 HP.out HCY.out HONE.out
      have HFG := hide hfg
      clear hx hb4 hfg g0 g1 K2 B2
      obtain ⟨g0, g1⟩ := B4.out.two
      by_cases hneg : x < 0
      · have hx1 : x = -1 := by
          rcases HFG.out with ⟨k, _, h1, _⟩ | ⟨h1, _⟩
          · omega
          · exact h1
        subst hx1
        go_wp2_with fail
        refine bodyPost_ret (v := .tuple #[.slice (some ⟨w4.heap.size, 0, none⟩) 0 0, .bool false]) (by simp [results, Tryd.results20, go_sem]) rfl ?_
        have hoE := World.ownsRow_lit (base := w.heap.size) (e := 3) (size := 1) w4 #[] 0 (by have := K4.out.size; omega) (Nat.zero_le _) rfl
        exact ⟨[], false, some ⟨w4.heap.size, 0, none⟩, 0, .inr ⟨HQ.out, ps, HP.out, .inr ⟨HZ.out, -1, HFG.out, .inl ⟨rfl, rfl, rfl⟩⟩⟩, rfl, hoE, K4.out.alloc K4.out.size _⟩
      · obtain ⟨k, rfl⟩ := Int.eq_ofNat_of_zero_le (show 0 ≤ x by omega)
        have hkl : k < ls.length := by
          rcases HFG.out with ⟨j, h0, h1, _⟩ | ⟨h1, _⟩ <;> omega
        have hgk : goodB ls on bs rs ps k = true := by
          rcases HFG.out with ⟨j, h0, h1, h2, _⟩ | ⟨h1, _⟩
          · obtain rfl : k = j := by omega
            exact h2
          · omega
        have HGK := hide hgk
        clear hgk
        go_wp2_with fail
        refine (l31Try_any nb k A D B R c d f rc ls on bs rs w4 (HH.out.to K4.out) (GG.out.to K4.out) hon (SS.out.to K4.out) (RR.out.to K4.out) HQ.out hkl).mono ?_
        rintro e w5 ⟨l5, t, M5, m5, ⟨qs, hq, hgt⟩, rfl, ho5, hb5⟩
        have hgs := goodB_same (rs := rs) HP.out hq HCY.out HONE.out k
        have hts := tryL_same (rs := rs) HP.out hq HCY.out HONE.out k
        rw [← hgs, ← hts] at hgt
        have K5 := hide (K4.out.then hb5)
        have O5 := hide (own_mono ho5 K4.out.size)
        have hres : l5 = tryL ls on bs rs ps k ∧ t = true := by
          rcases hgt with ⟨_, h2, h3⟩ | ⟨h1, _⟩
          · exact ⟨h2, h3⟩
          · rw [HGK.out] at h1; cases h1
        obtain ⟨hl5, rfl⟩ := hres
        have HL5 := hide hl5
        clear hgt hgs hts hb5 ho5 hq hl5
        go_wp2_with fail
        refine bodyPost_ret (v := .tuple #[.slice M5 l5.length m5, .bool true]) (by simp [results, Tryd.results20, go_sem]) rfl ?_
        exact ⟨l5, true, M5, m5, .inr ⟨HQ.out, ps, HP.out, .inr ⟨HZ.out, k, HFG.out, .inr ⟨by omega, by rw [Int.toNat_natCast]; exact HL5.out, rfl⟩⟩⟩, rfl, O5.out, K5.out⟩
    · have HZ := hide hz
      have N6 := hide (World.ownsRow_lit (base := w2.heap.size) (e := 3) (size := 1) w2 #[] 0 (Nat.le_refl _) (Nat.zero_le _) rfl)
      have W6 := hide ((Below.refl w2.heap.size w2).alloc (Nat.le_refl _) (.cells #[] 3))
      have S6 := hide ((RR.out.to K2.out).below W6.out)
      clear hz
      go_wp2_with (at_builtin; refine app_ints _ rfl (.tmp 24) (.tmp 25) rfl w2.heap.size _ 0 0 [] rfl N6.out _ R rs.length rc rs rfl S6.out (by simp) (by omega) (by omega) ?_; intro D2 d2 w7 ho7 hg7; have W7 := hide (W6.out.trans (grown_below N6.out hg7 (by simp))))
      have O7 := hide (show w7.ownsRow w2.heap.size 3 1 (.slice D2 rs.length d2) rs.length (encI rs) by simpa using ho7)
      clear ho7 hg7 N6 W6 S6
      refine bodyPost_ret (v := .tuple #[.slice D2 rs.length d2, .bool true]) (by simp [results, Tryd.results20, go_sem]) rfl ?_
      exact ⟨rs, true, D2, d2, .inr ⟨HQ.out, ps, HP.out, .inl ⟨HZ.out, rfl, rfl⟩⟩, rfl, own_mono O7.out K2.out.size, K2.out.then W7.out⟩

end Go.Proofs.YtbebhbcjdiahcaaDoor
