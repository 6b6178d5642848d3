/-
  BadLine and MendReadings: what the reference's functions compute.
-/
import Derived.Test.YtbebhbcjdiahcaaDoorResT
import Derived.Test.YtbebhbcjdiahcaaDoorZero
namespace Go.Proofs.YtbebhbcjdiahcaaDoor
open Go.RowKit
set_option linter.unusedVariables false

theorem tryL_len (ls : List (Int × Int × Int)) (on : List Bool) (bs : List (Int × Int)) (rs ps : List Int) (k : Nat) : (tryL ls on bs rs ps k).length = rs.length := by
  unfold tryL
  split
  · rfl
  · rw [List.length_set]
/-- The readings while a bus is looked for that line k feeds. -/
def TryI (ls : List (Int × Int × Int)) (on : List Bool) (bs : List (Int × Int)) (rs ps : List Int) (k i : Nat) (os : List Int) : Prop :=
  ((∀ x, x < i → ¬ at_ ps x = k) ∧ os = rs) ∨ ∃ x, x < i ∧ x < bs.length ∧ at_ ps x = k ∧ os = rs.set k (at_ rs k - resF ls on bs rs ps x)
section
variable {ls : List (Int × Int × Int)} {on : List Bool} {bs : List (Int × Int)} {rs ps os : List Int} {k i : Nat}
theorem TryI.len (h : TryI ls on bs rs ps k i os) : os.length = rs.length := by
  rcases h with ⟨_, rfl⟩ | ⟨x, _, _, _, rfl⟩
  · rfl
  · rw [List.length_set]
theorem TryI.skip (h : TryI ls on bs rs ps k i os) (hn : ¬ at_ ps i = k) : TryI ls on bs rs ps k (i + 1) os := by
  rcases h with ⟨h, rfl⟩ | ⟨x, h1, h2, h3, rfl⟩
  · exact .inl ⟨fun x hx => by
      by_cases hxi : x = i
      · subst hxi; exact hn
      · exact h x (by omega), rfl⟩
  · exact .inr ⟨x, by omega, h2, h3, rfl⟩
theorem TryI.set (h : TryI ls on bs rs ps k i os) (hp : PL ls on bs ps) (hc : ¬ Cyc ls (onP on)) (ho : OneF ls on bs) (hi : i < bs.length) (hn : at_ ps i = k) : TryI ls on bs rs ps k (i + 1) (os.set k (at_ rs k - resF ls on bs rs ps i)) := by
  rcases h with ⟨h, rfl⟩ | ⟨x, h1, h2, h3, rfl⟩
  · exact .inr ⟨i, by omega, hi, hn, rfl⟩
  · have := hp.inj hc ho h2 hi (by omega) (by omega)
    omega
theorem TryI.done (h : TryI ls on bs rs ps k bs.length os) (hp : PL ls on bs ps) (hc : ¬ Cyc ls (onP on)) (ho : OneF ls on bs) : os = tryL ls on bs rs ps k := by
  unfold tryL
  rcases idxF_cases ps k with ⟨h1, h2⟩ | ⟨j, h1, h2, h3, h4⟩
  · rw [h1, if_pos (by omega)]
    rcases h with ⟨_, h⟩ | ⟨x, _, h5, h6, _⟩
    · exact h
    · exact absurd h6 (h2 x (by rw [hp.len]; exact h5))
  · rw [h2, if_neg (by omega), Int.toNat_natCast]
    rw [hp.len] at h1
    rcases h with ⟨h5, _⟩ | ⟨x, _, h5, h6, h7⟩
    · exact absurd h3 (h5 j h1)
    · have := hp.inj hc ho h5 h1 (by omega) (by omega)
      subst this; exact h7
end
/-- What trying to mend line k gives. -/
def TryR (ls : List (Int × Int × Int)) (on : List Bool) (bs : List (Int × Int)) (rs : List Int) (k : Nat) (l : List Int) (t : Bool) : Prop :=
  ∃ ps, PL ls on bs ps ∧ ((goodB ls on bs rs ps k = true ∧ l = tryL ls on bs rs ps k ∧ t = true) ∨ (goodB ls on bs rs ps k = false ∧ l = [] ∧ t = false))

set_option maxRecDepth 8000 in
set_option maxHeartbeats 4000000 in
theorem l31Try_any (nb k : Nat) (A D B R : Option Addr) (c d f rc : Nat) (ls : List (Int × Int × Int)) (on : List Bool) (bs : List (Int × Int)) (rs : List Int) (w : World) (h : Sl w w.heap.size 3 A ls.length (enc3 ls)) (g : Sl w w.heap.size 1 D ls.length (encB on)) (hon : on.length = ls.length) (s : Sl w w.heap.size 2 B bs.length (enc2 bs)) (r : Sl w w.heap.size 1 R rs.length (encI rs)) (hk : okB nb ls on bs rs = true) (hkl : k < ls.length) :
    Calls Tryd.prog 39 #[.agg #[.int .i64 nb, .slice A ls.length c], .slice D ls.length d, .slice B bs.length f, .slice R rs.length rc, .int .i64 k] w fun e w' => ∃ l t M m, TryR ls on bs rs k l t ∧ e = .returned (.tuple #[.slice M l.length m, .bool t]) ∧ w'.ownsRow w.heap.size 3 1 (.slice M l.length m) l.length (encI l) ∧ Below w.heap.size w w' := by
  have B0 := hide (Blk.new w 25 #[.int .i64 nb, .slice A ls.length c])
  have K0 := hide ((Below.refl _ w).alloc (Nat.le_refl _) (.cells #[.int .i64 nb, .slice A ls.length c] 25))
  obtain ⟨hr, hrd⟩ := okB_true hk
  obtain ⟨hf, hcy, hon1⟩ := (radB_iff _ _ _ _).1 hr
  obtain ⟨hv, _, hbl, hok⟩ := fedB_true hf
  obtain ⟨⟨n1, n2⟩, n3⟩ := net_len hv
  have hb1 : bs.length ≤ nb := by omega
  have hb2 : nb ≤ bs.length := by omega
  obtain ⟨hrl, hrr⟩ := rdB_true hrd
  have hrl1 : rs.length ≤ ls.length := by omega
  have hrl2 : ls.length ≤ rs.length := by omega
  have HH := hide h
  have GG := hide g
  have SS := hide s
  have RR := hide r
  have HRR := hide hrr
  have HQ := hide hk
  have HR := hide hrd
  have HF := hide hf
  have HRAD := hide hr
  have HCY := hide hcy
  have HONE := hide hon1
  have HOK := hide hok
  clear hr hrd hf hcy hon1 hv hbl hok hk hrl hrr h g s r
  go_enter Tryd.func39, Tryd.ntmps39
  go_wp2_with fail
  refine (l6Parents_any nb A D B c d f ls on bs _ (HH.out.to K0.out) (GG.out.to K0.out) hon (SS.out.to K0.out) HF.out).mono ?_
  rintro e w1 ⟨ps, P, pc, hp, rfl, hop, hb1'⟩
  have hpl := hp.len
  have HP := hide hp
  have K1 := hide (K0.out.then hb1')
  have B1 := hide (B0.out.to hb1')
  have P1 := hide (Sl.of_own hop)
  have hpl1 : ps.length ≤ bs.length := by omega
  have hpl2 : bs.length ≤ ps.length := by omega
  clear hp hop hb1' K0 B0 hpl
  obtain ⟨g0, g1⟩ := B1.out.two
  go_wp2_with fail
  refine (specResiduals_any nb A D B R c d f ls.length rc ls on bs rs w1 (HH.out.to K1.out) (GG.out.to K1.out) hon (SS.out.to K1.out) (RR.out.to K1.out) (by omega) (by omega) (by omega)).mono ?_
  rintro e w3 ⟨l3, L, lc, hl3, rfl, ho3, hb3⟩
  have hl3e : resL ls on bs rs ps = l3 := by
    rcases hl3 with ⟨h1, _⟩ | ⟨_, qs, h2, h3⟩
    · rw [HQ.out] at h1; cases h1
    · rw [h3, resL_same HP.out h2 HCY.out HONE.out]
  subst hl3e
  have K3 := hide (K1.out.then hb3)
  have B3 := hide (B1.out.to hb3)
  have P3 := hide (P1.out.to hb3)
  have L3 := hide (Sl.of_own ho3)
  have hln := resL_len ls on bs rs ps
  have hln1 : (resL ls on bs rs ps).length ≤ bs.length := by omega
  have hln2 : bs.length ≤ (resL ls on bs rs ps).length := by omega
  have N6 := hide (World.ownsRow_lit (base := w3.heap.size) (e := 3) (size := 1) w3 #[] 0 (Nat.le_refl _) (Nat.zero_le _) rfl)
  have W6 := hide ((Below.refl w3.heap.size w3).alloc (Nat.le_refl _) (.cells #[] 3))
  have S6 := hide ((RR.out.to K3.out).below W6.out)
  clear hl3 ho3 hb3 K1 B1 P1 g0 g1 hln
  go_wp2_with (at_builtin; refine app_ints _ rfl (.tmp 25) (.tmp 26) rfl w3.heap.size _ 0 0 [] rfl N6.out _ R rs.length rc rs rfl S6.out (by simp) (by omega) (by omega) ?_; intro D2 d2 w7 ho7 hg7; have W7 := hide (W6.out.trans (grown_below N6.out hg7 (by simp))); have B7 := hide (B3.out.to W7.out); obtain ⟨g0, g1⟩ := B7.out.two)
  have ho7' : w7.ownsRow w3.heap.size 3 1 (.slice D2 rs.length d2) rs.length (encI rs) := by simpa using ho7
  obtain ⟨q, cq, hD2, _, _⟩ := ho7'.form (by omega)
  cases hD2
  have O7 := hide ho7'
  clear ho7 ho7' hg7 N6 S6 W6
  go_wp2_with fail
  have hzz := B3.out.lt
  go_loopw [15] (fun x wr => ∃ (i : Nat) (os : List Int), i ≤ nb ∧ x = .int .i64 i ∧ Hid (TryI ls on bs rs ps k i os) ∧ Hid (wr.ownsRow w3.heap.size 3 1 (.slice (some ⟨q, 0, none⟩) rs.length d2) rs.length (encI os)) ∧ Hid (Below w3.heap.size w3 wr)) (fun x _ => nb - (intOf x).toNat)
  case atStart => exact ⟨0, rs, Nat.zero_le _, rfl, hide (.inl ⟨fun x hx => absurd hx (by omega), rfl⟩), by simpa using O7, W7⟩
  case round =>
    clear O7 W7 B7 g0 g1
    obtain ⟨i, os, hi, rfl, HT, HO, HW⟩ := hrel
    have B8 := hide (B3.out.to HW.out)
    have K8 := hide (K3.out.then HW.out)
    obtain ⟨g0, g1⟩ := B8.out.two
    have hz8 := HW.out.size
    by_cases hlt : i < nb
    · obtain ⟨b4, o4, rfl, hb4, he4⟩ := P3.out.int i (by omega)
      have e4 := (HW.out.cell (p := ⟨b4, o4 + i, none⟩) hb4).trans he4
      have i0 : (0 : Int) ≤ i := by omega
      have i1 : (i : Int) < ps.length := by omega
      clear he4
      by_cases hpe : at_ ps i = k
      · have hbe : (at_ ps i == (k : Int)) = true := by simp [hpe]
        have hib : i < bs.length := by omega
        have HT2 := hide (HT.out.set HP.out HCY.out HONE.out hib hpe)
        obtain ⟨b5, o5, hA5, hb5, he5⟩ := L3.out.int i (by omega)
        subst hA5
        rw [resL_at hib] at he5
        have e5 := (HW.out.cell (p := ⟨b5, o5 + i, none⟩) hb5).trans he5
        obtain ⟨b6, o6, hA6, hb6, he6⟩ := RR.out.int k (by omega)
        subst hA6
        have e6 := (K8.out.cell (p := ⟨b6, o6 + k, none⟩) hb6).trans he6
        have x1 := HO.out.cellAt k (by omega)
        rw [encI_at os k (by rw [HT.out.len]; omega)] at x1
        have x2 := HO.out.frozenAt k
        have rb := resF_in (ls := ls) (on := on) (rs := rs) (ps := ps) (nb := nb) n3 HR.out HOK.out HP.out hib
        obtain ⟨rb3, rb4⟩ := rb
        obtain ⟨rb5, rb6⟩ := HRR.out k (by omega)
        have hw1 : IntKind.i64.wrap (at_ rs k - resF ls on bs rs ps i) = at_ rs k - resF ls on bs rs ps i := IntWalk.i64_in _ (by omega)
        have i2 : (i : Int) < (resL ls on bs rs ps).length := by omega
        have k0 : (0 : Int) ≤ k := by omega
        have k1 : (k : Int) < rs.length := by omega
        have hq5 : w3.heap.size ≤ q ∧ q < wr.heap.size := HO.out.lt _ rfl
        have O9 := hide (((HO.out.stored k (.int .i64 (at_ rs k - resF ls on bs rs ps i))).1).keepB (Below.refl _ _).drew)
        rw [← encI_setU] at O9
        have W9 := hide (HW.out.setCell (p := ⟨q, k, none⟩) (by show w3.heap.size ≤ q; omega) (.int .i64 (at_ rs k - resF ls on bs rs ps i))).drew
        clear hpe he5 he6
        go_wp2_with fail
        go_big_region
        generalize (wr.setCell ⟨q, k, none⟩ (.int .i64 (at_ rs k - resF ls on bs rs ps i))).drew = w9 at *
        clear x1 x2 e4 e5 e6 g0 g1
        go_wp2_with fail
        go_roundw
        case rel => exact ⟨i + 1, _, by omega, by go_num, HT2, O9, W9⟩
        case measure => simp [intOf]; omega
      · have hbe : (at_ ps i == (k : Int)) = false := by simp [hpe]
        have HT2 := hide (HT.out.skip hpe)
        clear hpe
        go_wp2_with fail
        go_roundw
        case rel => exact ⟨i + 1, os, by omega, by go_num, HT2, HO, HW⟩
        case measure => simp [intOf]; omega
    · obtain rfl : i = nb := by omega
      have hos : os = tryL ls on bs rs ps k := TryI.done (by rw [show bs.length = i by omega]; exact HT.out) HP.out HCY.out HONE.out
      rw [hos] at HO
      have hX := l31Ok_any i A D B (some ⟨q, 0, none⟩) c d f ls.length d2 ls on bs (tryL ls on bs rs ps k) wr (HH.out.to K8.out) (GG.out.to K8.out) hon (SS.out.to K8.out) (by rw [tryL_len]; exact Sl.of_own HO.out) (by omega) (by omega) (by rw [tryL_len]; omega)
      rw [tryL_len] at hX
      clear hos HT
      go_wp2_with fail
      refine hX.mono ?_
      clear hX
      rintro e w10 ⟨rfl, hb10⟩
      have K10 := hide (K8.out.then hb10)
      have B10 := hide (B8.out.to hb10)
      have O10 := hide (HO.out.keepB hb10)
      have hz10 := hb10.size
      clear hb10 B8 K8 HO g0 g1
      obtain ⟨g0, g1⟩ := B10.out.two
      have hz3 := K3.out.size
      cases hok2 : okB i ls on bs (tryL ls on bs rs ps k)
      · have HG := hide (show goodB ls on bs rs ps k = false by
          unfold goodB
          unfold okB at hok2
          rw [HRAD.out, Bool.true_and] at hok2
          rw [hok2]; rfl)
        clear hok2
        go_wp2_with fail
        refine bodyPost_ret (v := .tuple #[.slice (some ⟨w10.heap.size, 0, none⟩) 0 0, .bool false]) (by simp [results, Tryd.results39, go_sem]) rfl ?_
        have hoE := World.ownsRow_lit (base := w.heap.size) (e := 3) (size := 1) w10 #[] 0 (by have := K10.out.size; omega) (Nat.zero_le _) rfl
        exact ⟨[], false, some ⟨w10.heap.size, 0, none⟩, 0, ⟨ps, HP.out, .inr ⟨HG.out, rfl, rfl⟩⟩, rfl, hoE, K10.out.alloc K10.out.size _⟩
      · have hrd2 := (okB_true hok2).2
        have hY := specResiduals_any i A D B (some ⟨q, 0, none⟩) c d f ls.length d2 ls on bs (tryL ls on bs rs ps k) w10 (HH.out.to K10.out) (GG.out.to K10.out) hon (SS.out.to K10.out) (by rw [tryL_len]; exact Sl.of_own O10.out) (by omega) (by omega) (by rw [tryL_len]; omega)
        rw [tryL_len] at hY
        have HO2 := hide hok2
        have HG := hide (show goodB ls on bs rs ps k = zeroL (resL ls on bs (tryL ls on bs rs ps k) ps) by unfold goodB; rw [hrd2, Bool.true_and])
        clear hok2 hrd2
        go_wp2_with fail
        refine hY.mono ?_
        clear hY
        rintro e w11 ⟨l11, M1, m1, hl11, rfl, ho11, hb11⟩
        have hle : resL ls on bs (tryL ls on bs rs ps k) ps = l11 := by
          rcases hl11 with ⟨h1, _⟩ | ⟨_, qs, h2, h3⟩
          · rw [HO2.out] at h1; cases h1
          · rw [h3, resL_same HP.out h2 HCY.out HONE.out]
        subst hle
        have K11 := hide (K10.out.then hb11)
        have O11 := hide (O10.out.keepB hb11)
        have S11 := hide (Sl.of_own ho11)
        have hl12 : (resL ls on bs (tryL ls on bs rs ps k) ps).length ≤ 1048576 := by rw [resL_len]; omega
        clear hl11 hb11 ho11 g0 g1
        go_wp2_with fail
        refine (l31None_any _ _ _ _ S11.out hl12).mono ?_
        rintro e w12 ⟨rfl, rfl⟩
        rw [← HG.out]
        cases hgk : goodB ls on bs rs ps k
        · have HGK := hide hgk
          clear hgk
          go_wp2_with fail
          refine bodyPost_ret (v := .tuple #[.slice (some ⟨w11.heap.size, 0, none⟩) 0 0, .bool false]) (by simp [results, Tryd.results39, go_sem]) rfl ?_
          have hoE := World.ownsRow_lit (base := w.heap.size) (e := 3) (size := 1) w11 #[] 0 (by have := K11.out.size; omega) (Nat.zero_le _) rfl
          exact ⟨[], false, some ⟨w11.heap.size, 0, none⟩, 0, ⟨ps, HP.out, .inr ⟨HGK.out, rfl, rfl⟩⟩, rfl, hoE, K11.out.alloc K11.out.size _⟩
        · have HGK := hide hgk
          clear hgk
          go_wp2_with fail
          refine bodyPost_ret (v := .tuple #[.slice (some ⟨q, 0, none⟩) rs.length d2, .bool true]) (by simp [results, Tryd.results39, go_sem]) rfl ?_
          exact ⟨tryL ls on bs rs ps k, true, some ⟨q, 0, none⟩, d2, ⟨ps, HP.out, .inl ⟨HGK.out, rfl, rfl⟩⟩, by rw [tryL_len], by rw [tryL_len]; exact own_mono O11.out (by omega), K11.out⟩

end Go.Proofs.YtbebhbcjdiahcaaDoor
