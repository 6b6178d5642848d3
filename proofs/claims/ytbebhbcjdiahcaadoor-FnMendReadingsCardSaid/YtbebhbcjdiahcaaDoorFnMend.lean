/-
  The walk of the law FnMendReadings.
-/
import Derived.Test.YtbebhbcjdiahcaaDoorReadD
import Derived.Test.YtbebhbcjdiahcaaDoorLawFl
import Derived.Test.YtbebhbcjdiahcaaDoorBelow
import Derived.Test.YtbebhbcjdiahcaaDoorResX
namespace Go.Proofs.YtbebhbcjdiahcaaDoor
open Go.RowKit
set_option linter.unusedVariables false

theorem at_out {l : List Int} {j : Nat} (h : ¬ j < l.length) : at_ l j = 0 := by
  unfold at_
  simp [List.getElem?_eq_none (by omega : l.length ≤ j)]
theorem at_ne (l : List Int) (k j : Nat) (v : Int) (h : j ≠ k) : at_ (l.set k v) j = at_ l j := by
  unfold at_
  simp [List.getElem?_set_ne (Ne.symm h)]
theorem MendR.no {b : Int} {ls : List (Int × Int × Int)} {on : List Bool} {bs : List (Int × Int)} {rs r : List Int} (h : MendR b ls on bs rs r false) : r = [] := by
  rcases h with ⟨_, h1, _⟩ | ⟨_, ps, _, ⟨_, _, h1⟩ | ⟨_, x, _, ⟨_, h1, _⟩ | ⟨_, _, h1⟩⟩⟩
  · exact h1
  · cases h1
  · exact h1
  · cases h1
theorem MendR.yes {b : Int} {ls : List (Int × Int × Int)} {on : List Bool} {bs : List (Int × Int)} {rs r : List Int} (h : MendR b ls on bs rs r true) : okB b ls on bs rs = true ∧ r.length = rs.length ∧ rdB ls.length r = true ∧ (∃ ps, PL ls on bs ps ∧ zeroL (resL ls on bs r ps) = true) ∧ ∃ K : Nat, ∀ j : Nat, j ≠ K → at_ r j = at_ rs j := by
  rcases h with ⟨_, _, h1⟩ | ⟨h0, ps, hp, ⟨hz, h1, _⟩ | ⟨_, x, hx, ⟨_, _, h1⟩ | ⟨h2, h1, _⟩⟩⟩
  · cases h1
  · subst h1
    exact ⟨h0, rfl, (okB_true h0).2, ⟨ps, hp, hz⟩, 0, fun j _ => rfl⟩
  · cases h1
  · subst h1
    rcases hx with ⟨k, _, rfl, hg, _⟩ | ⟨rfl, _⟩
    · rw [Int.toNat_natCast]
      unfold goodB at hg
      rw [Bool.and_eq_true] at hg
      refine ⟨h0, tryL_len _ _ _ _ _ _, hg.1, ⟨ps, hp, hg.2⟩, k, fun j hj => ?_⟩
      unfold tryL
      split
      · rfl
      · exact at_ne _ _ _ _ hj
    · omega
/-- What is left of mended readings. -/
theorem ResR.zero {nb : Int} {ls : List (Int × Int × Int)} {on : List Bool} {bs : List (Int × Int)} {ps rs l : List Int} (hr : radB nb ls on bs = true) (hd : rdB ls.length rs = true) (hp : PL ls on bs ps) (hz : zeroL (resL ls on bs rs ps) = true) (h : ResR nb ls on bs rs l) : zeroL l = true := by
  obtain ⟨_, hc, ho⟩ := (radB_iff _ _ _ _).1 hr
  rcases h with ⟨h1, _⟩ | ⟨_, qs, hq, rfl⟩
  · unfold okB at h1
    rw [hr, hd] at h1
    cases h1
  · rw [resL_same hq hp hc ho]; exact hz
/-- Mended readings where power flows. -/
theorem FlowG.mend {nb : Nat} {ls : List (Int × Int × Int)} {on : List Bool} {bs : List (Int × Int)} {ps qs os fl rs : List Int} (hr : radB nb ls on bs = true) (h : FlowG ls on bs ps fl) (hp : PL ls on bs ps) (hq : PL ls on bs qs) (ho : PL ls on bs os) (hz : zeroL (resL ls on bs rs os) = true) {y k : Nat} (hy : y < bs.length) (hk : at_ qs y = k) : at_ rs k = at_ fl k := by
  obtain ⟨hf, hc, hon⟩ := (radB_iff _ _ _ _).1 hr
  obtain ⟨hv, _, hbl, _⟩ := fedB_true hf
  rw [resL_same ho hq hc hon] at hz
  have := res_unique hv (by omega) hq hc hon hz (h.same hp hq hc hon).res y hy (by omega)
  rwa [hk, Int.toNat_natCast] at this

set_option maxRecDepth 8000 in
set_option maxHeartbeats 8000000 in
theorem fnMendReadings_walk (A0 : Option Addr) (c0 : Nat) (x0 : List Int) (w : World) (l0 : x0.length ≤ c0) (m0 : c0 ≤ maxLen) (s0 : Sl w w.heap.size 1 A0 x0.length (encU x0)) (i0 : ∀ n ∈ x0, 0 ≤ n ∧ n ≤ 255) :
    Calls Tryd.prog 5 #[.slice A0 x0.length c0] w fun e w' => e = .returned (.bool true) ∧ Below w.heap.size w w' := by
  have hm2 := m0
  unfold maxLen at m0
  by_cases hm : x0.length ≤ 1048576
  · have HC := hide (DrawMendReadings_any A0 c0 x0 w s0 l0 hm2 i0)
    clear i0 s0
    go_enter Tryd.func5, Tryd.ntmps5
    go_wp2_with fail
    refine HC.out.mono ?_
    rintro en w1 ⟨b, xs, D, d, os, E, e, bu, V, f, p, rs, O, o, lx, lo, lb, lr, rfl, o1, o2, b1, o3, hb1⟩
    have HK := hide hb1
    have H := hide (Sl.of_own o1)
    have G := Sl.of_own o2
    have S := hide b1.sl
    have R := hide (Sl.of_own o3)
    obtain ⟨n, hon⟩ : ∃ n, os.length = n := ⟨_, rfl⟩
    rw [hon] at G lo ⊢
    have GG := hide G
    have HON := hide hon
    have K0 := hide ((Below.refl _ w1).alloc (Nat.le_refl _) (.cells #[.int .i64 b, .slice D xs.length d] 25))
    have X0 := hide (Blk.new w1 25 #[.int .i64 b, .slice D xs.length d])
    clear o1 o2 b1 o3 hb1 G hon HC
    go_wp2_with fail
    refine (implMend_any b D E V O d e f n o xs os bu rs _ (H.out.to K0.out) (GG.out.to K0.out) HON.out (S.out.to K0.out) (R.out.to K0.out) (by omega) (by omega) (by omega)).mono ?_
    rintro en w2 ⟨l, t, L, lc, hl, rfl, ho2, hb2⟩
    have K2 := hide (K0.out.then hb2)
    have X2 := hide (X0.out.to hb2)
    have HL := hide hl
    have OL := hide ho2
    have hl8 := hl.len
    obtain ⟨g0, g1⟩ := X2.out.two
    clear hl ho2 hb2 K0 X0
    go_wp2_with fail
    refine (specMend_any b D E V O d e f n o xs os bu rs w2 (H.out.to K2.out) (GG.out.to K2.out) HON.out (S.out.to K2.out) (R.out.to K2.out) (by omega) (by omega) (by omega)).mono ?_
    rintro en w3 ⟨l', t', L', lc', hl', rfl, ho3, hb3⟩
    obtain ⟨rfl, rfl⟩ := hl'.unique HL.out
    have K3 := hide (K2.out.then hb3)
    have X3 := hide (X2.out.to hb3)
    have O3 := hide (OL.out.keepB hb3)
    have S3 := hide (Sl.of_own ho3)
    clear hl' hb3 ho3 K2 X2 OL g0 g1
    go_wp2_with fail
    refine (sameInts_any _ _ _ _ _ _ _ (Sl.of_own O3.out) S3.out (by omega)).mono ?_
    rintro en w4 ⟨rfl, hb4⟩
    rw [eqI_self]
    have K4 := hide (K3.out.then hb4)
    have X4 := hide (X3.out.to hb4)
    have L4 := hide ((show Sl w3 w3.heap.size 1 L l'.length (encI l') from Sl.of_own O3.out).to hb4)
    obtain ⟨g0, g1⟩ := X4.out.two
    clear hb4 K3 X3 O3 S3
    cases t'
    · obtain rfl := HL.out.no
      have hbb : (false != false) = false := rfl
      go_wp2_with fail
      refine (alive_any _).mono ?_
      rintro en w6 ⟨rfl, hb6⟩
      have K6 := hide (K4.out.then hb6)
      clear hb6
      go_wp2_with fail
      go_ret
      exact ⟨rfl, HK.out.then K6.out⟩
    · have hbb : (true != true) = false := rfl
      obtain ⟨hok, hlen, hrd, ⟨zs, hzp, hzz⟩, kk, hkk⟩ := HL.out.yes
      obtain ⟨hr, hro⟩ := okB_true hok
      obtain ⟨hf, hcy, hon1⟩ := (radB_iff _ _ _ _).1 hr
      obtain ⟨hv, hnl, hbl, hok2⟩ := fedB_true hf
      rw [HON.out] at hnl
      subst hnl
      obtain ⟨nb, rfl⟩ : ∃ nb : Nat, b = nb := ⟨bu.length, hbl.symm⟩
      obtain ⟨⟨n1, n2⟩, n3⟩ := net_len hv
      have hbn1 : bu.length ≤ nb := by omega
      have hbn2 : nb ≤ bu.length := by omega
      have hro1 := (rdB_true hro).1
      have hl1 : l'.length ≤ xs.length := by omega
      have hl2 : xs.length ≤ l'.length := by omega
      have hl3 : rs.length ≤ l'.length := by omega
      have hll : ((l'.length : Int) == rs.length) = true := by simp; omega
      have HLL := hide hll
      have HRAD := hide hr
      have HRD := hide hrd
      have HZP := hide hzp
      have HZZ := hide hzz
      have HKK := hide hkk
      obtain ⟨g0, g1⟩ := X4.out.two
      clear hr hf hcy hon1 hv hbl hok hok2 HL hrd hzp hzz hkk hro hlen hro1 hll
      go_wp2_with fail
      refine (lawFlows_any nb D E V d e f xs os bu w4 (H.out.to K4.out) (GG.out.to K4.out) HON.out (S.out.to K4.out) HRAD.out).mono ?_
      rintro en w6 ⟨gl, M, mc, ⟨ps, hp, hfg⟩, rfl, ho6, hb6⟩
      have K6 := hide (K4.out.then hb6)
      have X6 := hide (X4.out.to hb6)
      have L6 := hide (L4.out.to hb6)
      have S6 := hide (Sl.of_own ho6)
      have HP := hide hp
      have HFG := hide hfg
      have hgl := hfg.len
      have hg1 : gl.length ≤ xs.length := by omega
      have hg2 : xs.length ≤ gl.length := by omega
      clear ho6 hb6 hp hfg g0 g1 hgl K4 X4 L4
      obtain ⟨g0, g1⟩ := X6.out.two
      go_wp2_with fail
      go_loopw [12, 13] (fun q x wr => ∃ k c : Nat, k ≤ l'.length ∧ x = .int .i64 k ∧ q = .int .i64 c ∧ c ≤ 1 ∧ (k ≤ kk → c = 0) ∧ Hid (Below w1.heap.size w1 wr) ∧ Hid (Blk wr w1.heap.size 25 #[.int .i64 nb, .slice D xs.length d]) ∧ Hid (Sl wr wr.heap.size 1 L l'.length (encI l')) ∧ Hid (Sl wr wr.heap.size 1 M gl.length (encI gl))) (fun _ x _ => l'.length - (intOf x).toNat)
      case atStart => exact ⟨0, 0, Nat.zero_le _, rfl, rfl, Nat.zero_le _, fun _ => rfl, K6, X6, L6, S6⟩
      case round =>
        clear K6 X6 L6 S6 g0 g1
        obtain ⟨k, c, hk, rfl, rfl, hc1, hck, KR, XR, LR, SR⟩ := hrel
        obtain ⟨g0, g1⟩ := XR.out.two
        by_cases hlt : k < l'.length
        · obtain ⟨bL, oL, rfl, hbL, hcL⟩ := LR.out.int k hlt
          obtain ⟨bO, oO, rfl, hbO, hcO⟩ := R.out.int k (by omega)
          obtain ⟨bM, oM, rfl, hbM, hcM⟩ := SR.out.int k (by omega)
          have hcO' := (KR.out.cell (p := ⟨bO, oO + k, none⟩) hbO).trans hcO
          have k0 : (0 : Int) ≤ k := by omega
          have k1 : (k : Int) < l'.length := by omega
          have k2 : (k : Int) < rs.length := by omega
          have k3 : (k : Int) < gl.length := by omega
          by_cases hne : at_ l' k = at_ rs k
          · have hnb : (at_ l' k != at_ rs k) = false := by simp [hne]
            have HNE := hide hne
            clear hne
            go_wp2_with fail
            go_quiet (fail)
            obtain ⟨cn, hcn1, hcnk, hcn⟩ : ∃ cn : Nat, cn ≤ 1 ∧ (k + 1 ≤ kk → cn = 0) ∧ Value.int .i64 (c : Int) = .int .i64 (cn : Int) := ⟨c, hc1, fun h => hck (by omega), rfl⟩
            have HCN := hide hcn
            clear hcn hc1 hck
            rename_i nq
            have KN : Hid (Below w1.heap.size w1 (wr.drewN nq)) := hide (below_drewN KR.out _)
            have XN : Hid (Blk (wr.drewN nq) w1.heap.size 25 #[.int .i64 nb, .slice D xs.length d]) := XR
            have LN : Hid (Sl (wr.drewN nq) (wr.drewN nq).heap.size 1 (some ⟨bL, oL, none⟩) l'.length (encI l')) := hide (LR.out.to (below_drewN (Below.refl _ wr) _))
            have SN : Hid (Sl (wr.drewN nq) (wr.drewN nq).heap.size 1 (some ⟨bM, oM, none⟩) gl.length (encI gl)) := hide (SR.out.to (below_drewN (Below.refl _ wr) _))
            have u0 : (wr.drewN nq).cell? ⟨w1.heap.size, 0, none⟩ = some (.int .i64 nb) := g0
            have u1 : (wr.drewN nq).cell? ⟨w1.heap.size, 1, none⟩ = some (.slice D xs.length d) := g1
            have hbL' : bL < (wr.drewN nq).heap.size := hbL
            have hbM' : bM < (wr.drewN nq).heap.size := hbM
            have v0 : (wr.drewN nq).cell? ⟨bL, oL + k, none⟩ = some (.int .i64 (at_ l' k)) := hcL
            have v1 : (wr.drewN nq).cell? ⟨bM, oM + k, none⟩ = some (.int .i64 (at_ gl k)) := hcM
            clear g0 g1 hcL hcM hcO hcO' KR XR LR SR hbL hbM
            generalize wr.drewN nq = wn at *
            go_wp2_with fail
            refine wp_region_held_drew (S := fun w' => w'.cell? ⟨w1.heap.size, 0, none⟩ = some (.int .i64 nb) ∧ w'.cell? ⟨w1.heap.size, 1, none⟩ = some (.slice D xs.length d) ∧ w'.cell? ⟨bL, oL + k, none⟩ = some (.int .i64 (at_ l' k)) ∧ w'.cell? ⟨bM, oM + k, none⟩ = some (.int .i64 (at_ gl k))) (by kernel_rfl) ⟨u0, u1, v0, v1⟩ (fun hHeld => ?_)
            clear u0 u1 v0 v1
            refine wpAnyH_take (i := 0) (v := ?_) rfl (by kernel_rfl) (by kernel_rfl) (by kernel_rfl) (fun _ _ _ h => h) (Or.inl ⟨by rfl, ?_⟩) (by assumption) ?_
            rotate_left
            · intro w' hSw
              (try dsimp only at hSw)
              go_simp
              try (with_reducible rfl)
            simp only [Act.put, List.getElem_toArray, List.getElem_cons_zero, List.setIfInBounds_toArray, List.set_cons_zero, List.set_cons_succ]
            refine wpAnyH_take (i := 1) (v := ?_) rfl (by kernel_rfl) (by kernel_rfl) (by kernel_rfl) (fun _ _ _ h => h) (Or.inl ⟨by rfl, ?_⟩) (by assumption) ?_
            rotate_left
            · intro w' hSw
              (try dsimp only at hSw)
              go_simp
              try (with_reducible rfl)
            simp only [Act.put, List.getElem_toArray, List.getElem_cons_zero, List.getElem_cons_succ, List.setIfInBounds_toArray, List.set_cons_zero, List.set_cons_succ]
            refine wpAnyH_take (i := 2) (v := ?_) rfl (by kernel_rfl) (by kernel_rfl) (by kernel_rfl) (fun _ _ _ h => h) (Or.inl ⟨by rfl, ?_⟩) (by assumption) ?_
            rotate_left
            · intro w' hSw
              (try dsimp only at hSw)
              go_simp
              try (with_reducible rfl)
            simp only [Act.put, List.getElem_toArray, List.getElem_cons_zero, List.getElem_cons_succ, List.setIfInBounds_toArray, List.set_cons_zero, List.set_cons_succ]
            refine wpAnyH_take (i := 3) (v := ?_) rfl (by kernel_rfl) (by kernel_rfl) (by kernel_rfl) (fun _ _ _ h => h) (Or.inl ⟨by rfl, ?_⟩) (by assumption) ?_
            rotate_left
            · intro w' hSw
              (try dsimp only at hSw)
              go_simp
              try (with_reducible rfl)
            simp only [Act.put, List.getElem_toArray, List.getElem_cons_zero, List.getElem_cons_succ, List.setIfInBounds_toArray, List.set_cons_zero, List.set_cons_succ]
            refine wpAnyH_ready (rs := [4]) (by kernel_rfl) (by simp) ?_
            refine AllReadyH.cons rfl (fun K hK => ?_) AllReadyH.nil
            go_simp
            go_at_call 21
            refine (belowLine_any nb k D E V d e f xs os bu _ (H.out.to (show Below w1.heap.size w1 wn.drew from KN.out.drew)) (GG.out.to (show Below w1.heap.size w1 wn.drew from KN.out.drew)) HON.out (S.out.to (show Below w1.heap.size w1 wn.drew from KN.out.drew)) HRAD.out (by omega)).mono ?_
            rintro en' w8 ⟨qs, zl, Z, zc, hq, hbr, rfl, hb8⟩
            have HBR := hide hbr
            have HQ := hide hq
            have K8 := hide (KN.out.drew.then hb8)
            have X8 := hide (XN.out.to (show Below _ wn w8 from (Below.refl _ wn).drew.then hb8))
            have L8 := hide (LN.out.to (show Below _ wn w8 from (Below.refl _ wn).drew.then hb8))
            have S8 := hide (SN.out.to (show Below _ wn w8 from (Below.refl _ wn).drew.then hb8))
            clear hbr hq
            go_wp2_with fail
            replace hHeld := And.intro (cellk hb8 hHeld.1) (And.intro (cellk hb8 hHeld.2.1) (And.intro (cellk hb8 hHeld.2.2.1) (cellk hb8 hHeld.2.2.2)))
            clear hb8
            refine hK.out _ _ hHeld (fun hHeld => ?_)
            clear hK K
            try simp only [Act.put, List.getElem_toArray, List.getElem_cons_zero, List.getElem_cons_succ, List.setIfInBounds_toArray, List.set_cons_zero, List.set_cons_succ]
            rcases Nat.eq_zero_or_pos zl.length with hzl | hzl
            · have hzd : decide (0 < (zl.length : Int)) = false := decide_eq_false (by omega)
              refine wpAnyH_take (i := 5) (v := ?_) rfl (by kernel_rfl) (by kernel_rfl) (by kernel_rfl) (fun _ _ _ h => h) (Or.inl ⟨by rfl, ?_⟩) (by assumption) ?_
              rotate_left
              · intro w' hSw
                (try dsimp only at hSw)
                go_simp
                try (with_reducible rfl)
              simp only [Act.put, List.getElem_toArray, List.getElem_cons_zero, List.getElem_cons_succ, List.setIfInBounds_toArray, List.set_cons_zero, List.set_cons_succ]
              refine wpAnyH_take (i := 6) (v := ?_) rfl (by kernel_rfl) (by kernel_rfl) (by kernel_rfl) (fun _ _ _ h => h) (Or.inl ⟨by rfl, ?_⟩) (by assumption) ?_
              rotate_left
              · intro w' hSw
                (try dsimp only at hSw)
                go_simp
                try (with_reducible rfl)
              simp only [Act.put, List.getElem_toArray, List.getElem_cons_zero, List.getElem_cons_succ, List.setIfInBounds_toArray, List.set_cons_zero, List.set_cons_succ]
              refine wpAnyH_take (i := 7) (v := ?_) rfl (by kernel_rfl) (by kernel_rfl) (by kernel_rfl) (fun _ _ _ h => h) (Or.inl ⟨by rfl, ?_⟩) (by assumption) ?_
              rotate_left
              · intro w' hSw
                (try dsimp only at hSw)
                go_simp
                try (with_reducible rfl)
              simp only [Act.put, List.getElem_toArray, List.getElem_cons_zero, List.getElem_cons_succ, List.setIfInBounds_toArray, List.set_cons_zero, List.set_cons_succ]
              try rw [hzd]
              refine wpAnyH_take (i := 8) (v := undef) rfl (by kernel_rfl) (by kernel_rfl) (by kernel_rfl) (fun _ _ _ h => h) (Or.inr ⟨by rfl, rfl⟩) (by assumption) ?_
              simp only [Act.put, List.getElem_toArray, List.getElem_cons_zero, List.getElem_cons_succ, List.setIfInBounds_toArray, List.set_cons_zero, List.set_cons_succ]
              refine wpAnyH_take (i := 9) (v := undef) rfl (by kernel_rfl) (by kernel_rfl) (by kernel_rfl) (fun _ _ _ h => h) (Or.inr ⟨by rfl, rfl⟩) (by assumption) ?_
              simp only [Act.put, List.getElem_toArray, List.getElem_cons_zero, List.getElem_cons_succ, List.setIfInBounds_toArray, List.set_cons_zero, List.set_cons_succ]
              refine wpAnyH_take (i := 10) (v := undef) rfl (by kernel_rfl) (by kernel_rfl) (by kernel_rfl) (fun _ _ _ h => h) (Or.inr ⟨by rfl, rfl⟩) (by assumption) ?_
              simp only [Act.put, List.getElem_toArray, List.getElem_cons_zero, List.getElem_cons_succ, List.setIfInBounds_toArray, List.set_cons_zero, List.set_cons_succ]
              refine wpAnyH_take (i := 11) (v := undef) rfl (by kernel_rfl) (by kernel_rfl) (by kernel_rfl) (fun _ _ _ h => h) (Or.inr ⟨by rfl, rfl⟩) (by assumption) ?_
              simp only [Act.put, List.getElem_toArray, List.getElem_cons_zero, List.getElem_cons_succ, List.setIfInBounds_toArray, List.set_cons_zero, List.set_cons_succ]
              refine wpAnyH_take (i := 12) (v := undef) rfl (by kernel_rfl) (by kernel_rfl) (by kernel_rfl) (fun _ _ _ h => h) (Or.inr ⟨by rfl, rfl⟩) (by assumption) ?_
              simp only [Act.put, List.getElem_toArray, List.getElem_cons_zero, List.getElem_cons_succ, List.setIfInBounds_toArray, List.set_cons_zero, List.set_cons_succ]
              refine wpAnyH_take (i := 13) (v := undef) rfl (by kernel_rfl) (by kernel_rfl) (by kernel_rfl) (fun _ _ _ h => h) (Or.inr ⟨by rfl, rfl⟩) (by assumption) ?_
              simp only [Act.put, List.getElem_toArray, List.getElem_cons_zero, List.getElem_cons_succ, List.setIfInBounds_toArray, List.set_cons_zero, List.set_cons_succ]
              refine wpAnyH_take (i := 14) (v := undef) rfl (by kernel_rfl) (by kernel_rfl) (by kernel_rfl) (fun _ _ _ h => h) (Or.inr ⟨by rfl, rfl⟩) (by assumption) ?_
              simp only [Act.put, List.getElem_toArray, List.getElem_cons_zero, List.getElem_cons_succ, List.setIfInBounds_toArray, List.set_cons_zero, List.set_cons_succ]
              refine wpAnyH_take (i := 15) (v := undef) rfl (by kernel_rfl) (by kernel_rfl) (by kernel_rfl) (fun _ _ _ h => h) (Or.inr ⟨by rfl, rfl⟩) (by assumption) ?_
              simp only [Act.put, List.getElem_toArray, List.getElem_cons_zero, List.getElem_cons_succ, List.setIfInBounds_toArray, List.set_cons_zero, List.set_cons_succ]
              refine wpAnyH_take (i := 16) (v := undef) rfl (by kernel_rfl) (by kernel_rfl) (by kernel_rfl) (fun _ _ _ h => h) (Or.inr ⟨by rfl, rfl⟩) (by assumption) ?_
              simp only [Act.put, List.getElem_toArray, List.getElem_cons_zero, List.getElem_cons_succ, List.setIfInBounds_toArray, List.set_cons_zero, List.set_cons_succ]
              refine wpAnyH_take (i := 17) (v := ?_) rfl (by kernel_rfl) (by kernel_rfl) (by kernel_rfl) (fun _ _ _ h => h) (Or.inl ⟨by rfl, ?_⟩) (by assumption) ?_
              rotate_left
              · intro w' hSw
                (try dsimp only at hSw)
                go_simp
                try (with_reducible rfl)
              simp only [Act.put, List.getElem_toArray, List.getElem_cons_zero, List.getElem_cons_succ, List.setIfInBounds_toArray, List.set_cons_zero, List.set_cons_succ]
              refine wpAnyH_done (by kernel_rfl) ?_ _
              clear hHeld
              go_wp2_with fail
              go_roundw
              case rel => exact ⟨k + 1, cn, by omega, by go_num, HCN.out, hcn1, hcnk, K8, X8, L8, S8⟩
              case measure => simp [intOf]; omega
            · have hzd : decide (0 < (zl.length : Int)) = true := by simp; omega
              obtain ⟨y, hy, hyk⟩ := HBR.out.2 hzl
              have hme := FlowG.mend HRAD.out HFG.out HP.out HQ.out HZP.out HZZ.out (by omega) hyk
              have hmb : (at_ l' k != at_ gl k) = false := by simp [hme]
              have HME := hide hme
              clear hme hyk
              refine wpAnyH_take (i := 5) (v := ?_) rfl (by kernel_rfl) (by kernel_rfl) (by kernel_rfl) (fun _ _ _ h => h) (Or.inl ⟨by rfl, ?_⟩) (by assumption) ?_
              rotate_left
              · intro w' hSw
                (try dsimp only at hSw)
                go_simp
                try (with_reducible rfl)
              simp only [Act.put, List.getElem_toArray, List.getElem_cons_zero, List.getElem_cons_succ, List.setIfInBounds_toArray, List.set_cons_zero, List.set_cons_succ]
              refine wpAnyH_take (i := 6) (v := ?_) rfl (by kernel_rfl) (by kernel_rfl) (by kernel_rfl) (fun _ _ _ h => h) (Or.inl ⟨by rfl, ?_⟩) (by assumption) ?_
              rotate_left
              · intro w' hSw
                (try dsimp only at hSw)
                go_simp
                try (with_reducible rfl)
              simp only [Act.put, List.getElem_toArray, List.getElem_cons_zero, List.getElem_cons_succ, List.setIfInBounds_toArray, List.set_cons_zero, List.set_cons_succ]
              refine wpAnyH_take (i := 7) (v := ?_) rfl (by kernel_rfl) (by kernel_rfl) (by kernel_rfl) (fun _ _ _ h => h) (Or.inl ⟨by rfl, ?_⟩) (by assumption) ?_
              rotate_left
              · intro w' hSw
                (try dsimp only at hSw)
                go_simp
                try (with_reducible rfl)
              simp only [Act.put, List.getElem_toArray, List.getElem_cons_zero, List.getElem_cons_succ, List.setIfInBounds_toArray, List.set_cons_zero, List.set_cons_succ]
              try rw [hzd]
              refine wpAnyH_take (i := 8) (v := ?_) rfl (by kernel_rfl) (by kernel_rfl) (by kernel_rfl) (fun _ _ _ h => h) (Or.inl ⟨by rfl, ?_⟩) (by assumption) ?_
              rotate_left
              · intro w' hSw
                (try dsimp only at hSw)
                go_simp
                try (with_reducible rfl)
              simp only [Act.put, List.getElem_toArray, List.getElem_cons_zero, List.getElem_cons_succ, List.setIfInBounds_toArray, List.set_cons_zero, List.set_cons_succ]
              refine wpAnyH_take (i := 9) (v := ?_) rfl (by kernel_rfl) (by kernel_rfl) (by kernel_rfl) (fun _ _ _ h => h) (Or.inl ⟨by rfl, ?_⟩) (by assumption) ?_
              rotate_left
              · intro w' hSw
                (try dsimp only at hSw)
                go_simp
                try (with_reducible rfl)
              simp only [Act.put, List.getElem_toArray, List.getElem_cons_zero, List.getElem_cons_succ, List.setIfInBounds_toArray, List.set_cons_zero, List.set_cons_succ]
              refine wpAnyH_take (i := 10) (v := ?_) rfl (by kernel_rfl) (by kernel_rfl) (by kernel_rfl) (fun _ _ _ h => h) (Or.inl ⟨by rfl, ?_⟩) (by assumption) ?_
              rotate_left
              · intro w' hSw
                (try dsimp only at hSw)
                go_simp
                try (with_reducible rfl)
              simp only [Act.put, List.getElem_toArray, List.getElem_cons_zero, List.getElem_cons_succ, List.setIfInBounds_toArray, List.set_cons_zero, List.set_cons_succ]
              refine wpAnyH_take (i := 11) (v := ?_) rfl (by kernel_rfl) (by kernel_rfl) (by kernel_rfl) (fun _ _ _ h => h) (Or.inl ⟨by rfl, ?_⟩) (by assumption) ?_
              rotate_left
              · intro w' hSw
                (try dsimp only at hSw)
                go_simp
                try (with_reducible rfl)
              simp only [Act.put, List.getElem_toArray, List.getElem_cons_zero, List.getElem_cons_succ, List.setIfInBounds_toArray, List.set_cons_zero, List.set_cons_succ]
              refine wpAnyH_take (i := 12) (v := ?_) rfl (by kernel_rfl) (by kernel_rfl) (by kernel_rfl) (fun _ _ _ h => h) (Or.inl ⟨by rfl, ?_⟩) (by assumption) ?_
              rotate_left
              · intro w' hSw
                (try dsimp only at hSw)
                go_simp
                try (with_reducible rfl)
              simp only [Act.put, List.getElem_toArray, List.getElem_cons_zero, List.getElem_cons_succ, List.setIfInBounds_toArray, List.set_cons_zero, List.set_cons_succ]
              refine wpAnyH_take (i := 13) (v := ?_) rfl (by kernel_rfl) (by kernel_rfl) (by kernel_rfl) (fun _ _ _ h => h) (Or.inl ⟨by rfl, ?_⟩) (by assumption) ?_
              rotate_left
              · intro w' hSw
                (try dsimp only at hSw)
                go_simp
                try (with_reducible rfl)
              simp only [Act.put, List.getElem_toArray, List.getElem_cons_zero, List.getElem_cons_succ, List.setIfInBounds_toArray, List.set_cons_zero, List.set_cons_succ]
              refine wpAnyH_take (i := 14) (v := ?_) rfl (by kernel_rfl) (by kernel_rfl) (by kernel_rfl) (fun _ _ _ h => h) (Or.inl ⟨by rfl, ?_⟩) (by assumption) ?_
              rotate_left
              · intro w' hSw
                (try dsimp only at hSw)
                go_simp
                try (with_reducible rfl)
              simp only [Act.put, List.getElem_toArray, List.getElem_cons_zero, List.getElem_cons_succ, List.setIfInBounds_toArray, List.set_cons_zero, List.set_cons_succ]
              refine wpAnyH_take (i := 15) (v := ?_) rfl (by kernel_rfl) (by kernel_rfl) (by kernel_rfl) (fun _ _ _ h => h) (Or.inl ⟨by rfl, ?_⟩) (by assumption) ?_
              rotate_left
              · intro w' hSw
                (try dsimp only at hSw)
                go_simp
                try (with_reducible rfl)
              simp only [Act.put, List.getElem_toArray, List.getElem_cons_zero, List.getElem_cons_succ, List.setIfInBounds_toArray, List.set_cons_zero, List.set_cons_succ]
              refine wpAnyH_take (i := 16) (v := ?_) rfl (by kernel_rfl) (by kernel_rfl) (by kernel_rfl) (fun _ _ _ h => h) (Or.inl ⟨by rfl, ?_⟩) (by assumption) ?_
              rotate_left
              · intro w' hSw
                (try dsimp only at hSw)
                go_simp
                try (with_reducible rfl)
              simp only [Act.put, List.getElem_toArray, List.getElem_cons_zero, List.getElem_cons_succ, List.setIfInBounds_toArray, List.set_cons_zero, List.set_cons_succ]
              refine wpAnyH_take (i := 17) (v := ?_) rfl (by kernel_rfl) (by kernel_rfl) (by kernel_rfl) (fun _ _ _ h => h) (Or.inl ⟨by rfl, ?_⟩) (by assumption) ?_
              rotate_left
              · intro w' hSw
                (try dsimp only at hSw)
                go_simp
                try (with_reducible rfl)
              simp only [Act.put, List.getElem_toArray, List.getElem_cons_zero, List.getElem_cons_succ, List.setIfInBounds_toArray, List.set_cons_zero, List.set_cons_succ]
              refine wpAnyH_done (by kernel_rfl) ?_ _
              clear hHeld
              go_wp2_with fail
              go_roundw
              case rel => exact ⟨k + 1, cn, by omega, by go_num, HCN.out, hcn1, hcnk, K8, X8, L8, S8⟩
              case measure => simp [intOf]; omega
          · have hnb : (at_ l' k != at_ rs k) = true := by simp [hne]
            have HNE := hide hne
            clear hne
            have hkk : k = kk := Decidable.byContradiction fun h => HNE.out (HKK.out k h)
            have hc0 : c = 0 := hck (by omega)
            subst hc0
            obtain ⟨cn, hcn1, hcnk, hcn⟩ : ∃ cn : Nat, cn ≤ 1 ∧ (k + 1 ≤ kk → cn = 0) ∧ Value.int .i64 (1 : Int) = .int .i64 (cn : Int) := ⟨1, Nat.le_refl 1, fun h => by omega, rfl⟩
            have HCN := hide hcn
            clear hcn hc1 hck hkk
            go_wp2_with fail
            go_quiet (fail)
            rename_i nq
            have KN : Hid (Below w1.heap.size w1 (wr.drewN nq)) := hide (below_drewN KR.out _)
            have XN : Hid (Blk (wr.drewN nq) w1.heap.size 25 #[.int .i64 nb, .slice D xs.length d]) := XR
            have LN : Hid (Sl (wr.drewN nq) (wr.drewN nq).heap.size 1 (some ⟨bL, oL, none⟩) l'.length (encI l')) := hide (LR.out.to (below_drewN (Below.refl _ wr) _))
            have SN : Hid (Sl (wr.drewN nq) (wr.drewN nq).heap.size 1 (some ⟨bM, oM, none⟩) gl.length (encI gl)) := hide (SR.out.to (below_drewN (Below.refl _ wr) _))
            have u0 : (wr.drewN nq).cell? ⟨w1.heap.size, 0, none⟩ = some (.int .i64 nb) := g0
            have u1 : (wr.drewN nq).cell? ⟨w1.heap.size, 1, none⟩ = some (.slice D xs.length d) := g1
            have hbL' : bL < (wr.drewN nq).heap.size := hbL
            have hbM' : bM < (wr.drewN nq).heap.size := hbM
            have v0 : (wr.drewN nq).cell? ⟨bL, oL + k, none⟩ = some (.int .i64 (at_ l' k)) := hcL
            have v1 : (wr.drewN nq).cell? ⟨bM, oM + k, none⟩ = some (.int .i64 (at_ gl k)) := hcM
            clear g0 g1 hcL hcM hcO hcO' KR XR LR SR hbL hbM
            generalize wr.drewN nq = wn at *
            go_wp2_with fail
            refine wp_region_held_drew (S := fun w' => w'.cell? ⟨w1.heap.size, 0, none⟩ = some (.int .i64 nb) ∧ w'.cell? ⟨w1.heap.size, 1, none⟩ = some (.slice D xs.length d) ∧ w'.cell? ⟨bL, oL + k, none⟩ = some (.int .i64 (at_ l' k)) ∧ w'.cell? ⟨bM, oM + k, none⟩ = some (.int .i64 (at_ gl k))) (by kernel_rfl) ⟨u0, u1, v0, v1⟩ (fun hHeld => ?_)
            clear u0 u1 v0 v1
            refine wpAnyH_take (i := 0) (v := ?_) rfl (by kernel_rfl) (by kernel_rfl) (by kernel_rfl) (fun _ _ _ h => h) (Or.inl ⟨by rfl, ?_⟩) (by assumption) ?_
            rotate_left
            · intro w' hSw
              (try dsimp only at hSw)
              go_simp
              try (with_reducible rfl)
            simp only [Act.put, List.getElem_toArray, List.getElem_cons_zero, List.setIfInBounds_toArray, List.set_cons_zero, List.set_cons_succ]
            refine wpAnyH_take (i := 1) (v := ?_) rfl (by kernel_rfl) (by kernel_rfl) (by kernel_rfl) (fun _ _ _ h => h) (Or.inl ⟨by rfl, ?_⟩) (by assumption) ?_
            rotate_left
            · intro w' hSw
              (try dsimp only at hSw)
              go_simp
              try (with_reducible rfl)
            simp only [Act.put, List.getElem_toArray, List.getElem_cons_zero, List.getElem_cons_succ, List.setIfInBounds_toArray, List.set_cons_zero, List.set_cons_succ]
            refine wpAnyH_take (i := 2) (v := ?_) rfl (by kernel_rfl) (by kernel_rfl) (by kernel_rfl) (fun _ _ _ h => h) (Or.inl ⟨by rfl, ?_⟩) (by assumption) ?_
            rotate_left
            · intro w' hSw
              (try dsimp only at hSw)
              go_simp
              try (with_reducible rfl)
            simp only [Act.put, List.getElem_toArray, List.getElem_cons_zero, List.getElem_cons_succ, List.setIfInBounds_toArray, List.set_cons_zero, List.set_cons_succ]
            refine wpAnyH_take (i := 3) (v := ?_) rfl (by kernel_rfl) (by kernel_rfl) (by kernel_rfl) (fun _ _ _ h => h) (Or.inl ⟨by rfl, ?_⟩) (by assumption) ?_
            rotate_left
            · intro w' hSw
              (try dsimp only at hSw)
              go_simp
              try (with_reducible rfl)
            simp only [Act.put, List.getElem_toArray, List.getElem_cons_zero, List.getElem_cons_succ, List.setIfInBounds_toArray, List.set_cons_zero, List.set_cons_succ]
            refine wpAnyH_ready (rs := [4]) (by kernel_rfl) (by simp) ?_
            refine AllReadyH.cons rfl (fun K hK => ?_) AllReadyH.nil
            go_simp
            go_at_call 21
            refine (belowLine_any nb k D E V d e f xs os bu _ (H.out.to (show Below w1.heap.size w1 wn.drew from KN.out.drew)) (GG.out.to (show Below w1.heap.size w1 wn.drew from KN.out.drew)) HON.out (S.out.to (show Below w1.heap.size w1 wn.drew from KN.out.drew)) HRAD.out (by omega)).mono ?_
            rintro en' w8 ⟨qs, zl, Z, zc, hq, hbr, rfl, hb8⟩
            have HBR := hide hbr
            have HQ := hide hq
            have K8 := hide (KN.out.drew.then hb8)
            have X8 := hide (XN.out.to (show Below _ wn w8 from (Below.refl _ wn).drew.then hb8))
            have L8 := hide (LN.out.to (show Below _ wn w8 from (Below.refl _ wn).drew.then hb8))
            have S8 := hide (SN.out.to (show Below _ wn w8 from (Below.refl _ wn).drew.then hb8))
            clear hbr hq
            go_wp2_with fail
            replace hHeld := And.intro (cellk hb8 hHeld.1) (And.intro (cellk hb8 hHeld.2.1) (And.intro (cellk hb8 hHeld.2.2.1) (cellk hb8 hHeld.2.2.2)))
            clear hb8
            refine hK.out _ _ hHeld (fun hHeld => ?_)
            clear hK K
            try simp only [Act.put, List.getElem_toArray, List.getElem_cons_zero, List.getElem_cons_succ, List.setIfInBounds_toArray, List.set_cons_zero, List.set_cons_succ]
            rcases Nat.eq_zero_or_pos zl.length with hzl | hzl
            · have hzd : decide (0 < (zl.length : Int)) = false := decide_eq_false (by omega)
              refine wpAnyH_take (i := 5) (v := ?_) rfl (by kernel_rfl) (by kernel_rfl) (by kernel_rfl) (fun _ _ _ h => h) (Or.inl ⟨by rfl, ?_⟩) (by assumption) ?_
              rotate_left
              · intro w' hSw
                (try dsimp only at hSw)
                go_simp
                try (with_reducible rfl)
              simp only [Act.put, List.getElem_toArray, List.getElem_cons_zero, List.getElem_cons_succ, List.setIfInBounds_toArray, List.set_cons_zero, List.set_cons_succ]
              refine wpAnyH_take (i := 6) (v := ?_) rfl (by kernel_rfl) (by kernel_rfl) (by kernel_rfl) (fun _ _ _ h => h) (Or.inl ⟨by rfl, ?_⟩) (by assumption) ?_
              rotate_left
              · intro w' hSw
                (try dsimp only at hSw)
                go_simp
                try (with_reducible rfl)
              simp only [Act.put, List.getElem_toArray, List.getElem_cons_zero, List.getElem_cons_succ, List.setIfInBounds_toArray, List.set_cons_zero, List.set_cons_succ]
              refine wpAnyH_take (i := 7) (v := ?_) rfl (by kernel_rfl) (by kernel_rfl) (by kernel_rfl) (fun _ _ _ h => h) (Or.inl ⟨by rfl, ?_⟩) (by assumption) ?_
              rotate_left
              · intro w' hSw
                (try dsimp only at hSw)
                go_simp
                try (with_reducible rfl)
              simp only [Act.put, List.getElem_toArray, List.getElem_cons_zero, List.getElem_cons_succ, List.setIfInBounds_toArray, List.set_cons_zero, List.set_cons_succ]
              try rw [hzd]
              refine wpAnyH_take (i := 8) (v := undef) rfl (by kernel_rfl) (by kernel_rfl) (by kernel_rfl) (fun _ _ _ h => h) (Or.inr ⟨by rfl, rfl⟩) (by assumption) ?_
              simp only [Act.put, List.getElem_toArray, List.getElem_cons_zero, List.getElem_cons_succ, List.setIfInBounds_toArray, List.set_cons_zero, List.set_cons_succ]
              refine wpAnyH_take (i := 9) (v := undef) rfl (by kernel_rfl) (by kernel_rfl) (by kernel_rfl) (fun _ _ _ h => h) (Or.inr ⟨by rfl, rfl⟩) (by assumption) ?_
              simp only [Act.put, List.getElem_toArray, List.getElem_cons_zero, List.getElem_cons_succ, List.setIfInBounds_toArray, List.set_cons_zero, List.set_cons_succ]
              refine wpAnyH_take (i := 10) (v := undef) rfl (by kernel_rfl) (by kernel_rfl) (by kernel_rfl) (fun _ _ _ h => h) (Or.inr ⟨by rfl, rfl⟩) (by assumption) ?_
              simp only [Act.put, List.getElem_toArray, List.getElem_cons_zero, List.getElem_cons_succ, List.setIfInBounds_toArray, List.set_cons_zero, List.set_cons_succ]
              refine wpAnyH_take (i := 11) (v := undef) rfl (by kernel_rfl) (by kernel_rfl) (by kernel_rfl) (fun _ _ _ h => h) (Or.inr ⟨by rfl, rfl⟩) (by assumption) ?_
              simp only [Act.put, List.getElem_toArray, List.getElem_cons_zero, List.getElem_cons_succ, List.setIfInBounds_toArray, List.set_cons_zero, List.set_cons_succ]
              refine wpAnyH_take (i := 12) (v := undef) rfl (by kernel_rfl) (by kernel_rfl) (by kernel_rfl) (fun _ _ _ h => h) (Or.inr ⟨by rfl, rfl⟩) (by assumption) ?_
              simp only [Act.put, List.getElem_toArray, List.getElem_cons_zero, List.getElem_cons_succ, List.setIfInBounds_toArray, List.set_cons_zero, List.set_cons_succ]
              refine wpAnyH_take (i := 13) (v := undef) rfl (by kernel_rfl) (by kernel_rfl) (by kernel_rfl) (fun _ _ _ h => h) (Or.inr ⟨by rfl, rfl⟩) (by assumption) ?_
              simp only [Act.put, List.getElem_toArray, List.getElem_cons_zero, List.getElem_cons_succ, List.setIfInBounds_toArray, List.set_cons_zero, List.set_cons_succ]
              refine wpAnyH_take (i := 14) (v := undef) rfl (by kernel_rfl) (by kernel_rfl) (by kernel_rfl) (fun _ _ _ h => h) (Or.inr ⟨by rfl, rfl⟩) (by assumption) ?_
              simp only [Act.put, List.getElem_toArray, List.getElem_cons_zero, List.getElem_cons_succ, List.setIfInBounds_toArray, List.set_cons_zero, List.set_cons_succ]
              refine wpAnyH_take (i := 15) (v := undef) rfl (by kernel_rfl) (by kernel_rfl) (by kernel_rfl) (fun _ _ _ h => h) (Or.inr ⟨by rfl, rfl⟩) (by assumption) ?_
              simp only [Act.put, List.getElem_toArray, List.getElem_cons_zero, List.getElem_cons_succ, List.setIfInBounds_toArray, List.set_cons_zero, List.set_cons_succ]
              refine wpAnyH_take (i := 16) (v := undef) rfl (by kernel_rfl) (by kernel_rfl) (by kernel_rfl) (fun _ _ _ h => h) (Or.inr ⟨by rfl, rfl⟩) (by assumption) ?_
              simp only [Act.put, List.getElem_toArray, List.getElem_cons_zero, List.getElem_cons_succ, List.setIfInBounds_toArray, List.set_cons_zero, List.set_cons_succ]
              refine wpAnyH_take (i := 17) (v := ?_) rfl (by kernel_rfl) (by kernel_rfl) (by kernel_rfl) (fun _ _ _ h => h) (Or.inl ⟨by rfl, ?_⟩) (by assumption) ?_
              rotate_left
              · intro w' hSw
                (try dsimp only at hSw)
                go_simp
                try (with_reducible rfl)
              simp only [Act.put, List.getElem_toArray, List.getElem_cons_zero, List.getElem_cons_succ, List.setIfInBounds_toArray, List.set_cons_zero, List.set_cons_succ]
              refine wpAnyH_done (by kernel_rfl) ?_ _
              clear hHeld
              go_wp2_with fail
              go_roundw
              case rel => exact ⟨k + 1, cn, by omega, by go_num, HCN.out, hcn1, hcnk, K8, X8, L8, S8⟩
              case measure => simp [intOf]; omega
            · have hzd : decide (0 < (zl.length : Int)) = true := by simp; omega
              obtain ⟨y, hy, hyk⟩ := HBR.out.2 hzl
              have hme := FlowG.mend HRAD.out HFG.out HP.out HQ.out HZP.out HZZ.out (by omega) hyk
              have hmb : (at_ l' k != at_ gl k) = false := by simp [hme]
              have HME := hide hme
              clear hme hyk
              refine wpAnyH_take (i := 5) (v := ?_) rfl (by kernel_rfl) (by kernel_rfl) (by kernel_rfl) (fun _ _ _ h => h) (Or.inl ⟨by rfl, ?_⟩) (by assumption) ?_
              rotate_left
              · intro w' hSw
                (try dsimp only at hSw)
                go_simp
                try (with_reducible rfl)
              simp only [Act.put, List.getElem_toArray, List.getElem_cons_zero, List.getElem_cons_succ, List.setIfInBounds_toArray, List.set_cons_zero, List.set_cons_succ]
              refine wpAnyH_take (i := 6) (v := ?_) rfl (by kernel_rfl) (by kernel_rfl) (by kernel_rfl) (fun _ _ _ h => h) (Or.inl ⟨by rfl, ?_⟩) (by assumption) ?_
              rotate_left
              · intro w' hSw
                (try dsimp only at hSw)
                go_simp
                try (with_reducible rfl)
              simp only [Act.put, List.getElem_toArray, List.getElem_cons_zero, List.getElem_cons_succ, List.setIfInBounds_toArray, List.set_cons_zero, List.set_cons_succ]
              refine wpAnyH_take (i := 7) (v := ?_) rfl (by kernel_rfl) (by kernel_rfl) (by kernel_rfl) (fun _ _ _ h => h) (Or.inl ⟨by rfl, ?_⟩) (by assumption) ?_
              rotate_left
              · intro w' hSw
                (try dsimp only at hSw)
                go_simp
                try (with_reducible rfl)
              simp only [Act.put, List.getElem_toArray, List.getElem_cons_zero, List.getElem_cons_succ, List.setIfInBounds_toArray, List.set_cons_zero, List.set_cons_succ]
              try rw [hzd]
              refine wpAnyH_take (i := 8) (v := ?_) rfl (by kernel_rfl) (by kernel_rfl) (by kernel_rfl) (fun _ _ _ h => h) (Or.inl ⟨by rfl, ?_⟩) (by assumption) ?_
              rotate_left
              · intro w' hSw
                (try dsimp only at hSw)
                go_simp
                try (with_reducible rfl)
              simp only [Act.put, List.getElem_toArray, List.getElem_cons_zero, List.getElem_cons_succ, List.setIfInBounds_toArray, List.set_cons_zero, List.set_cons_succ]
              refine wpAnyH_take (i := 9) (v := ?_) rfl (by kernel_rfl) (by kernel_rfl) (by kernel_rfl) (fun _ _ _ h => h) (Or.inl ⟨by rfl, ?_⟩) (by assumption) ?_
              rotate_left
              · intro w' hSw
                (try dsimp only at hSw)
                go_simp
                try (with_reducible rfl)
              simp only [Act.put, List.getElem_toArray, List.getElem_cons_zero, List.getElem_cons_succ, List.setIfInBounds_toArray, List.set_cons_zero, List.set_cons_succ]
              refine wpAnyH_take (i := 10) (v := ?_) rfl (by kernel_rfl) (by kernel_rfl) (by kernel_rfl) (fun _ _ _ h => h) (Or.inl ⟨by rfl, ?_⟩) (by assumption) ?_
              rotate_left
              · intro w' hSw
                (try dsimp only at hSw)
                go_simp
                try (with_reducible rfl)
              simp only [Act.put, List.getElem_toArray, List.getElem_cons_zero, List.getElem_cons_succ, List.setIfInBounds_toArray, List.set_cons_zero, List.set_cons_succ]
              refine wpAnyH_take (i := 11) (v := ?_) rfl (by kernel_rfl) (by kernel_rfl) (by kernel_rfl) (fun _ _ _ h => h) (Or.inl ⟨by rfl, ?_⟩) (by assumption) ?_
              rotate_left
              · intro w' hSw
                (try dsimp only at hSw)
                go_simp
                try (with_reducible rfl)
              simp only [Act.put, List.getElem_toArray, List.getElem_cons_zero, List.getElem_cons_succ, List.setIfInBounds_toArray, List.set_cons_zero, List.set_cons_succ]
              refine wpAnyH_take (i := 12) (v := ?_) rfl (by kernel_rfl) (by kernel_rfl) (by kernel_rfl) (fun _ _ _ h => h) (Or.inl ⟨by rfl, ?_⟩) (by assumption) ?_
              rotate_left
              · intro w' hSw
                (try dsimp only at hSw)
                go_simp
                try (with_reducible rfl)
              simp only [Act.put, List.getElem_toArray, List.getElem_cons_zero, List.getElem_cons_succ, List.setIfInBounds_toArray, List.set_cons_zero, List.set_cons_succ]
              refine wpAnyH_take (i := 13) (v := ?_) rfl (by kernel_rfl) (by kernel_rfl) (by kernel_rfl) (fun _ _ _ h => h) (Or.inl ⟨by rfl, ?_⟩) (by assumption) ?_
              rotate_left
              · intro w' hSw
                (try dsimp only at hSw)
                go_simp
                try (with_reducible rfl)
              simp only [Act.put, List.getElem_toArray, List.getElem_cons_zero, List.getElem_cons_succ, List.setIfInBounds_toArray, List.set_cons_zero, List.set_cons_succ]
              refine wpAnyH_take (i := 14) (v := ?_) rfl (by kernel_rfl) (by kernel_rfl) (by kernel_rfl) (fun _ _ _ h => h) (Or.inl ⟨by rfl, ?_⟩) (by assumption) ?_
              rotate_left
              · intro w' hSw
                (try dsimp only at hSw)
                go_simp
                try (with_reducible rfl)
              simp only [Act.put, List.getElem_toArray, List.getElem_cons_zero, List.getElem_cons_succ, List.setIfInBounds_toArray, List.set_cons_zero, List.set_cons_succ]
              refine wpAnyH_take (i := 15) (v := ?_) rfl (by kernel_rfl) (by kernel_rfl) (by kernel_rfl) (fun _ _ _ h => h) (Or.inl ⟨by rfl, ?_⟩) (by assumption) ?_
              rotate_left
              · intro w' hSw
                (try dsimp only at hSw)
                go_simp
                try (with_reducible rfl)
              simp only [Act.put, List.getElem_toArray, List.getElem_cons_zero, List.getElem_cons_succ, List.setIfInBounds_toArray, List.set_cons_zero, List.set_cons_succ]
              refine wpAnyH_take (i := 16) (v := ?_) rfl (by kernel_rfl) (by kernel_rfl) (by kernel_rfl) (fun _ _ _ h => h) (Or.inl ⟨by rfl, ?_⟩) (by assumption) ?_
              rotate_left
              · intro w' hSw
                (try dsimp only at hSw)
                go_simp
                try (with_reducible rfl)
              simp only [Act.put, List.getElem_toArray, List.getElem_cons_zero, List.getElem_cons_succ, List.setIfInBounds_toArray, List.set_cons_zero, List.set_cons_succ]
              refine wpAnyH_take (i := 17) (v := ?_) rfl (by kernel_rfl) (by kernel_rfl) (by kernel_rfl) (fun _ _ _ h => h) (Or.inl ⟨by rfl, ?_⟩) (by assumption) ?_
              rotate_left
              · intro w' hSw
                (try dsimp only at hSw)
                go_simp
                try (with_reducible rfl)
              simp only [Act.put, List.getElem_toArray, List.getElem_cons_zero, List.getElem_cons_succ, List.setIfInBounds_toArray, List.set_cons_zero, List.set_cons_succ]
              refine wpAnyH_done (by kernel_rfl) ?_ _
              clear hHeld
              go_wp2_with fail
              go_roundw
              case rel => exact ⟨k + 1, cn, by omega, by go_num, HCN.out, hcn1, hcnk, K8, X8, L8, S8⟩
              case measure => simp [intOf]; omega
        · obtain rfl : k = l'.length := by omega
          have hcd : decide ((c : Int) ≤ 1) = true := by simp; omega
          have hll := HLL.out
          go_wp2_with fail
          refine (implResiduals_any nb D E V L d e f xs.length lc xs os bu l' wr (H.out.to KR.out) (GG.out.to KR.out) HON.out (S.out.to KR.out) LR.out (by omega) (by omega) (by omega)).mono ?_
          rintro en' w9 ⟨y9, Y9, c9, hy9, rfl, ho9, hb9⟩
          have HZ9 := hide (hy9.zero HRAD.out HRD.out HZP.out HZZ.out)
          have hy10 := hy9.len
          have K9 := hide (KR.out.then hb9)
          have S9 := hide (Sl.of_own ho9)
          clear hy9 ho9 hb9 g0 g1 XR LR SR KR
          go_wp2_with fail
          refine (lawNone_any _ _ _ _ S9.out (by omega)).mono ?_
          rintro en' wz ⟨rfl, rfl⟩
          rw [HZ9.out]
          go_wp2_with fail
          go_ret
          exact ⟨rfl, HK.out.then K9.out⟩
  · go_enter Tryd.func5, Tryd.ntmps5
    go_wp2_with fail
    go_ret
    exact ⟨rfl, Below.refl _ _⟩

end Go.Proofs.YtbebhbcjdiahcaaDoor
