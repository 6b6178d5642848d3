/-
  Chapter 36: the best phases; what the program's search computes.
-/
import Derived.Test.YteffcemgmabdnaaDoorBestPhW
import Derived.Test.YteffcemgmabdnaaDoorBut
namespace Go.Proofs.YteffcemgmabdnaaDoor
open Go.RowKit
set_option linter.unusedVariables false

/-- The search has seen the first M lists; the first k phases are those of N. -/
def PutSt (xs : List Int) (A : Option Addr) (c g p k N M : Nat) (w : World) : Prop :=
  ∃ (r : List Int) (l : Int) (D : Option Addr) (d : Nat), (r, l) = bestU xs M ∧ Blk w g 82 #[.slice A xs.length c, .slice D r.length d, .int .i64 l] ∧ w.ownsRow (p + 1) 3 1 (.slice D r.length d) r.length (encI r) ∧
    w.ownsRow p 3 1 (.slice (some ⟨p, 0, none⟩) k xs.length) k (encI (digs k N)) ∧ Sl w g 1 A xs.length (encI xs) ∧ g < p
def GP (g p : Nat) (b : Nat) : Prop := b = g ∨ b = p
theorem PutSt.but {xs : List Int} {A : Option Addr} {c g p k N M : Nat} {w w' : World} (h : PutSt xs A c g p k N M w) (hb : But (fun _ => False) w w') : PutSt xs A c g p k N M w' := by
  obtain ⟨r, l, D, d, h1, h2, h3, h4, h5, h6⟩ := h
  exact ⟨r, l, D, d, h1, hb.blk h2 (fun h => h), hb.own h3 (fun _ _ h => h), hb.own h4 (fun _ _ h => h), hb.sl h5 (by have := h2.lt; omega) (fun _ _ h => h), h6⟩
theorem imbB_digs {xs : List Int} (h : tapsB xs = true) (N : Nat) : imbB xs (digs xs.length N) = imb (phSum xs (digs xs.length N) 0 xs.length) (phSum xs (digs xs.length N) 1 xs.length) (phSum xs (digs xs.length N) 2 xs.length) := by
  simp [imbB, digs_ok h N]
theorem digs_sum (xs : List Int) (k N q : Nat) (hq : q < 3) (ph : Int) : phSum xs (digs (k + 1) (3 * N + q)) ph (k + 1) = phSum xs (digs k N) ph k + if (q : Int) = ph then at_ xs k else 0 := by
  rw [← digs_snoc k N q hq]
  have := phSum_snoc xs (digs k N) q ph
  rw [digs_len] at this
  exact this

theorem PutSt.next {xs : List Int} {A : Option Addr} {c g p k N M : Nat} {w : World} (h : PutSt xs A c g p k N M w) (hk : k < xs.length) (q : Nat) (hq : q < 3) (o1 o2 : Obj) : PutSt xs A c g p (k + 1) (3 * N + q) M ((((w.setCell ⟨p, k, none⟩ (.int .i64 q)).alloc o1).alloc o2).drew.drew) := by
  have h1 : PutSt xs A c g p (k + 1) (3 * N + q) M (w.setCell ⟨p, k, none⟩ (.int .i64 q)) := by
    obtain ⟨r, l, D, d, h1, h2, h3, h4, h5, h6⟩ := h
    have hb : But (fun b => b = p) w (w.setCell ⟨p, k, none⟩ (.int .i64 q)) := (But.refl _ w).setCell _ _ (fun _ => rfl)
    refine ⟨r, l, D, d, h1, hb.blk h2 (by omega), hb.own h3 (fun x hx he => ?_), ?_, hb.sl h5 (by have := h2.lt; omega) (fun x hx he => by omega), h6⟩
    · have := (h3.lt x hx).1
      omega
    · rw [← digs_snoc k N q hq]
      exact own_grow h4 hk q
  exact h1.but ((((But.refl (fun _ => False) _).alloc o1).alloc o2).drew.drew)
theorem PutSt.back {xs : List Int} {A : Option Addr} {c g p k N M q : Nat} {w : World} (h : PutSt xs A c g p (k + 1) (3 * N + q) M w) (hq : q < 3) : PutSt xs A c g p k N M w := by
  obtain ⟨r, l, D, d, h1, h2, h3, h4, h5, h6⟩ := h
  rw [← digs_snoc k N q hq] at h4
  exact ⟨r, l, D, d, h1, h2, h3, own_front h4, h5, h6⟩
theorem PutSt.plt {xs : List Int} {A : Option Addr} {c g p k N M : Nat} {w : World} (h : PutSt xs A c g p k N M w) : g < p ∧ p < w.heap.size := by
  obtain ⟨r, l, D, d, h1, h2, h3, h4, h5, h6⟩ := h
  exact ⟨h6, (h4.lt p rfl).2⟩

set_option maxRecDepth 20000 in
set_option maxHeartbeats 4000000 in
theorem put_any (xs : List Int) (hv : tapsB xs = true) (A : Option Addr) (cc g p : Nat) : ∀ (m k N : Nat) (a b c : Int) (w : World), k + m = xs.length → N < 3 ^ k → Hid (a = phSum xs (digs k N) 0 k ∧ b = phSum xs (digs k N) 1 k ∧ c = phSum xs (digs k N) 2 k) → PutSt xs A cc g p k N (N * 3 ^ m) w →
    Calls Tryd.prog 60 #[.pointer (some ⟨g, 0, none⟩), .int .i64 k, .agg #[.int .i64 a, .int .i64 b, .int .i64 c], .slice (some ⟨p, 0, none⟩) k xs.length] w fun e w' => (∃ v, e = .returned v) ∧ PutSt xs A cc g p k N (N * 3 ^ m + 3 ^ m) w' ∧ But (GP g p) w w' := by
  have hl6 := taps_len hv
  intro m
  induction m with
  | zero =>
    intro k N a b c w hk hN HS hst
    obtain rfl : k = xs.length := by omega
    clear hk
    rw [Nat.pow_zero, Nat.mul_one] at hst
    rw [Nat.pow_zero, Nat.mul_one]
    obtain ⟨r, l, D, d, hr, hB, hor, hop, hsl, hgp⟩ := hst
    have hb0 := phSum_in (phases := digs xs.length N) hv 0 xs.length (Nat.le_refl _)
    have hb1 := phSum_in (phases := digs xs.length N) hv 1 xs.length (Nat.le_refl _)
    have hb2 := phSum_in (phases := digs xs.length N) hv 2 xs.length (Nat.le_refl _)
    rw [← HS.out.1] at hb0
    rw [← HS.out.2.1] at hb1
    rw [← HS.out.2.2] at hb2
    have HI := hide (imbB_digs hv N)
    have hpos := imbB_in (digs_ok hv N)
    rw [HI.out, ← HS.out.1, ← HS.out.2.1, ← HS.out.2.2] at hpos
    have hg := hB.lt
    have b1 := (Below.refl w.heap.size w).alloc (Nat.le_refl _) (.cells #[.int .i64 a, .int .i64 b, .int .i64 c] 74)
    have B1 := hB.to b1
    have N1 := Blk.new w 74 #[.int .i64 a, .int .i64 b, .int .i64 c]
    have e0 : (w.alloc (.cells #[.int .i64 a, .int .i64 b, .int .i64 c] 74)).cell? ⟨g, 0, none⟩ = some (.slice A xs.length cc) := B1.cell 0
    have HB1 := hide B1
    have HK1 := hide b1
    clear b1 B1 hB
    have HR := hide hr
    clear hr
    go_enter Tryd.func60, Tryd.ntmps60
    go_wp2_with fail
    refine (imbalanceOf_any a b c _ (by omega) (by omega) (by omega)).mono ?_
    rintro e w2 ⟨rfl, h2⟩
    have B2 := HB1.out.to h2
    have K2 := hide (HK1.out.then h2)
    have f1 : w2.cell? ⟨g, 1, none⟩ = some (.slice D r.length d) := B2.cell 1
    have f2 : w2.cell? ⟨g, 2, none⟩ = some (.int .i64 l) := B2.cell 2
    have z1 := B2.frozen 1
    have z2 := B2.frozen 2
    have HB2 := hide B2
    clear B2 h2 e0 N1
    generalize hq : imb a b c = q at hpos ⊢
    have HQ := hide hq
    clear hq
    by_cases hc : l < 0 ∨ q < l
    · have HC := hide (bestU_yes (xs := xs) (N := N) (by rw [← HR.out, HI.out, ← HS.out.1, ← HS.out.2.1, ← HS.out.2.2, HQ.out]; exact hc))
      have hdec : decide (l < 0) = true ∨ (decide (l < 0) = false ∧ decide (q < l) = true) := by
        by_cases h : l < 0
        · exact .inl (by simp [h])
        · exact .inr ⟨by simp [h], by simp; omega⟩
      clear hc
      rcases hdec with hd1 | ⟨hd1, hd2⟩
      all_goals
        go_wp2_with fail
        refine (slicesClone_any _ _ _ (digs xs.length N) _ (digs_len _ _) (by rw [digs_len]; exact (Sl.of_own ((hop.keepB K2.out)))) (by rw [digs_len]; omega)).mono ?_
        rintro e w3 ⟨r3, D3, d3, hr3, rfl, ho3, hb3⟩
        have HR3 := hide hr3
        have HO3 := hide ho3
        have HB3 := hide (HB2.out.to hb3)
        have K3 := hide (K2.out.then hb3)
        have y1 : w3.cell? ⟨g, 1, none⟩ = some (.slice D r.length d) := HB3.out.cell 1
        have y2 : w3.cell? ⟨g, 2, none⟩ = some (.int .i64 l) := HB3.out.cell 2
        have y3 := HB3.out.frozen 1
        have y4 := HB3.out.frozen 2
        clear hr3 ho3 hb3 f1 f2 z1 z2
        go_wp2_with fail
        (try simp only [Exit.inBlock, Exit.then])
        refine bodyPost_ret (results_none rfl _ _ _) rfl ?_
        refine ⟨⟨_, rfl⟩, ⟨r3, q, D3, d3, ?_, ?_, ?_, ?_, ?_, hgp⟩, ?_⟩
        · rw [HC.out, HI.out, ← HS.out.1, ← HS.out.2.1, ← HS.out.2.2, HQ.out, HR3.out]
        · exact (HB3.out.set_ 1 _).set_ 2 _
        · have hne : ∀ x, (Value.slice D3 r3.length d3).ownBlock = some x → ¬ GP g p x := fun x hx hS => by
            have := (HO3.out.lt x hx).1
            have := K2.out.size
            have := (hop.lt p rfl).2
            rcases hS with rfl | rfl <;> omega
          exact own_mono ((((But.refl (GP g p) w3).setCell ⟨g, 1, none⟩ _ (fun _ => .inl rfl)).setCell ⟨g, 2, none⟩ _ (fun _ => .inl rfl)).own HO3.out hne) (by have := K2.out.size; have := (hop.lt p rfl).2; omega)
        · exact (((But.refl (fun b => b = g) w3).setCell ⟨g, 1, none⟩ _ (fun _ => rfl)).setCell ⟨g, 2, none⟩ _ (fun _ => rfl)).own (hop.keepB K3.out) (fun x hx he => by simp [Value.ownBlock] at hx; omega)
        · exact (((But.refl (fun b => b = g) w3).setCell ⟨g, 1, none⟩ _ (fun _ => rfl)).setCell ⟨g, 2, none⟩ _ (fun _ => rfl)).sl (hsl.below (K3.out.mono (by omega))) (by have := K3.out.size; omega) (fun x hx he => by omega)
        · exact ((But.of_below K3.out).setCell ⟨g, 1, none⟩ _ (fun _ => .inl rfl)).setCell ⟨g, 2, none⟩ _ (fun _ => .inl rfl)
    · have HC := hide (bestU_no (xs := xs) (N := N) (by rw [← HR.out, HI.out, ← HS.out.1, ← HS.out.2.1, ← HS.out.2.2, HQ.out]; exact hc))
      have hd1 : decide (l < 0) = false := by simp; omega
      have hd2 : decide (q < l) = false := by simp; omega
      go_wp2_with fail
      (try simp only [Exit.inBlock, Exit.then])
      refine bodyPost_ret (results_none rfl _ _ _) rfl ?_
      refine ⟨⟨_, rfl⟩, ⟨r, l, D, d, ?_, HB2.out, hor.keepB K2.out, hop.keepB K2.out, hsl.below (K2.out.mono (by omega)), hgp⟩, But.of_below K2.out⟩
      rw [HC.out, HR.out]
  | succ m ih =>
    intro k N a b c w hk hN HS hst
    have hklt : k < xs.length := by omega
    have hb0 := phSum_in (phases := digs k N) hv 0 k (by omega)
    have hb1 := phSum_in (phases := digs k N) hv 1 k (by omega)
    have hb2 := phSum_in (phases := digs k N) hv 2 k (by omega)
    rw [← HS.out.1] at hb0
    rw [← HS.out.2.1] at hb1
    rw [← HS.out.2.2] at hb2
    obtain ⟨hx0, hx1⟩ := taps_at hv k hklt
    obtain ⟨hgp0, hp0⟩ := hst.plt
    have hg : g < w.heap.size := by obtain ⟨r, l, D, d, h1, h2, h3, h4, h5, h6⟩ := hst; exact h2.lt
    have b1 := (Below.refl w.heap.size w).alloc (Nat.le_refl _) (.cells #[.int .i64 a, .int .i64 b, .int .i64 c] 74)
    have N1 := hide (Blk.new w 74 #[.int .i64 a, .int .i64 b, .int .i64 c])
    have ST1 := hide (hst.but (But.of_below b1))
    have HK1 := hide (But.of_below (S := GP g p) b1)
    have e0 : (w.alloc (.cells #[.int .i64 a, .int .i64 b, .int .i64 c] 74)).cell? ⟨g, 0, none⟩ = some (.slice A xs.length cc) := by
      obtain ⟨r, l, D, d, h1, h2, h3, h4, h5, h6⟩ := ST1.out
      exact h2.cell 0
    have hM : N * 3 ^ (m + 1) = (3 * N + 0) * 3 ^ m := by rw [Nat.pow_succ, Nat.add_zero, Nat.mul_comm 3 N, Nat.mul_assoc, Nat.mul_comm (3 ^ m) 3]
    have hE : N * 3 ^ (m + 1) + 3 ^ (m + 1) = (3 * N + 3) * 3 ^ m := by rw [hM, Nat.pow_succ, ← Nat.mul_comm 3 (3 ^ m), ← Nat.add_mul]
    rw [hM] at ST1
    rw [hE]
    have hP : 3 ^ (k + 1) = 3 * 3 ^ k := by rw [Nat.pow_succ, Nat.mul_comm]
    have HP := hide hP
    have hkb : ((k : Int) == xs.length) = false := by simp; omega
    have k0 : (0 : Int) ≤ k := by omega
    have k1 : (k : Int) < xs.length := by omega
    clear b1 hM hE hst hP
    go_enter Tryd.func60, Tryd.ntmps60
    go_wp2_with fail
    go_loopw [42, 9, 10] (fun q _ _ wr => ∃ s : Nat, s ≤ 3 ∧ q = .int .i64 s ∧ Hid (PutSt xs A cc g p k N ((3 * N + s) * 3 ^ m) wr) ∧ Hid (Blk wr w.heap.size 74 #[.int .i64 a, .int .i64 b, .int .i64 c]) ∧ Hid (But (GP g p) w wr)) (fun q _ _ _ => 3 - (intOf q).toNat)
    case atStart => exact ⟨0, by omega, rfl, ST1, N1, HK1⟩
    case round =>
      obtain ⟨s, hs, rfl, ST, NB, HK⟩ := hrel
      have := HK
      clear e0
      by_cases hlt : s < 3
      · obtain ⟨r, l, D, d, hr, hB, hor, hop, hsl, hgp⟩ := ST.out
        obtain ⟨n0, n1, n2⟩ := NB.out.three
        have e0 : wr.cell? ⟨g, 0, none⟩ = some (.slice A xs.length cc) := hB.cell 0
        obtain ⟨bb, off, rfl, hbb, hcx⟩ := hsl.int k hklt
        have hgw := hB.lt
        have hpw := (hop.lt p rfl).2
        have hnw := NB.out.lt
        have hbw : bb < wr.heap.size := by omega
        obtain ⟨u, hu⟩ := own_room hop hklt
        have hfz := own_open (k := k) hop
        have HR := hide hr
        have HB := hide hB
        have HOR := hide hor
        have HOP := hide hop
        have HSL := hide hsl
        clear hr hB hor hop hsl
        have hs3 : s = 0 ∨ s = 1 ∨ s = 2 := by omega
        rcases hs3 with rfl | rfl | rfl
        · skip
          have CL := (fun (wx : World) (h : PutSt xs (some ⟨bb, off, none⟩) cc g p (k + 1) (3 * N + 0) ((3 * N + 0) * 3 ^ m) wx) => ih (k + 1) (3 * N + 0) (a + at_ xs k) (b) (c) wx (by omega) (by have := HP.out; omega) (hide ⟨by rw [digs_sum xs k N 0 (by omega), ← HS.out.1]; simp, by rw [digs_sum xs k N 0 (by omega), ← HS.out.2.1]; simp, by rw [digs_sum xs k N 0 (by omega), ← HS.out.2.2]; simp⟩) h)
          simp only [show ((k + 1 : Nat) : Int) = (k : Int) + 1 from by omega] at CL
          replace CL := hide CL
          have ST2 := hide (ST.out.next hklt 0 (by omega) (.cells #[.int .i64 (a + at_ xs k), .int .i64 (b), .int .i64 (c)] 74) (.cells #[.int .i64 0] 3))
          have NB2 := hide (((((But.refl (GP g p) wr).setCell ⟨p, k, none⟩ (.int .i64 0) (fun _ => .inr rfl)).alloc (.cells #[.int .i64 (a + at_ xs k), .int .i64 (b), .int .i64 (c)] 74)).alloc (.cells #[.int .i64 0] 3)).drew.drew)
          go_wp2_with fail
          go_region
          all_goals go_wp2_with fail
          go_region_law (first | (refine step_app_room rfl (.tmp 62) (.tmp 64) rfl p k xs.length (by simp [Act.eval]) (wr.heap.size + 1) 0 (by simp [Act.eval]) (by go_simp) hklt ⟨u, by go_simp⟩ (by go_simp) ?_) | (go_simp; go_at_call 60; rw [IntWalk.i64_in _ (by omega)]; refine (CL.out _ ST2.out).mono ?_; rintro e w2 ⟨⟨v, rfl⟩, st2, hb2⟩))
          all_goals
            have ST3 := hide st2.back
            have NB3 := hide (NB2.out.then hb2)
            clear st2 hb2
            go_wp2_with fail
            go_roundw
            case rel => exact ⟨0 + 1, by omega, by go_num, hide (by rw [← Nat.add_assoc, Nat.succ_mul]; exact ST3.out (by omega)), hide (NB3.out.blk NB.out (by rintro (h | h) <;> omega)), hide (HK.out.then NB3.out)⟩
            case measure => simp [intOf]
        · skip
          have CL := (fun (wx : World) (h : PutSt xs (some ⟨bb, off, none⟩) cc g p (k + 1) (3 * N + 1) ((3 * N + 1) * 3 ^ m) wx) => ih (k + 1) (3 * N + 1) (a) (b + at_ xs k) (c) wx (by omega) (by have := HP.out; omega) (hide ⟨by rw [digs_sum xs k N 1 (by omega), ← HS.out.1]; simp, by rw [digs_sum xs k N 1 (by omega), ← HS.out.2.1]; simp, by rw [digs_sum xs k N 1 (by omega), ← HS.out.2.2]; simp⟩) h)
          simp only [show ((k + 1 : Nat) : Int) = (k : Int) + 1 from by omega] at CL
          replace CL := hide CL
          have ST2 := hide (ST.out.next hklt 1 (by omega) (.cells #[.int .i64 (a), .int .i64 (b + at_ xs k), .int .i64 (c)] 74) (.cells #[.int .i64 1] 3))
          have NB2 := hide (((((But.refl (GP g p) wr).setCell ⟨p, k, none⟩ (.int .i64 1) (fun _ => .inr rfl)).alloc (.cells #[.int .i64 (a), .int .i64 (b + at_ xs k), .int .i64 (c)] 74)).alloc (.cells #[.int .i64 1] 3)).drew.drew)
          go_wp2_with fail
          go_region
          all_goals go_wp2_with fail
          go_region_law (first | (refine step_app_room rfl (.tmp 62) (.tmp 64) rfl p k xs.length (by simp [Act.eval]) (wr.heap.size + 1) 1 (by simp [Act.eval]) (by go_simp) hklt ⟨u, by go_simp⟩ (by go_simp) ?_) | (go_simp; go_at_call 60; rw [IntWalk.i64_in _ (by omega)]; refine (CL.out _ ST2.out).mono ?_; rintro e w2 ⟨⟨v, rfl⟩, st2, hb2⟩))
          all_goals
            have ST3 := hide st2.back
            have NB3 := hide (NB2.out.then hb2)
            clear st2 hb2
            go_wp2_with fail
            go_roundw
            case rel => exact ⟨1 + 1, by omega, by go_num, hide (by rw [← Nat.add_assoc, Nat.succ_mul]; exact ST3.out (by omega)), hide (NB3.out.blk NB.out (by rintro (h | h) <;> omega)), hide (HK.out.then NB3.out)⟩
            case measure => simp [intOf]
        · skip
          have CL := (fun (wx : World) (h : PutSt xs (some ⟨bb, off, none⟩) cc g p (k + 1) (3 * N + 2) ((3 * N + 2) * 3 ^ m) wx) => ih (k + 1) (3 * N + 2) (a) (b) (c + at_ xs k) wx (by omega) (by have := HP.out; omega) (hide ⟨by rw [digs_sum xs k N 2 (by omega), ← HS.out.1]; simp, by rw [digs_sum xs k N 2 (by omega), ← HS.out.2.1]; simp, by rw [digs_sum xs k N 2 (by omega), ← HS.out.2.2]; simp⟩) h)
          simp only [show ((k + 1 : Nat) : Int) = (k : Int) + 1 from by omega] at CL
          replace CL := hide CL
          have ST2 := hide (ST.out.next hklt 2 (by omega) (.cells #[.int .i64 (a), .int .i64 (b), .int .i64 (c + at_ xs k)] 74) (.cells #[.int .i64 2] 3))
          have NB2 := hide (((((But.refl (GP g p) wr).setCell ⟨p, k, none⟩ (.int .i64 2) (fun _ => .inr rfl)).alloc (.cells #[.int .i64 (a), .int .i64 (b), .int .i64 (c + at_ xs k)] 74)).alloc (.cells #[.int .i64 2] 3)).drew.drew)
          go_wp2_with fail
          go_region
          all_goals go_wp2_with fail
          go_region_law (first | (refine step_app_room rfl (.tmp 62) (.tmp 64) rfl p k xs.length (by simp [Act.eval]) (wr.heap.size + 1) 2 (by simp [Act.eval]) (by go_simp) hklt ⟨u, by go_simp⟩ (by go_simp) ?_) | (go_simp; go_at_call 60; rw [IntWalk.i64_in _ (by omega)]; refine (CL.out _ ST2.out).mono ?_; rintro e w2 ⟨⟨v, rfl⟩, st2, hb2⟩))
          all_goals
            have ST3 := hide st2.back
            have NB3 := hide (NB2.out.then hb2)
            clear st2 hb2
            go_wp2_with fail
            go_roundw
            case rel => exact ⟨2 + 1, by omega, by go_num, hide (by rw [← Nat.add_assoc, Nat.succ_mul]; exact ST3.out (by omega)), hide (NB3.out.blk NB.out (by rintro (h | h) <;> omega)), hide (HK.out.then NB3.out)⟩
            case measure => simp [intOf]
      · obtain rfl : s = 3 := by omega
        go_wp2_with fail
        go_end0
        exact ⟨⟨_, rfl⟩, ST.out, HK.out⟩

set_option maxRecDepth 4000 in
theorem implBestPhases_any (A : Option Addr) (c : Nat) (xs : List Int) (w : World) (h : Sl w w.heap.size 1 A xs.length (encI xs)) (hm : xs.length ≤ 1048576) :
    Calls Tryd.prog 28 #[.slice A xs.length c] w (MadeInts (BPh xs) w) := by
  cases h1 : tapsB xs
  · go_enter Tryd.func28, Tryd.ntmps28
    go_wp2_with fail
    refine (implTapsValid_any _ _ _ _ h hm).mono ?_
    rintro e w' ⟨rfl, rfl⟩
    rw [h1]
    go_wp2_with fail
    go_ret
    exact ⟨[], _, _, by unfold BPh bestPh; rw [h1]; rfl, rfl, World.ownsRow_nil _ _ _ _, Below.refl _ _⟩
  · have hl6 := taps_len h1
    have HV := hide h1
    have hmk : ∀ wx : World, (Instr.makeSlice 23 (.int .i64 0) (.int .i64 (xs.length : Int))).run Tryd.prog wx = .ok (.slice (some ⟨wx.heap.size, 0, none⟩) 0 xs.length) (wx.alloc (.cells (zrow (xs.length * 1)) 3)) := fun wx => run_make_z (P := Tryd.prog) 23 3 _ 1 8 Tryd.underlying23 infoI rfl (by omega) 0 xs.length (Nat.zero_le _) (by omega) (by omega) wx
    go_enter Tryd.func28, Tryd.ntmps28
    go_wp2_with fail
    refine (implTapsValid_any _ _ _ _ h hm).mono ?_
    rintro e w' ⟨rfl, rfl⟩
    rw [h1]
    clear h1
    go_wp2_with fail
    have hb2 : Below w.heap.size w ((w.alloc (.cells #[.slice A xs.length c, .slice none 0 0, .int .i64 (-1)] 82)).alloc (.cells (zrow xs.length) 3)) := ((Below.refl _ w).alloc (Nat.le_refl _) _).alloc (by simp) _
    have hst : PutSt xs A c w.heap.size (w.heap.size + 1) 0 0 (0 * 3 ^ xs.length) ((w.alloc (.cells #[.slice A xs.length c, .slice none 0 0, .int .i64 (-1)] 82)).alloc (.cells (zrow xs.length) 3)) := by
      refine ⟨[], -1, none, 0, by rw [Nat.zero_mul]; rfl, (Blk.new w 82 _).alloc _, World.ownsRow_nil _ _ _ _, ?_, h.below hb2, by omega⟩
      have := own_made (w := w.alloc (.cells #[.slice A xs.length c, .slice none 0 0, .int .i64 (-1)] 82)) (e := 3) (size := 1) (n := xs.length) (cs := (zrow xs.length).toList) (by simp [zrow]) (by unfold maxLen; omega)
      simp only [Nat.mul_one, World.size_alloc] at this
      obtain ⟨_, h2⟩ := this
      rcases h2 with ⟨h2, _⟩ | ⟨g, cap, cur, hv, hg, hh, h5, h6, h7, h8⟩
      · cases h2
      · cases hv
        exact ⟨rfl, .inr ⟨_, _, cur, rfl, Nat.le_refl _, hh, Nat.zero_le _, h6, h7, by simp [digs, encI]⟩⟩
    refine (put_any xs HV.out A c w.heap.size (w.heap.size + 1) xs.length 0 0 0 0 0 _ (by omega) (by simp) (hide ⟨rfl, rfl, rfl⟩) hst).mono ?_
    rintro e w3 ⟨⟨v, rfl⟩, hst3, hb3⟩
    obtain ⟨r, l, D, d, h1, h2, h3, h4, h5, h6⟩ := hst3
    have e1 : w3.cell? ⟨w.heap.size, 1, none⟩ = some (.slice D r.length d) := h2.cell 1
    have HR := hide h1
    have HO := hide h3
    have HB := hide hb3
    clear h1 h2 h3 h4 h5 hb3 hst
    go_wp2_with fail
    go_ret
    refine ⟨r, D, d, ?_, rfl, own_mono HO.out (by omega), ?_⟩
    · unfold BPh bestPh
      rw [if_pos HV.out]
      have := HR.out
      rw [Nat.zero_mul, Nat.zero_add] at this
      rw [← this]
    · exact hb2.trans (HB.out.to (by simp; omega) (fun k hk hS => by rcases hS with rfl | rfl <;> omega))

theorem BPh_unique {xs a b : List Int} (ha : BPh xs a) (hb : BPh xs b) : a = b := by rw [ha, hb]
theorem BPh_len {xs a : List Int} (ha : BPh xs a) : a.length ≤ 8 := by
  rw [ha]
  cases h : tapsB xs
  · simp [bestPh, h]
  · rw [bestPh_len h]
    have := taps_len h
    omega

end Go.Proofs.YteffcemgmabdnaaDoor
