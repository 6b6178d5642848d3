/-
  Chapter 34: how far buses are away; what the program's search computes.
-/
import Derived.Test.YtijnahflfbjgiaaDoorBfs
import Derived.Test.YtijnahflfbjgiaaDoorRoomW
import Derived.Test.YtijnahflfbjgiaaDoorQueue
import Derived.Deep.LoopGhost
namespace Go.Proofs.YtijnahflfbjgiaaDoor
open Go.RowKit
set_option linter.unusedVariables false

theorem encI_inj {xs ys : List Int} (h : encI xs = encI ys) : xs = ys := by
  have hl : xs.length = ys.length := by have := congrArg List.length h; simpa [encI] using this
  refine same_of_at hl fun j hj => ?_
  have h1 := encI_at xs j hj
  have h2 := encI_at ys j (by omega)
  rw [h, h2] at h1
  simpa using h1.symm
theorem encI_set (xs : List Int) (k : Nat) (v : Int) : encI (xs.set k v) = (encI xs).set k (.int .i64 v) := by simp [encI, List.map_set]
theorem step_cases2 (ls : List (Int × Int × Int)) (may : Nat → Int → Bool) (far : List Int) (k : Nat) (v : Int) : (otherF (at3 ls k) v < 0) ∨ (∃ u : Nat, otherF (at3 ls k) v = u ∧ 0 ≤ at_ far u) ∨ (∃ u : Nat, otherF (at3 ls k) v = u ∧ at_ far u < 0 ∧ may k v = false) ∨ (∃ u : Nat, otherF (at3 ls k) v = u ∧ at_ far u < 0 ∧ may k v = true) := by
  by_cases h : otherF (at3 ls k) v < 0
  · exact .inl h
  · obtain ⟨u, hu⟩ := Int.eq_ofNat_of_zero_le (show 0 ≤ otherF (at3 ls k) v by omega)
    by_cases h2 : 0 ≤ at_ far u
    · exact .inr (.inl ⟨u, hu, h2⟩)
    · cases h3 : may k v
      · exact .inr (.inr (.inl ⟨u, hu, by omega, rfl⟩))
      · exact .inr (.inr (.inr ⟨u, hu, by omega, rfl⟩))

/-- How far all buses are away, in a list. -/
def FarL (E : Int → Int → Prop) (t : Int) (n : Nat) (r : List Int) : Prop := r.length = n ∧ Far E t n (fun u => at_ r u.toNat)

set_option maxRecDepth 8000 in
set_option maxHeartbeats 4000000 in
theorem distAug_any (nb : Nat) (A D F : Option Addr) (c d f q : Nat) (ls : List (Int × Int × Int)) (m p : Nat) (src : Nat) (may : Nat → Int → Bool) (w : World) (h : Sl w w.heap.size 3 A ls.length (enc3 ls))
    (hv : netB nb ls = true) (hs : src < nb)
    (hmay : ∀ (k : Nat) (bus : Int) (wx : World), k < ls.length → Below w.heap.size w wx → Calls Tryd.prog 106 #[.int .i64 k, .int .i64 bus, .pointer (some ⟨q, 0, none⟩)] wx fun e w' => e = .returned (.bool (may k bus)) ∧ Below wx.heap.size wx w') :
    Calls Tryd.prog 87 #[.agg #[.int .i64 nb, .slice A ls.length c, .slice D m d, .slice F p f], .func (.func 106) #[] #[.pointer (some ⟨q, 0, none⟩)], .int .i64 src] w (MadeInts (FarL (fun u v => Mv ls may v u) src nb) w) := by
  have bw := (Below.refl _ w).alloc (Nat.le_refl _) (.cells #[.int .i64 nb, .slice A ls.length c, .slice D m d, .slice F p f] 96)
  have B0 := Blk.new w 96 #[.int .i64 nb, .slice A ls.length c, .slice D m d, .slice F p f]
  obtain ⟨⟨n1, n2⟩, n3⟩ := net_len hv
  have hmk := run_make_z (P := Tryd.prog) 36 3 _ 1 8 Tryd.underlying36 infoI rfl (by omega) nb nb (Nat.le_refl _) (by omega) (by omega)
  have HM := hide hmay
  have HV := hide hv
  have HH := hide h
  obtain ⟨w1, hw1⟩ : ∃ w1, w1 = w.alloc (.cells #[.int .i64 nb, .slice A ls.length c, .slice D m d, .slice F p f] 96) := ⟨_, rfl⟩
  have HW1 := hide hw1
  have hz : w1.heap.size = w.heap.size + 1 := by rw [hw1]; simp
  have HO := hide (own_made (w := w1) (e := 3) (size := 1) (n := nb) (cs := encI (mones nb)) (by simp [encI, mones]) (by unfold maxLen; omega))
  rw [← hw1] at bw B0
  have HB := hide (B0.alloc (.cells (zrow (nb * 1)) 3))
  have HK := hide (bw.alloc (by omega) (.cells (zrow (nb * 1)) 3))
  clear hmay hv h bw B0 hw1
  simp only [Nat.mul_one] at HO HB HK
  go_enter Tryd.func87, Tryd.ntmps87
  go_wp2_with fail
  go_loopw [20] (fun x wr => ∃ i : Nat, i ≤ nb ∧ x = .int .i64 i ∧ Hid (wr.ownsRow (w.heap.size + 1) 3 1 (.slice (some ⟨w.heap.size + 1, 0, none⟩) nb nb) nb (part (encI (mones nb)) i)) ∧ Hid (Blk wr w.heap.size 96 #[.int .i64 nb, .slice A ls.length c, .slice D m d, .slice F p f]) ∧ Hid (Below w.heap.size w wr)) (fun x _ => nb - (intOf x).toNat)
  case atStart =>
    refine ⟨0, Nat.zero_le _, rfl, hide ?_, hide ?_, hide ?_⟩
    · have := HO.out
      rw [hz, HW1.out] at this
      exact this
    · have := HB.out
      rw [HW1.out] at this
      exact this
    · have := HK.out
      rw [HW1.out] at this
      exact this
  case round =>
    obtain ⟨i, hi, rfl, HO1, HB1, HK1⟩ := hrel
    clear HO HB HK hmk HW1 hz
    by_cases hlt : i < nb
    · have hf := HO1.out.frozenAt i
      obtain ⟨u, hs⟩ := own_cell HO1.out i (by omega)
      have i0 : (0 : Int) ≤ i := by omega
      have i1 : (i : Int) < nb := by omega
      go_wp2_with fail
      go_roundw
      case rel =>
        refine ⟨i + 1, by omega, by go_num, hide ?_, hide (HB1.out.far (by simp) _), hide (HK1.out.setCell (by simp) _)⟩
        have := (HO1.out.stored i (.int .i64 (-1))).1
        rw [part_set _ _ _ (by rw [encI_at _ _ (by simp [mones]; omega), mones_at _ _ hlt])] at this
        exact this
      case measure => simp [intOf]; omega
    · obtain rfl : i = nb := by omega
      have HO2 := HO1.out
      rw [part_all _ _ (by simp [encI, mones])] at HO2
      have hf := HO2.frozenAt src
      obtain ⟨u, hs2⟩ := own_cell HO2 src (by omega)
      have i0 : (0 : Int) ≤ src := by omega
      have i1 : (src : Int) < i := by omega
      have hz2 : w.heap.size + 1 < wr.heap.size := (HO2.lt _ rfl).2
      have hzs : (wr.setCell ⟨w.heap.size + 1, src, none⟩ (.int .i64 0)).heap.size = wr.heap.size := by simp
      have O3 := hide ((HO2.stored src (.int .i64 0)).1)
      rw [← encI_set] at O3
      have Q3 := hide (QOwn.of_own (World.ownsRow_lit (base := w.heap.size + 2) (e := 3) (size := 1) (wr.setCell ⟨w.heap.size + 1, src, none⟩ (.int .i64 0)) #[.int .i64 src] 1 (by simp; omega) (by unfold maxLen; omega) rfl) : QOwn _ _ _ _ _ _ [(src : Int)])
      rw [hzs] at Q3
      have O4 := hide (O3.out.alloc (.cells #[.int .i64 src] 3))
      have B4 := hide ((HB1.out.far (p := ⟨w.heap.size + 1, src, none⟩) (by simp) (.int .i64 0)).alloc (.cells #[.int .i64 src] 3))
      have K4 := hide ((HK1.out.setCell (p := ⟨w.heap.size + 1, src, none⟩) (by simp) (.int .i64 0)).alloc (by have := HK1.out.size; simpa using this) (.cells #[.int .i64 src] 3))
      clear HO2 HO1 HB1 HK1 O3
      go_wp2_with fail
      go_loopg [9] i (fun gk qv wr => ∃ (far done queue : List Int) (b' off n cq : Nat), gk + done.length = i ∧ qv = .slice (some ⟨b', off, none⟩) n cq ∧ Hid (Bfs ls may i src far done queue) ∧ Hid (QOwn wr (w.heap.size + 2) b' off n cq queue) ∧ Hid (wr.ownsRow (w.heap.size + 1) 3 1 (.slice (some ⟨w.heap.size + 1, 0, none⟩) i i) i (encI far)) ∧ Hid (Blk wr w.heap.size 96 #[.int .i64 i, .slice A ls.length c, .slice D m d, .slice F p f]) ∧ Hid (Below w.heap.size w wr))
      case atStart => exact ⟨_, [], [(src : Int)], _, _, _, _, rfl, rfl, hide (by simpa using Bfs.start (src := (src : Int)) (ls := ls) (may := may) (by omega) i1), Q3, O4, B4, K4⟩
      case round =>
        obtain ⟨far, done, queue, b', off, n, cq, hgk, rfl, HF, HQ, HO, HB, HK⟩ := hrel
        clear Q3 O4 B4 K4 hf hs2
        cases queue with
        | nil =>
          obtain rfl : n = 0 := by have := HQ.out.len; simpa using this.symm
          go_wp2_with fail
          go_ret
          exact ⟨far, some ⟨w.heap.size + 1, 0, none⟩, i, ⟨HF.out.len, HF.out.ends (fun v u hm => by
            obtain ⟨k, hk, h0, ho, _⟩ := hm
            obtain ⟨m1, m2, m3, m4⟩ := net_at HV.out k hk
            rcases otherF_cases (x := at3 ls k) (u := v) (by omega) with ⟨e1, e2⟩ | ⟨e1, _, e2⟩ <;> omega)⟩, by rw [HF.out.len]; rfl, by rw [HF.out.len]; exact own_mono HO.out (by omega), HK.out⟩
        | cons v rest =>
          have hvr := HF.out.rng v (by simp)
          obtain ⟨nv, rfl⟩ := Int.eq_ofNat_of_zero_le hvr.1
          obtain ⟨r, rfl⟩ : ∃ r, n = r + 1 := ⟨rest.length, by have := HQ.out.len; simpa using this.symm⟩
          obtain ⟨c0, rfl⟩ : ∃ c0, cq = c0 + 1 := ⟨cq - 1, by have := HQ.out.cap; omega⟩
          have hc0 : wr.cell? ⟨b', off, none⟩ = some (.int .i64 nv) := by have := HQ.out.cell 0 (by omega); simpa [at_] using this
          have hcm := HQ.out.max
          unfold maxLen at hcm
          have hq0 := HB.out.cell 1
          have hq1 : wr.cell? ⟨w.heap.size, 1, none⟩ = some (.slice A ls.length c) := hq0
          have hnv : nv < i := by omega
          have hdl : done.length < i := by have := HF.out.cnt; simp at this; omega
          clear hq0 hvr
          go_wp2_with fail
          go_loopw [9, 44] (fun qv x wr => ∃ (k : Nat) (far rest : List Int) (b' off r c0 : Nat), k ≤ ls.length ∧ qv = .slice (some ⟨b', off, none⟩) (r + 1) (c0 + 1) ∧ x = .int .i64 k ∧ Hid (Bfs ls may i src far done (nv :: rest)) ∧ Hid (Seen ls may far done nv rest k) ∧ Hid (QOwn wr (w.heap.size + 2) b' off (r + 1) (c0 + 1) (nv :: rest)) ∧ Hid (wr.ownsRow (w.heap.size + 1) 3 1 (.slice (some ⟨w.heap.size + 1, 0, none⟩) i i) i (encI far)) ∧ Hid (Blk wr w.heap.size 96 #[.int .i64 i, .slice A ls.length c, .slice D m d, .slice F p f]) ∧ Hid (Below w.heap.size w wr)) (fun _ x _ => ls.length - (intOf x).toNat)
          case atStart => exact ⟨0, far, rest, _, _, _, _, Nat.zero_le _, rfl, rfl, HF, hide (Seen.zero _ _ _ _), HQ, HO, HB, HK⟩
          case round =>
            obtain ⟨k, far, rest, b', off, r, c0, hk, rfl, rfl, HF, HSn, HQ, HO, HB, HK⟩ := hrel
            clear hc0 hq1 hcm
            by_cases hkl : k < ls.length
            · obtain ⟨b0, o0, rfl, hb, hd0, hd1, hd2⟩ := HH.out.three k hkl
              have d0 := (HK.out.cell (p := ⟨b0, o0 + k * 3, none⟩) hb).trans hd0
              have d1 := (HK.out.cell (p := ⟨b0, o0 + k * 3 + 1, none⟩) hb).trans hd1
              have d2 := (HK.out.cell (p := ⟨b0, o0 + k * 3 + 2, none⟩) hb).trans hd2
              have hz3 := HK.out.size
              have hb0 : b0 < wr.heap.size := by omega
              have kk := (Below.refl _ wr).alloc (Nat.le_refl _) (.cells #[.int .i64 (at3 ls k).1, .int .i64 (at3 ls k).2.1, .int .i64 (at3 ls k).2.2] 76)
              have O2 := hide (HO.out.keepB kk)
              have Q2 := hide (HQ.out.to kk)
              have B2 := hide (HB.out.to kk)
              have K2 := hide (HK.out.then kk)
              clear hd0 hd1 hd2 kk HO HQ HB HK
              go_wp2_with fail
              refine (other_any _ _ _).mono ?_
              rintro e w3 ⟨rfl, hb3⟩
              have O3 := hide (O2.out.keepB hb3)
              have Q3 := hide (Q2.out.to hb3)
              have B3 := hide (B2.out.to hb3)
              have K3 := hide (K2.out.then hb3)
              clear hb3 O2 Q2 B2 K2 d0 d1 d2
              have hin : otherF (at3 ls k) nv < i := by
                obtain ⟨m1, m2, m3, m4⟩ := net_at HV.out k hkl
                by_cases h0 : 0 ≤ otherF (at3 ls k) nv
                · rcases otherF_cases h0 with ⟨e1, e2⟩ | ⟨e1, _, e2⟩ <;> omega
                · omega
              have HIN := hide hin
              clear hin
              rcases step_cases2 ls may far k nv with h1 | ⟨u, h1, h2⟩ | ⟨u, h1, h2, h3⟩ | ⟨u, h1, h2, h3⟩
              · have hg1 : decide (0 ≤ otherF (at3 ls k) nv) = false := by simp; omega
                have HS2 := hide (Seen.skip HF.out HSn.out (fun h0 _ => absurd h0 (by omega)))
                clear h1
                go_wp2_with fail
                go_roundw
                case rel => exact ⟨k + 1, far, rest, _, _, _, _, by omega, rfl, by go_num, HF, HS2, Q3, O3, B3, K3⟩
                case measure => simp [intOf]; omega
              · have hu : u < i := by have := HIN.out; omega
                have o1 := O3.out.cellAt u (by omega)
                rw [encI_at far u (by rw [HF.out.len]; exact hu)] at o1
                have hg1 : decide (0 ≤ (u : Int)) = true := by simp
                have hg2 : decide (at_ far u < 0) = false := by simp; omega
                have u0 : (0 : Int) ≤ u := by omega
                have u1 : (u : Int) < i := by omega
                have HS2 := hide (Seen.skip HF.out HSn.out (fun h0 _ => ⟨HIN.out, by rw [h1]; simpa using h2⟩))
                clear h2
                go_wp2_with fail
                go_roundw
                case rel => exact ⟨k + 1, far, rest, _, _, _, _, by omega, rfl, by go_num, HF, HS2, Q3, O3, B3, K3⟩
                case measure => simp [intOf]; omega
              · have hu : u < i := by have := HIN.out; omega
                have o1 := O3.out.cellAt u (by omega)
                rw [encI_at far u (by rw [HF.out.len]; exact hu)] at o1
                have hg1 : decide (0 ≤ (u : Int)) = true := by simp
                have hg2 : decide (at_ far u < 0) = true := by simp; omega
                have u0 : (0 : Int) ≤ u := by omega
                have u1 : (u : Int) < i := by omega
                have HS2 := hide (Seen.skip HF.out HSn.out (fun h0 hm => absurd hm (by rw [h3]; simp)))
                have H3 := hide h3
                clear h3
                go_wp2_with fail
                refine (HM.out k nv w3 hkl K3.out).mono ?_
                rintro e w4 ⟨rfl, hb4⟩
                rw [H3.out]
                have O4 := hide (O3.out.keepB hb4)
                have Q4 := hide (Q3.out.to hb4)
                have B4 := hide (B3.out.to hb4)
                have K4 := hide (K3.out.then hb4)
                clear hb4 o1
                go_wp2_with fail
                go_roundw
                case rel => exact ⟨k + 1, far, rest, _, _, _, _, by omega, rfl, by go_num, HF, HS2, Q4, O4, B4, K4⟩
                case measure => simp [intOf]; omega
              · have hu : u < i := by have := HIN.out; omega
                have o1 := O3.out.cellAt u (by omega)
                rw [encI_at far u (by rw [HF.out.len]; exact hu)] at o1
                have hg1 : decide (0 ≤ (u : Int)) = true := by simp
                have hg2 : decide (at_ far u < 0) = true := by simp; omega
                have u0 : (0 : Int) ≤ u := by omega
                have u1 : (u : Int) < i := by omega
                have HF2 := hide (HF.out.push k hkl u h1 u0 u1 (by simpa using h2) h3)
                have HS2 := hide (HSn.out.push u h1 (far.set u (at_ far nv + 1)))
                have H3 := hide h3
                clear h3
                go_wp2_with fail
                refine (HM.out k nv w3 hkl K3.out).mono ?_
                rintro e w4 ⟨rfl, hb4⟩
                rw [H3.out]
                have O4 := hide (O3.out.keepB hb4)
                have Q4 := hide (Q3.out.to hb4)
                have B4 := hide (B3.out.to hb4)
                have K4 := hide (K3.out.then hb4)
                clear hb4 o1
                have o1 := O4.out.cellAt u (by omega)
                rw [encI_at far u (by rw [HF.out.len]; exact hu)] at o1
                have o2 := O4.out.cellAt nv (by omega)
                rw [encI_at far nv (by rw [HF.out.len]; exact hnv)] at o2
                have z1 := O4.out.frozenAt u
                have sm := HF.out.small nv hnv
                obtain ⟨sm1, sm2⟩ := sm
                have v0 : (0 : Int) ≤ nv := by omega
                have v1 : (nv : Int) < i := by omega
                have hz4 : w.heap.size + 1 < w4.heap.size := (O4.out.lt _ rfl).2
                have O5 := hide ((O4.out.stored u (.int .i64 (at_ far nv + 1))).1)
                rw [← encI_set] at O5
                have Q5 := hide (Q4.out.but ((But.refl (fun x => x = w.heap.size + 1) w4).setCell ⟨w.heap.size + 1, u, none⟩ (.int .i64 (at_ far nv + 1)) (fun _ => rfl)) (by have := Q4.out.blo; omega))
                have B5 := hide (B4.out.far (p := ⟨w.heap.size + 1, u, none⟩) (by simp) (.int .i64 (at_ far nv + 1)))
                have K5 := hide (K4.out.setCell (p := ⟨w.heap.size + 1, u, none⟩) (by simp) (.int .i64 (at_ far nv + 1)))
                have hrl := Q5.out.len
                have hr8 : r + 1 ≤ 1048576 := by
                  have := HF.out.cnt
                  simp at this hrl
                  omega
                have hnq : b' ≠ w.heap.size + 1 := by have := Q4.out.blo; omega
                have HRL := hide hrl
                clear hrl O4 Q4 B4 K4
                have hsz : (w4.setCell ⟨w.heap.size + 1, u, none⟩ (.int .i64 (at_ far nv + 1))).heap.size = w4.heap.size := by simp
                have hbs : w.heap.size + 2 ≤ (w4.setCell ⟨w.heap.size + 1, u, none⟩ (.int .i64 (at_ far nv + 1))).heap.size := by rw [hsz]; omega
                have HBS := hide hbs
                have HSZ := hide hsz
                clear hbs hsz
                go_wp2_with (at_builtin; refine app_queue (w4.setCell ⟨w.heap.size + 1, u, none⟩ (.int .i64 (at_ far nv + 1))) rfl (.tmp 75) (.tmp 77) rfl (w.heap.size + 2) b' off (r + 1) (c0 + 1) (nv :: rest) u rfl Q5.out w4.heap.size HSZ.out rfl HBS.out hr8 ?_; intro b2 o2 c2 w6 hq6 hb6)
                obtain ⟨c3, rfl⟩ : ∃ c3, c2 = c3 + 1 := ⟨c2 - 1, by have := hq6.cap; omega⟩
                have hn6 : ∀ g : Nat, g < w.heap.size + 2 → ¬ g = b' := fun g hg he => by have := Q5.out.blo; omega
                have O6 := hide (hb6.own O5.out (fun g hg => hn6 g (by simp [Value.ownBlock] at hg; omega)))
                have B6 := hide (hb6.blk B5.out (hn6 _ (by omega)))
                have K6 := hide (K5.out.trans (hb6.to (B := w.heap.size) (by have := HBS.out; omega) (fun g hg => hn6 g (by omega))))
                have Q6 := hide hq6
                clear hq6 hb6
                go_roundw
                case rel => exact ⟨k + 1, far.set u (at_ far nv + 1), rest ++ [(u : Int)], b2, o2, r + 1, c3, by omega, rfl, by go_num, by simpa using HF2, HS2, Q6, O6, B6, K6⟩
                case measure => simp [intOf]; omega
            · obtain rfl : k = ls.length := by omega
              have hcm := HQ.out.max
              have hcc := HQ.out.cap
              unfold maxLen at hcm
              cases c0 with
              | zero =>
                obtain rfl : r = 0 := by omega
                go_wp2_with fail
                go_roundg (gk - 1)
                case measure => omega
                case rel => exact ⟨far, done ++ [(nv : Int)], rest, _, _, _, _, by simp; omega, rfl, hide (HF.out.pop HSn.out), hide ⟨by have := HQ.out.len; simpa using this, Nat.le_refl _, Nat.zero_le _, HQ.out.blo, HQ.out.bhi, fun j hj => absurd hj (by omega), fun j hj => absurd hj (by omega), HQ.out.open_⟩, HO, HB, HK⟩
              | succ c0 =>
                go_wp2_with fail
                go_roundg (gk - 1)
                case measure => omega
                case rel => exact ⟨far, done ++ [(nv : Int)], rest, _, _, _, _, by simp; omega, rfl, hide (HF.out.pop HSn.out), hide HQ.out.pop, HO, HB, HK⟩

end Go.Proofs.YtijnahflfbjgiaaDoor
