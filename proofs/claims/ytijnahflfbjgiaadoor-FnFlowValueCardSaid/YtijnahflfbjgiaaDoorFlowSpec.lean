/-
  Chapter 34: how much flows, by given flows; what the reference's function computes.
-/
import Derived.Test.YtijnahflfbjgiaaDoorFlowVal
import Derived.StillTailTactics
namespace Go.Proofs.YtijnahflfbjgiaaDoor
open Go.RowKit
set_option linter.unusedVariables false

set_option maxRecDepth 8000 in
set_option maxHeartbeats 2000000 in
theorem specFlowValue_any (b : Int) (A D E : Option Addr) (c d f : Nat) (ls : List (Int × Int × Int)) (os : List Bool) (from_ to : Int) (fl : List Int) (w : World) (h : Sl w w.heap.size 3 A ls.length (enc3 ls)) (g : Sl w w.heap.size 1 D os.length (encB os)) (s : Sl w w.heap.size 1 E fl.length (encI fl)) (hm : ls.length ≤ 1048576) (hn : os.length ≤ 1048576) (hp : fl.length ≤ 1048576) :
    Calls Tryd.prog 39 #[.agg #[.int .i64 b, .slice A ls.length c], .slice D os.length d, .int .i64 from_, .int .i64 to, .slice E fl.length f] w fun e w' => e = .returned (.int .i64 (valB b ls os from_ to fl)) ∧ Below w.heap.size w w' := by
  have bw := (Below.refl _ w).alloc (Nat.le_refl _) (.cells #[.int .i64 b, .slice A ls.length c] 50)
  have B0 := Blk.new w 50 #[.int .i64 b, .slice A ls.length c]
  cases h1 : endsB b ls os.length from_ to
  · have HQ := hide (valB_ends (fl := fl) h1)
    go_enter Tryd.func39, Tryd.ntmps39
    go_wp2_with fail
    refine (l34Ok_any _ _ _ _ _ _ _ _ _ _ (h.to bw) hm).mono ?_
    rintro e w1 ⟨rfl, hb1⟩
    rw [h1]
    go_wp2_with fail
    go_ret
    exact ⟨ret_int HQ.out.symm, bw.then hb1⟩
  · by_cases h2 : fl.length = ls.length
    · have hE := ends_true h1
      have h1' := hide h1
      obtain ⟨nb, hnb⟩ : ∃ nb : Nat, b = nb := ⟨b.toNat, by have := (net_len hE.net).1; omega⟩
      subst hnb
      obtain ⟨nf, hnf⟩ : ∃ nf : Nat, from_ = nf := ⟨from_.toNat, by have := hE.f0; omega⟩
      subst hnf
      have h2b : ((fl.length : Int) != os.length) = false := by have := hE.len; simp; omega
      have HE := hide hE
      have H2 := hide h2
      have hl1 : ls.length ≤ fl.length := by omega
      have hl2 : ls.length ≤ os.length := by have := hE.len; omega
      have nf1 := hE.f1
      have nf2 : nf < nb := by omega
      obtain ⟨⟨nb1, nb2⟩, nl⟩ := net_len hE.net
      have hmk := run_make_z (P := Tryd.prog) 36 3 _ 1 8 Tryd.underlying36 infoI rfl (by omega) nb nb (Nat.le_refl _) (by omega) (by omega)
      clear h2 hE
      go_enter Tryd.func39, Tryd.ntmps39
      go_wp2_with fail
      refine (l34Ok_any _ _ _ _ _ _ _ _ _ _ (h.to bw) hm).mono ?_
      rintro e w1 ⟨rfl, hb1⟩
      rw [h1]
      have B1 := B0.to hb1
      obtain ⟨g0, g1⟩ := B1.two
      have K1 := bw.then hb1
      have HO := hide (own_made (w := w1) (e := 3) (size := 1) (n := nb) (cs := encI (outL ls fl nb 0)) (by simp [encI, outL]) (by unfold maxLen; omega))
      have HK := hide (K1.alloc K1.size (.cells (zrow (nb * 1)) 3))
      have HB := hide (B1.alloc (.cells (zrow (nb * 1)) 3))
      have HKw := hide K1
      have HBn := hide B1
      have hl3 : os.length ≤ ls.length := by have := HE.out.len; omega
      have hz1 := K1.size
      have hz2 := B1.lt
      clear hb1 h1 bw B0 B1 K1
      simp only [Nat.mul_one] at HO HK HB
      go_wp2_with fail
      go_loopw [12] (fun i wr => ∃ k : Nat, k ≤ ls.length ∧ i = .int .i64 k ∧ Hid (∀ j, j < k → flS ls os fl j = true) ∧ Hid (wr.ownsRow w1.heap.size 3 1 (.slice (some ⟨w1.heap.size, 0, none⟩) nb nb) nb (encI (outL ls fl nb k))) ∧ Hid (Below w1.heap.size w1 wr)) (fun i _ => os.length - (intOf i).toNat)
      case atStart => exact ⟨0, Nat.zero_le _, rfl, hide (fun j hj => absurd hj (by omega)), hide (by have := HO.out; rwa [part_zero, encI_len, outL_len, ← outL_zero ls fl nb] at this), hide ((Below.refl _ w1).alloc (Nat.le_refl _) _)⟩
      case round =>
        obtain ⟨k, hk, rfl, HF, HO1, HK1⟩ := hrel
        clear g0 g1 hmk
        by_cases hlt : k < ls.length
        · obtain ⟨b0, off, rfl, hb, hc0, hc1, hc2⟩ := h.three k hlt
          have KK := hide (HKw.out.trans (HK1.out.mono hz1))
          have d0 := (KK.out.cell (p := ⟨b0, off + k * 3, none⟩) hb).trans hc0
          have d1 := (KK.out.cell (p := ⟨b0, off + k * 3 + 1, none⟩) hb).trans hc1
          have d2 := (KK.out.cell (p := ⟨b0, off + k * 3 + 2, none⟩) hb).trans hc2
          obtain ⟨b1, off1, rfl, hbb, he⟩ := g.bool k (by omega)
          have he' := (KK.out.cell (p := ⟨b1, off1 + k, none⟩) hbb).trans he
          obtain ⟨b2, off2, rfl, hbc, hs⟩ := s.int k (by omega)
          have hs' := (KK.out.cell (p := ⟨b2, off2 + k, none⟩) hbc).trans hs
          have hz3 := KK.out.size
          obtain ⟨g0, g1⟩ := (HBn.out.below HK1.out hz2).two
          have i5 : (k : Int) < ls.length := by omega
          have hs0 : b0 < wr.heap.size := by omega
          have hs1 : b1 < wr.heap.size := by omega
          have hs2 : b2 < wr.heap.size := by omega
          have hs3 : w1.heap.size < wr.heap.size := (HO1.out.lt _ rfl).2
          have n2 : b2 ≠ w1.heap.size := by omega
          obtain ⟨⟨m1, m2⟩, ⟨m3, m4⟩, m5, m6, m7⟩ := net_at HE.out.net k hlt
          obtain ⟨na, ea⟩ := Int.eq_ofNat_of_zero_le m1
          obtain ⟨nc, ec⟩ := Int.eq_ofNat_of_zero_le m3
          rw [ea] at d0
          rw [ec] at d1
          have EA := hide ea
          have EC := hide ec
          have hac : na ≠ nc := by omega
          have hca : nc ≠ na := by omega
          have l1 : na < nb := by omega
          have l2 : nc < nb := by omega
          have l3 : (na : Int) < nb := by omega
          have l4 : (nc : Int) < nb := by omega
          have o1 := HO1.out.cellAt na (by omega)
          have o2 := HO1.out.cellAt nc (by omega)
          rw [encI_at _ na (by rw [outL_len]; omega), outL_at _ _ _ _ _ l1] at o1
          rw [encI_at _ nc (by rw [outL_len]; omega), outL_at _ _ _ _ _ l2] at o2
          have z1 := HO1.out.frozenAt na
          have z2 := HO1.out.frozenAt nc
          have i0 : (0 : Int) ≤ k := by omega
          have i1 : (k : Int) < os.length := by omega
          have i2 : (k : Int) < fl.length := by omega
          have r1 := outF_inB HE.out.net (os := os) na k hk HF.out
          have r2 := outF_inB HE.out.net (os := os) nc k hk HF.out
          obtain ⟨r1, r3⟩ := r1
          obtain ⟨r2, r4⟩ := r2
          have HS : Hid (flS ls os fl k = true → ∀ j, j < k + 1 → flS ls os fl j = true) := fun hh j hj => by
            by_cases hjk : j = k
            · subst hjk; exact hh
            · exact HF.out j (by omega)
          clear hc0 hc1 hc2 he hs ea ec m1 m2 m3 m4 m5
          rcases flS_cases ls os fl k with ⟨q1, q⟩ | ⟨q1, q2, q⟩ | ⟨q1, q2, q3, q⟩ | ⟨q1, q2, q3, q4, q⟩ | ⟨q1, q2, q3, q4, q⟩
          · have Q := hide (valB_fl (b := nb) (from_ := nf) (to := to) k hlt q)
            clear q
            have u1 : inB (at_ fl k) (-(at3 ls k).2.2) (at3 ls k).2.2 = false := inB_no (.inl q1)
            go_wp2_with fail
            go_quiet (first | (go_at_call 57; exact quiet_left (l1In_any _ _ _ _)))
            go_wp2_with fail
            go_ret
            exact ⟨ret_int Q.out.symm, below_drewN KK.out _⟩
          · have Q := hide (valB_fl (b := nb) (from_ := nf) (to := to) k hlt q)
            clear q
            have u1 : inB (at_ fl k) (-(at3 ls k).2.2) (at3 ls k).2.2 = false := inB_no (.inr q2)
            go_wp2_with fail
            go_quiet (first | (go_at_call 57; exact quiet_left (l1In_any _ _ _ _)))
            go_wp2_with fail
            go_ret
            exact ⟨ret_int Q.out.symm, below_drewN KK.out _⟩
          · skip
            have Q := hide q
            clear q
            rw [q3] at he'
            have u1 : inB (at_ fl k) (-(at3 ls k).2.2) (at3 ls k).2.2 = true := inB_mk q1 q2
            have HS2 := hide (outL_step (fl := fl) EA.out EC.out hac l1 l2)
            go_wp2_with fail
            go_quiet (first | (go_at_call 57; exact quiet_left (l1In_any _ _ _ _)))
            go_wp2_with fail
            refine wp_region_still_tail 22 (by kernel_rfl) (by kernel_rfl) ?_
            simp only [List.take_succ_cons, List.take_zero, List.drop_succ_cons, List.drop_zero]
            change wpStill _ _ (World.drew _) (fun a' => wpList _ _ _ _ a' (World.drew _)) _ _
            repeat still_step
            refine wpStill_nil ?_
            go_wp2_with fail
            refine wp_region_still_tail 22 (by kernel_rfl) (by kernel_rfl) ?_
            simp only [List.take_succ_cons, List.take_zero, List.drop_succ_cons, List.drop_zero]
            change wpStill _ _ (World.drew _) (fun a' => wpList _ _ _ _ a' (World.drew _)) _ _
            repeat still_step
            refine wpStill_nil ?_
            go_wp2_with fail
            go_roundw
            case rel =>
              refine ⟨k + 1, by omega, by go_num, hide (HS.out Q.out), hide ?_, hide ?_⟩
              · rw [← HS2.out]
                have hO2 : (wr.drewN (nq + 1)).ownsRow w1.heap.size 3 1 (.slice (some ⟨w1.heap.size, 0, none⟩) nb nb) nb (encI (outL ls fl nb k)) := HO1.out
                exact ((hO2.stored na _).1.stored nc _).1
              · exact (((below_drewN HK1.out _).setCell (Nat.le_refl _) _).setCell (Nat.le_refl _) _).drew
            case measure => simp [intOf]; omega
          · skip
            have Q := hide q
            clear q
            rw [q3] at he'
            have u1 : inB (at_ fl k) (-(at3 ls k).2.2) (at3 ls k).2.2 = true := inB_mk q1 q2
            have HS2 := hide (outL_step (fl := fl) EA.out EC.out hac l1 l2)
            go_wp2_with fail
            go_quiet (first | (go_at_call 57; exact quiet_left (l1In_any _ _ _ _)))
            go_wp2_with fail
            refine wp_region_still_tail 22 (by kernel_rfl) (by kernel_rfl) ?_
            simp only [List.take_succ_cons, List.take_zero, List.drop_succ_cons, List.drop_zero]
            change wpStill _ _ (World.drew _) (fun a' => wpList _ _ _ _ a' (World.drew _)) _ _
            repeat still_step
            refine wpStill_nil ?_
            go_wp2_with fail
            refine wp_region_still_tail 22 (by kernel_rfl) (by kernel_rfl) ?_
            simp only [List.take_succ_cons, List.take_zero, List.drop_succ_cons, List.drop_zero]
            change wpStill _ _ (World.drew _) (fun a' => wpList _ _ _ _ a' (World.drew _)) _ _
            repeat still_step
            refine wpStill_nil ?_
            go_wp2_with fail
            go_roundw
            case rel =>
              refine ⟨k + 1, by omega, by go_num, hide (HS.out Q.out), hide ?_, hide ?_⟩
              · rw [← HS2.out]
                have hO2 : (wr.drewN (nq + 1)).ownsRow w1.heap.size 3 1 (.slice (some ⟨w1.heap.size, 0, none⟩) nb nb) nb (encI (outL ls fl nb k)) := HO1.out
                exact ((hO2.stored na _).1.stored nc _).1
              · exact (((below_drewN HK1.out _).setCell (Nat.le_refl _) _).setCell (Nat.le_refl _) _).drew
            case measure => simp [intOf]; omega
          · have Q := hide (valB_fl (b := nb) (from_ := nf) (to := to) k hlt q)
            clear q
            rw [q3] at he'
            have u1 : inB (at_ fl k) (-(at3 ls k).2.2) (at3 ls k).2.2 = true := inB_mk q1 q2
            go_wp2_with fail
            go_quiet (first | (go_at_call 57; exact quiet_left (l1In_any _ _ _ _)))
            go_wp2_with fail
            go_ret
            exact ⟨ret_int Q.out.symm, below_drewN KK.out _⟩
        · obtain rfl : k = ls.length := by omega
          have KK := hide (HKw.out.trans (HK1.out.mono hz1))
          obtain ⟨g0, g1⟩ := (HBn.out.below HK1.out hz2).two
          go_wp2_with fail
          go_loop [13] (fun i => ∃ u : Nat, u ≤ nb ∧ i = .int .i64 u ∧ Hid (∀ v : Nat, v < u → (v : Int) ≠ nf → (v : Int) ≠ to → outF ls fl v ls.length = 0)) (fun i => nb - (intOf i).toNat)
          case atStart => exact ⟨0, Nat.zero_le _, rfl, hide (fun v hv => absurd hv (by omega))⟩
          case round =>
            obtain ⟨u, hu, rfl, HM⟩ := hrel
            by_cases hult : u < nb
            · have o1 := HO1.out.cellAt u (by omega)
              rw [encI_at _ u (by rw [outL_len]; omega), outL_at _ _ _ _ _ hult] at o1
              have HS : Hid (((u : Int) ≠ nf → (u : Int) ≠ to → outF ls fl u ls.length = 0) → ∀ v : Nat, v < u + 1 → (v : Int) ≠ nf → (v : Int) ≠ to → outF ls fl v ls.length = 0) := fun hh v hv => by
                by_cases hvu : v = u
                · subst hvu; exact hh
                · exact HM.out v (by omega)
              have i0 : (0 : Int) ≤ u := by omega
              have i1 : (u : Int) < nb := by omega
              by_cases c2 : u = nf
              · have C2 := hide c2
                have e2 : ((u : Int) != nf) = false := by simp [c2]
                clear c2
                go_wp2_with fail
                go_round
                case rel => exact ⟨u + 1, by omega, by go_num, hide (HS.out fun h _ => absurd (by rw [C2.out]) h)⟩
                case measure => simp [intOf]; omega
              · have C2 := hide c2
                have e2 : ((u : Int) != nf) = true := by simp; omega
                clear c2
                by_cases c3 : (u : Int) = to
                · have C3 := hide c3
                  have e3 : ((u : Int) != to) = false := by simp [c3]
                  clear c3
                  go_wp2_with fail
                  go_round
                  case rel => exact ⟨u + 1, by omega, by go_num, hide (HS.out fun _ h => absurd C3.out h)⟩
                  case measure => simp [intOf]; omega
                · have e3 : ((u : Int) != to) = true := by simp [c3]
                  have C3 := hide c3
                  clear c3
                  by_cases c1 : outF ls fl u ls.length = 0
                  · have C1 := hide c1
                    have e1 : (outF ls fl u ls.length != 0) = false := by simp [c1]
                    clear c1
                    go_wp2_with fail
                    go_round
                    case rel => exact ⟨u + 1, by omega, by go_num, hide (HS.out fun _ _ => C1.out)⟩
                    case measure => simp [intOf]; omega
                  · have e1 : (outF ls fl u ls.length != 0) = true := by simp [c1]
                    have Q := hide (valB_mid (os := os) (from_ := nf) (to := to) u i1 (by have := C2.out; omega) C3.out c1)
                    clear c1
                    go_wp2_with fail
                    go_ret
                    exact ⟨ret_int Q.out.symm, KK.out⟩
            · have o1 := HO1.out.cellAt nf (by omega)
              rw [encI_at _ nf (by rw [outL_len]; omega), outL_at _ _ _ _ _ nf2] at o1
              have i0 : (0 : Int) ≤ nf := by omega
              have Q := hide (valB_yes (os := os) h1'.out H2.out HF.out (fun v hv => HM.out v (by omega)))
              go_wp2_with fail
              all_goals
                go_ret
                exact ⟨ret_int (by rw [Q.out]; omega), KK.out⟩
    · have HQ := hide (valB_len (b := b) (os := os) (from_ := from_) (to := to) h2)
      have h2b : ((fl.length : Int) != os.length) = true := by have := (ends_true h1).len; simp; omega
      go_enter Tryd.func39, Tryd.ntmps39
      go_wp2_with fail
      refine (l34Ok_any _ _ _ _ _ _ _ _ _ _ (h.to bw) hm).mono ?_
      rintro e w1 ⟨rfl, hb1⟩
      rw [h1]
      obtain ⟨g0, g1⟩ := (B0.to hb1).two
      have K1 := bw.then hb1
      go_wp2_with fail
      go_ret
      exact ⟨ret_int HQ.out.symm, K1⟩

end Go.Proofs.YtijnahflfbjgiaaDoor
