/-
  The law FnFlowValue over drawn networks: the walk.
-/
import Derived.Test.YtijnahflfbjgiaaDoorFlowLaw
import Derived.Test.YtijnahflfbjgiaaDoorFlowSpec
import Derived.Test.YtijnahflfbjgiaaDoorFnMostFlow
import Derived.Test.YtijnahflfbjgiaaDoorDrawFlow
namespace Go.Proofs.YtijnahflfbjgiaaDoor
open Go.RowKit
set_option linter.unusedVariables false

theorem negL_step (fl : List Int) (k : Nat) (h : k < fl.length) : negL (fl.take (k + 1)) = negL (fl.take k) ++ [-(at_ fl k)] := by
  rw [List.take_succ_eq_append_getElem h, negL, List.map_append, at_eq fl k h]
  rfl
theorem negL_len (fl : List Int) : (negL fl).length = fl.length := by simp [negL]

set_option maxRecDepth 8000 in
set_option maxHeartbeats 2000000 in
theorem fnFlowValue_walk (A0 : Option Addr) (c0 : Nat) (x0 : List Int) (w : World) (l0 : x0.length ≤ c0) (m0 : c0 ≤ maxLen) (s0 : Sl w w.heap.size 1 A0 x0.length (encU x0)) (i0 : ∀ n ∈ x0, 0 ≤ n ∧ n ≤ 255) :
    Calls Tryd.prog 8 #[.slice A0 x0.length c0] w fun e w' => e = .returned (.bool true) ∧ Below w.heap.size w w' := by
  have hm2 := m0
  unfold maxLen at m0
  by_cases hm : x0.length ≤ 1048576
  · have HC := hide (DrawFlowValue_any A0 c0 x0 w s0 l0 hm2 i0)
    clear i0 s0
    go_enter Tryd.func8, Tryd.ntmps8
    go_wp2_with fail
    refine HC.out.mono ?_
    rintro e w1 ⟨b, ls, D, d, os, E, f, fr, to, fl, F, fc, hb, hl, hol, hfl, rfl, h1, h2, h3, hb1⟩
    have bw := (Below.refl _ w1).alloc (Nat.le_refl _) (.cells #[.int .i64 b, .slice D ls.length d] 50)
    have L1 := hide (h1.keepB bw)
    have O1 := hide (h2.keepB bw)
    have Q1 := hide (h3.keepB bw)
    have X1 := hide (Blk.new w1 50 #[.int .i64 b, .slice D ls.length d])
    have K1 := hide (hb1.then bw)
    have hs1 := hb1.size
    clear h1 h2 h3 hb1 bw HC hb
    go_wp2_with fail
    refine (implFlowValue_any _ _ _ _ _ _ _ _ _ _ _ _ _ (Sl.of_own L1.out) (Sl.of_own O1.out) (Sl.of_own Q1.out) (by omega) (by omega) (by omega)).mono ?_
    rintro e w2 ⟨rfl, hb2⟩
    have HW := hide (valB_ways b ls os fr to fl)
    generalize hx : valB b ls os fr to fl = x at HW ⊢
    have HX := hide hx
    clear hx
    have L2 := hide (L1.out.keepB hb2)
    have O2 := hide (O1.out.keepB hb2)
    have Q2 := hide (Q1.out.keepB hb2)
    have X2 := hide (X1.out.to hb2)
    have K2 := hide (K1.out.then hb2)
    clear L1 O1 Q1 X1 K1
    obtain ⟨x0', x1'⟩ := X2.out.two
    clear hb2
    go_wp2_with fail
    refine (specFlowValue_any _ _ _ _ _ _ _ _ _ _ _ _ _ (Sl.of_own L2.out) (Sl.of_own O2.out) (Sl.of_own Q2.out) (by omega) (by omega) (by omega)).mono ?_
    rintro e w3 ⟨rfl, hb3⟩
    rw [HX.out]
    clear x0' x1'
    have L4 := hide (L2.out.keepB hb3)
    have O4 := hide (O2.out.keepB hb3)
    have Q4 := hide (Q2.out.keepB hb3)
    have X4 := hide (X2.out.to hb3)
    have K4 := hide (K2.out.then hb3)
    clear L2 O2 Q2 X2 K2
    clear hb3
    obtain ⟨y0', y1'⟩ := X4.out.two
    rcases HW.out with rfl | ⟨he, hF⟩
    · clear HW
      go_wp2_with fail
      refine (alive_any _).mono ?_
      rintro e w7 ⟨rfl, hb7⟩
      have K7 := hide (K4.out.then hb7)
      clear hb7
      go_wp2_with fail
      go_ret
      exact ⟨rfl, K7.out⟩
    · clear HW
      have hpos := hF.pos
      have hE := ends_true he
      have hbn := (net_len hE.net).1
      obtain ⟨nb, rfl⟩ := Int.eq_ofNat_of_zero_le (show 0 ≤ b by omega)
      obtain ⟨nf, rfl⟩ := Int.eq_ofNat_of_zero_le hE.f0
      obtain ⟨nt, rfl⟩ := Int.eq_ofNat_of_zero_le hE.t0
      have hf8 : nf ≤ 8 := by have := hE.f1; omega
      have ht8 : nt ≤ 8 := by have := hE.t1; omega
      have HCUT : Hid (∀ N, bitB N nf = true → bitB N nt = false → x ≤ cutB (nb : Int) ls os (sideL N nb)) := hide fun N a c => by
        have hf := hE.f1
        have ht := hE.t1
        rw [show cutB (nb : Int) ls os (sideL N nb) = _ from cut_sel he (bitB N)]
        exact hF.cut hE.net (selL_nodup (bitB N) _) ((side_has hE.f0 (by omega)).2 (by simpa using a)) (fun hm => by have h9 := (side_has hE.t0 (by omega)).1 hm; rw [Int.toNat_natCast] at h9; rw [h9] at c; cases c)
      have HNEG : Hid (∀ k, k < fl.length → IntKind.i64.wrap (-(at_ fl k)) = -(at_ fl k)) := hide fun k hk => by
        have h1 := (hF.ok.2 k (by rw [← hF.ok.1]; exact hk)).1
        have h2 := net_at hE.net k (by rw [← hF.ok.1]; exact hk)
        rw [IntWalk.i64_in _ (by omega)]
      have HBACK : Hid (valB (nb : Int) ls os nt nf (negL fl) = x) := hide (Flo.val (by rw [endsB_swap]; exact he) hF.neg)
      clear hE he hF
      obtain ⟨M, hM1, hM2, hM, HMP⟩ := pow_in2 nb (by omega)
      have nb0 : (0 : Int) ≤ nb := by omega
      have nb1 : (nb : Int) ≤ 64 := by omega
      have hnx : ¬ x < 0 := by omega
      go_wp2_with fail
      go_loopw [9] (fun q wr => ∃ N : Nat, N ≤ M ∧ q = .int .i64 N ∧ Hid (Below w3.heap.size w3 wr)) (fun q _ => M - (intOf q).toNat)
      case atStart => exact ⟨0, Nat.zero_le _, rfl, hide (Below.refl _ _)⟩
      case round =>
        obtain ⟨N, hN, rfl, HB⟩ := hrel
        have L6 := hide (L4.out.keepB HB.out)
        have O6 := hide (O4.out.keepB HB.out)
        have Q6 := hide (Q4.out.keepB HB.out)
        have X6 := hide (X4.out.to HB.out)
        obtain ⟨z0', z1'⟩ := X6.out.two
        by_cases hlt : N < M
        · obtain ⟨f1, f2, f3, f4⟩ := bit_facts N nf
          obtain ⟨t1, t2, t3, t4⟩ := bit_facts N nt
          have i0 : (0 : Int) ≤ nf := by omega
          have i1 : (nf : Int) ≤ 64 := by omega
          have i2 : (0 : Int) ≤ nt := by omega
          have i3 : (nt : Int) ≤ 64 := by omega
          have HZL : Hid ((sideL N nb).length ≤ nb) := hide (selL_len (bitB N) nb)
          cases hbf : bitB N nf
          · rw [hbf] at f1 f2 f3 f4
            clear hbf
            go_wp2_with fail
            go_quiet (fail)
            go_wp2_with fail
            go_roundw
            case rel => exact ⟨N + 1, by omega, by go_num, hide (below_drewN HB.out _)⟩
            case measure => simp [intOf]; omega
          · have HBF := hide hbf
            rw [hbf] at f1 f2 f3 f4
            clear hbf
            cases hbt : bitB N nt
            · have HBT := hide hbt
              rw [hbt] at t1 t2 t3 t4
              clear hbt
              have hge := HCUT.out N HBF.out HBT.out
              have hnl : ¬ cutB (nb : Int) ls os (sideL N nb) < x := by omega
              have HBd := hide (HB.out.drew)
              go_wp2_with fail
              go_region_held3 (fun w' => w'.cell? ⟨w1.heap.size, 0, none⟩ = some (.int .i64 nb) ∧ w'.cell? ⟨w1.heap.size, 1, none⟩ = some (.slice D ls.length d))
                (refine ⟨?_, ?_⟩ <;> first | assumption | go_keep)
                (first | (go_at_call 40; refine (sideOf_any N nb ?_ ?_ _).mono ?_; omega; omega; rintro _ w7 ⟨zs, H, hc, rfl, rfl, ho7, hb7⟩; have HB7 := hide (HBd.out.then hb7); have L7 := hide ((own_drew L6.out).keepB hb7); have O7 := hide ((own_drew O6.out).keepB hb7); have X7 := hide (X6.out.drew.to hb7); have Z7 := hide ho7; obtain ⟨v0, v1⟩ := X7.out.two; clear ho7 hb7) | (go_at_call 33; refine (implCutCapacity_any _ _ _ _ _ _ _ _ _ _ _ (Sl.of_own L7.out) (Sl.of_own O7.out) (Sl.of_own Z7.out) ?_ ?_ ?_).mono ?_; omega; omega; (have := HZL.out; omega); rintro _ w8 ⟨rfl, hb8⟩; have HB8 := hide (HB7.out.then hb8); have X8 := hide (X7.out.to hb8); obtain ⟨v2, v3⟩ := X8.out.two; clear hb8))
              go_wp2_with fail
              go_roundw
              case rel => exact ⟨N + 1, by omega, by go_num, HB8⟩
              case measure => simp [intOf]; omega
            · rw [hbt] at t1 t2 t3 t4
              clear hbt
              go_wp2_with fail
              go_quiet (fail)
              go_wp2_with fail
              go_roundw
              case rel => exact ⟨N + 1, by omega, by go_num, hide (below_drewN HB.out _)⟩
              case measure => simp [intOf]; omega
        · rename World => wo
          have N0 := hide (World.ownsRow_lit (base := wo.heap.size) (e := 3) (size := 1) wo #[] 0 (Nat.le_refl _) (Nat.zero_le _) rfl)
          have B0 := hide ((Below.refl wo.heap.size wo).alloc (Nat.le_refl _) (.cells #[] 3))
          go_wp2_with fail
          go_loopw [10, 11] (fun out i wr => ∃ (k : Nat) (G : Option Addr) (g : Nat), k ≤ fl.length ∧ i = .int .i64 k ∧ out = .slice G k g ∧ Hid (wr.ownsRow wo.heap.size 3 1 (.slice G k g) k (encI (negL (fl.take k)))) ∧ Hid (Below wo.heap.size wo wr)) (fun _ i _ => fl.length - (intOf i).toNat)
          case atStart => exact ⟨0, _, _, Nat.zero_le _, rfl, rfl, N0, B0⟩
          case round =>
            obtain ⟨k, G, g, hk, rfl, rfl, HO, HC⟩ := hrel
            have L7 := hide (L6.out.keepB HC.out)
            have O7 := hide (O6.out.keepB HC.out)
            have Q7 := hide (Q6.out.keepB HC.out)
            have X7 := hide (X6.out.to HC.out)
            have hs := HC.out.size
            clear z0' z1'
            obtain ⟨z0', z1'⟩ := X7.out.two
            by_cases hlk : k < fl.length
            · obtain ⟨gF, cF, hvF, hgF, hgF2⟩ := Q7.out.form (by omega)
              cases hvF
              have cf := Q7.out.cellAt k (by omega)
              rw [encI_at fl k hlk] at cf
              have hng := HNEG.out k hlk
              have k0 : (0 : Int) ≤ k := by omega
              have k1 : (k : Int) < fl.length := by omega
              have HST := hide (negL_step fl k hlk)
              go_wp2_with (at_builtin; refine app_int wr rfl (.tmp 81) (.tmp 87) rfl wo.heap.size G k g (negL (fl.take k)) (-(at_ fl k)) rfl HO.out wr.heap.size rfl rfl hs (by omega) ?_; intro D2 d2 w8 ho8 hg8; have HO8 := hide ho8; have HC8 := hide (HC.out.trans (grown_below HO.out hg8 hs)); clear ho8 hg8)
              go_roundw
              case rel => exact ⟨k + 1, D2, d2, by omega, by go_num, rfl, hide (by rw [HST.out]; exact HO8.out), HC8⟩
              case measure => simp [intOf]; omega
            · obtain rfl : k = fl.length := by omega
              have hnl : (negL fl).length = fl.length := negL_len fl
              have R7 : Hid (wr.ownsRow wo.heap.size 3 1 (.slice G (negL fl).length g) (negL fl).length (encI (negL fl))) := hide (by
                have := HO.out
                rw [List.take_of_length_le (Nat.le_refl _)] at this
                rw [hnl]
                exact this)
              have HNL := hide hnl
              have K7 := hide ((K4.out.then HB.out).then HC.out)
              clear hnl
              go_wp2_with fail
              rw [← HNL.out]
              refine (implFlowValue_any _ _ _ _ _ _ _ _ _ _ _ _ _ (Sl.of_own L7.out) (Sl.of_own O7.out) (Sl.of_own R7.out) (by omega) (by omega) (by have := HNL.out; omega)).mono ?_
              rintro e w8 ⟨rfl, hb8⟩
              rw [HBACK.out]
              have K8 := hide (K7.out.then hb8)
              clear hb8
              go_wp2_with fail
              go_ret
              exact ⟨rfl, K8.out⟩
  · go_enter Tryd.func8, Tryd.ntmps8
    go_wp2_with fail
    go_ret
    exact ⟨rfl, Below.refl _ _⟩

end Go.Proofs.YtijnahflfbjgiaaDoor
