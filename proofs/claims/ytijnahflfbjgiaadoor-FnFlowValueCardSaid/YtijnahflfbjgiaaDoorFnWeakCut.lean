/-
  The law FnWeakCut over drawn networks: the walk.
-/
import Derived.Test.YtijnahflfbjgiaaDoorSide
import Derived.Test.YtijnahflfbjgiaaDoorWeakS
import Derived.Test.YtijnahflfbjgiaaDoorMostS
import Derived.Test.YtijnahflfbjgiaaDoorNetEnds
namespace Go.Proofs.YtijnahflfbjgiaaDoor
open Go.RowKit
set_option linter.unusedVariables false

theorem zone_sel {b : Int} {ls : List (Int × Int × Int)} (hv : netB b ls = true) (p : Nat → Bool) : zoneB b ls (selL p b.toNat) = true := by
  have hb := (net_len hv).1
  have hp := selL_asc p b.toNat
  refine zoneB_yes hv fun j hj => ?_
  have hr : inB (at_ (selL p b.toNat) j) 0 (b - 1) = true := by
    rw [at_eq _ j hj]
    obtain ⟨u, hu, _, e⟩ := (selL_mem p b.toNat _).1 (List.getElem_mem hj)
    rw [e]
    exact inB_mk (by omega) (by omega)
  unfold zoneOk
  rw [hr, Bool.true_and]
  rcases j with _ | j
  · rfl
  · have := List.pairwise_iff_getElem.1 hp j (j + 1) (by omega) hj (by omega)
    rw [at_eq _ (j + 1) hj]
    simp only [Nat.add_sub_cancel]
    rw [at_eq _ j (by omega)]
    simp [this]
theorem cut_sel {b : Int} {ls : List (Int × Int × Int)} {os : List Bool} {from_ to : Int} (he : endsB b ls os.length from_ to = true) (p : Nat → Bool) : cutB b ls os (selL p b.toNat) = cutF ls os (selL p b.toNat) ls.length := by
  have hE := ends_true he
  unfold cutB
  rw [zone_sel hE.net]
  have : stB b ls os.length = true := by simp [stB, hE.net, hE.len]
  rw [this]
  rfl
theorem side_has {N n : Nat} {x : Int} (h0 : 0 ≤ x) (h1 : x < n) : x ∈ sideL N n ↔ bitB N x.toNat = true := by
  obtain ⟨k, rfl⟩ := Int.eq_ofNat_of_zero_le h0
  unfold sideL
  rw [selL_mem, Int.toNat_natCast]
  constructor
  · rintro ⟨u, _, hq, he⟩
    have : k = u := by omega
    rw [this]; exact hq
  · intro hq; exact ⟨k, by omega, hq, rfl⟩
/-- What is known of the weakest cut. -/
structure Weak (b : Int) (ls : List (Int × Int × Int)) (os : List Bool) (fr to : Int) (r : List Int) (v : Int) : Prop where
  val : ∀ y, MV b ls os fr to y → y = v
  pos : 0 ≤ v
  has : hasB r fr = true
  not : hasB r to = false
  cut : cutB b ls os r = v
  asc : r.Pairwise (· < ·)
  len : r ≠ []
  most : ∀ N : Nat, bitB N fr.toNat = true → bitB N to.toNat = false → cutB b ls os (sideL N b.toNat) = v → withinB r (sideL N b.toNat) = true
theorem WC.weak {b : Int} {ls : List (Int × Int × Int)} {os : List Bool} {fr to : Int} {r : List Int} (he : endsB b ls os.length fr to = true) (h : WC b ls os fr to r) : ∃ v, Weak b ls os fr to r v := by
  rcases h with ⟨_, fl, p, hM, hp, rfl⟩ | ⟨h1, _⟩
  · obtain ⟨v, q, hF, hv, hq, h1, h2, h3⟩ := hM.min he
    have hE := ends_true he
    have hb := (net_len hE.net).1
    have hpq : selL p b.toNat = selL q b.toNat := selL_congr fun u hu => by
      have a := hp u (by omega)
      have c := hq u (by omega)
      cases hx : p u <;> cases hy : q u <;> simp_all
    rw [hpq]
    refine ⟨v, ⟨fun y hy => (hM.same hy).trans hv, hF.pos, decide_eq_true h1, decide_eq_false h2, by rw [cut_sel he, h3], selL_asc _ _, (fun hn => by rw [hn] at h1; cases h1), fun N a c d => ?_⟩⟩
    rw [show cutB b ls os (sideL N b.toNat) = _ from cut_sel he _] at d
    have hcl := hF.closed hE.net (selL_nodup (bitB N) b.toNat) ((side_has hE.f0 (by have := hE.f1; omega)).2 a) (fun hm => by rw [(side_has hE.t0 (by have := hE.t1; omega)).1 hm] at c; cases c) d
    refine withinB_yes fun j hj => ?_
    rw [at_eq _ j hj]
    obtain ⟨u, hu, hqu, e⟩ := (selL_mem q b.toNat _).1 (List.getElem_mem hj)
    rw [e]
    have hrea := (hq u (by omega)).1 hqu
    refine decide_eq_true ?_
    have hbk : Rea (fun x y => Res ls os fl y x) fr u := hrea.back
    exact Rea.all (fun x => x ∈ sideL N b.toNat) ((side_has hE.f0 (by have := hE.f1; omega)).2 a) (fun x y hxy hy => hcl y x hy hxy) hbk
  · rw [he] at h1; cases h1
theorem WC.empty {b : Int} {ls : List (Int × Int × Int)} {os : List Bool} {fr to : Int} {r : List Int} (he : endsB b ls os.length fr to = false) (h : WC b ls os fr to r) : r = [] := by
  rcases h with ⟨h1, _⟩ | ⟨_, h2⟩
  · rw [he] at h1; cases h1
  · exact h2
theorem pow_in (n : Nat) (h : n ≤ 8) : ∃ M : Nat, IntKind.i64.wrap (2 ^ n) = (M : Int) ∧ IntKind.i64.wrap (1 * 2 ^ n) = (M : Int) ∧ M ≤ 256 := by
  refine ⟨2 ^ n, ?_, ?_, ?_⟩ <;> rcases (by omega : n = 0 ∨ n = 1 ∨ n = 2 ∨ n = 3 ∨ n = 4 ∨ n = 5 ∨ n = 6 ∨ n = 7 ∨ n = 8) with rfl | rfl | rfl | rfl | rfl | rfl | rfl | rfl | rfl <;> decide

set_option maxRecDepth 8000 in
set_option maxHeartbeats 2000000 in
theorem fnWeakCut_walk (A0 : Option Addr) (c0 : Nat) (x0 : List Int) (w : World) (l0 : x0.length ≤ c0) (m0 : c0 ≤ maxLen) (s0 : Sl w w.heap.size 1 A0 x0.length (encU x0)) (i0 : ∀ n ∈ x0, 0 ≤ n ∧ n ≤ 255) :
    Calls Tryd.prog 11 #[.slice A0 x0.length c0] w fun e w' => e = .returned (.bool true) ∧ Below w.heap.size w w' := by
  have hm2 := m0
  unfold maxLen at m0
  by_cases hm : x0.length ≤ 1048576
  · have HC := hide (DrawWeakCut_any A0 c0 x0 w s0 l0 hm2 i0)
    clear i0 s0
    go_enter Tryd.func11, Tryd.ntmps11
    go_wp2_with fail
    refine HC.out.mono ?_
    rintro e w1 ⟨b, ls, D, d, os, E, f, fr, to, hb, hl, hol, rfl, h1, h2, hb1⟩
    have bw := (Below.refl _ w1).alloc (Nat.le_refl _) (.cells #[.int .i64 b, .slice D ls.length d] 50)
    have L1 := hide (h1.keepB bw)
    have O1 := hide (h2.keepB bw)
    have X1 := hide (Blk.new w1 50 #[.int .i64 b, .slice D ls.length d])
    have K1 := hide (hb1.then bw)
    have hs1 := hb1.size
    clear h1 h2 hb1 bw HC hb
    go_wp2_with fail
    refine (implWeakCut_any _ _ _ _ _ _ _ _ _ _ (Sl.of_own L1.out) (Sl.of_own O1.out) (by omega) (by omega)).mono ?_
    rintro e w2 ⟨r, F, fc, hr, rfl, ho2, hb2⟩
    have L2 := hide (L1.out.keepB hb2)
    have O2 := hide (O1.out.keepB hb2)
    have X2 := hide (X1.out.to hb2)
    have K2 := hide (K1.out.then hb2)
    clear L1 O1 X1 K1
    obtain ⟨x0', x1'⟩ := X2.out.two
    have R2 := hide ho2
    have HR := hide hr
    have hrl := hr.len
    clear ho2 hb2 hr
    go_wp2_with fail
    refine (specWeakCut_any _ _ _ _ _ _ _ _ _ _ (Sl.of_own L2.out) (Sl.of_own O2.out) (by omega) (by omega)).mono ?_
    rintro e w3 ⟨r', G, gc, hr', rfl, ho3, hb3⟩
    obtain rfl := HR.out.unique hr'
    clear hr' x0' x1'
    have L3 := hide (L2.out.keepB hb3)
    have O3 := hide (O2.out.keepB hb3)
    have X3 := hide (X2.out.to hb3)
    have K3 := hide (K2.out.then hb3)
    clear L2 O2 X2 K2
    have R3 := hide (R2.out.keepB hb3)
    have S3 := hide ho3
    clear R2 ho3 hb3
    go_wp2_with fail
    refine (sameInts_any _ _ _ _ _ _ _ (Sl.of_own R3.out) (Sl.of_own S3.out) (by omega)).mono ?_
    rintro e w4 ⟨rfl, hb4⟩
    rw [eqI_self]
    have L4 := hide (L3.out.keepB hb4)
    have O4 := hide (O3.out.keepB hb4)
    have X4 := hide (X3.out.to hb4)
    have K4 := hide (K3.out.then hb4)
    clear L3 O3 X3 K3
    have R4 := hide (R3.out.keepB hb4)
    clear R3 S3 hb4
    obtain ⟨y0', y1'⟩ := X4.out.two
    cases he : endsB b ls os.length fr to
    · obtain rfl := HR.out.empty he
      have HE := hide he
      clear he
      go_wp2_with fail
      refine (implMostFlow_any _ _ _ _ _ _ _ _ _ _ (Sl.of_own L4.out) (Sl.of_own O4.out) (by omega) (by omega)).mono ?_
      rintro e w6 ⟨x, hx, rfl, hb6⟩
      obtain rfl := hx.unique (MV.none HE.out)
      have K6 := hide (K4.out.then hb6)
      clear hx hb6
      go_wp2_with fail
      refine (alive_any _).mono ?_
      rintro e w7 ⟨rfl, hb7⟩
      have K7 := hide (K6.out.then hb7)
      clear hb7
      go_wp2_with fail
      go_ret
      exact ⟨rfl, K7.out⟩
    · obtain ⟨v, hW⟩ := HR.out.weak he
      have HW := hide hW
      have hpos := hW.pos
      have hr0 : r.length ≠ 0 := fun h => hW.len (List.length_eq_zero_iff.1 h)
      have hne : ((r.length : Int) == 0) = false := by simp; exact hW.len
      have hE := ends_true he
      have hbn := (net_len hE.net).1
      obtain ⟨nb, rfl⟩ := Int.eq_ofNat_of_zero_le (show 0 ≤ b by omega)
      obtain ⟨nf, rfl⟩ := Int.eq_ofNat_of_zero_le hE.f0
      obtain ⟨nt, rfl⟩ := Int.eq_ofNat_of_zero_le hE.t0
      have hf8 : nf ≤ 8 := by have := hE.f1; omega
      have ht8 : nt ≤ 8 := by have := hE.t1; omega
      have HE := hide he
      clear hE he hW
      go_wp2_with fail
      refine (implMostFlow_any _ _ _ _ _ _ _ _ _ _ (Sl.of_own L4.out) (Sl.of_own O4.out) (by omega) (by omega)).mono ?_
      rintro e w5 ⟨x, hx, rfl, hb5⟩
      obtain rfl := HW.out.val x hx
      clear hx y0' y1'
      have L5 := hide (L4.out.keepB hb5)
      have O5 := hide (O4.out.keepB hb5)
      have X5 := hide (X4.out.to hb5)
      have K5 := hide (K4.out.then hb5)
      clear L4 O4 X4 K4
      have R5 := hide (R4.out.keepB hb5)
      clear R4 hb5
      obtain ⟨M, hM1, hM2, hM⟩ := pow_in nb (by omega)
      have nb0 : (0 : Int) ≤ nb := by omega
      have nb1 : (nb : Int) ≤ 64 := by omega
      go_wp2_with fail
      go_loopw [9, 10] (fun q _ wr => ∃ N : Nat, N ≤ M ∧ q = .int .i64 N ∧ Hid (Below w5.heap.size w5 wr)) (fun q _ _ => M - (intOf q).toNat)
      case atStart => exact ⟨0, Nat.zero_le _, rfl, hide (Below.refl _ _)⟩
      case round =>
        obtain ⟨N, hN, rfl, HB⟩ := hrel
        have L6 := hide (L5.out.keepB HB.out)
        have O6 := hide (O5.out.keepB HB.out)
        have X6 := hide (X5.out.to HB.out)
        have R6 := hide (R5.out.keepB HB.out)
        obtain ⟨z0', z1'⟩ := X6.out.two
        by_cases hlt : N < M
        · go_wp2_with fail
          refine (sideOf_any N nb (by omega) (by omega) _).mono ?_
          rintro e w7 ⟨zs, H, hc, rfl, rfl, ho7, hb7⟩
          clear z0' z1'
          have HB7 := hide (HB.out.then hb7)
          have L7 := hide (L6.out.keepB hb7)
          have O7 := hide (O6.out.keepB hb7)
          have R7 := hide (R6.out.keepB hb7)
          have X7 := hide (X6.out.to hb7)
          have Z7 := hide ho7
          have hzl := selL_len (bitB N) nb
          have HZL : Hid ((sideL N nb).length ≤ nb) := hide hzl
          clear ho7 hb7 hzl L6 O6 R6 X6
          obtain ⟨z0', z1'⟩ := X7.out.two
          obtain ⟨f1, f2, f3, f4⟩ := bit_facts N nf
          obtain ⟨t1, t2, t3, t4⟩ := bit_facts N nt
          have i0 : (0 : Int) ≤ nf := by omega
          have i1 : (nf : Int) ≤ 64 := by omega
          have i2 : (0 : Int) ≤ nt := by omega
          have i3 : (nt : Int) ≤ 64 := by omega
          cases hbf : bitB N nf
          · rw [hbf] at f1 f2 f3 f4
            clear hbf
            go_wp2_with fail
            go_roundw
            case rel => exact ⟨N + 1, by omega, by go_num, HB7⟩
            case measure => simp [intOf]; omega
          · have HBF := hide hbf
            rw [hbf] at f1 f2 f3 f4
            clear hbf
            cases hbt : bitB N nt
            · have HBT := hide hbt
              rw [hbt] at t1 t2 t3 t4
              clear hbt
              have HMO := hide (HW.out.most N (by simpa using HBF.out) (by simpa using HBT.out))
              go_wp2_with fail
              refine (implCutCapacity_any _ _ _ _ _ _ _ _ _ _ _ (Sl.of_own L7.out) (Sl.of_own O7.out) (Sl.of_own Z7.out) (by omega) (by omega) (by have := HZL.out; omega)).mono ?_
              rintro e w8 ⟨rfl, hb8⟩
              have HB8 := hide (HB7.out.then hb8)
              have R8 := hide (R7.out.keepB hb8)
              have Z8 := hide (Z7.out.keepB hb8)
              clear hb8
              generalize hcv : cutB (nb : Int) ls os (sideL N nb) = y
              by_cases hy : y = x
              · subst hy
                have HWI := hide (HMO.out hcv)
                have HCV := hide hcv
                clear hcv
                go_wp2_with fail
                refine (within_any _ _ _ _ _ _ _ (Sl.of_own R8.out) (Sl.of_own Z8.out) (by omega) (by have := HZL.out; omega)).mono ?_
                rintro e w9 ⟨rfl, rfl⟩
                rw [show withinB r (sideL N nb) = true from HWI.out]
                go_wp2_with fail
                go_roundw
                case rel => exact ⟨N + 1, by omega, by go_num, HB8⟩
                case measure => simp [intOf]; omega
              · have hyx : (y == x) = false := by simp [hy]
                have HCV := hide hcv
                clear hcv
                go_wp2_with fail
                go_roundw
                case rel => exact ⟨N + 1, by omega, by go_num, HB8⟩
                case measure => simp [intOf]; omega
            · rw [hbt] at t1 t2 t3 t4
              clear hbt
              go_wp2_with fail
              go_roundw
              case rel => exact ⟨N + 1, by omega, by go_num, HB7⟩
              case measure => simp [intOf]; omega
        · go_wp2_with fail
          refine (hasInt_any _ _ _ _ _ _ rfl (Sl.of_own R6.out) (by omega)).mono ?_
          rintro e w7 ⟨rfl, rfl⟩
          rw [HW.out.has]
          go_wp2_with fail
          refine (hasInt_any _ _ _ _ _ _ rfl (Sl.of_own R6.out) (by omega)).mono ?_
          rintro e w8 ⟨rfl, rfl⟩
          rw [HW.out.not]
          go_wp2_with fail
          refine (implCutCapacity_any _ _ _ _ _ _ _ _ _ _ _ (Sl.of_own L6.out) (Sl.of_own O6.out) (Sl.of_own R6.out) (by omega) (by omega) (by omega)).mono ?_
          rintro e w9 ⟨rfl, hb9⟩
          rw [HW.out.cut]
          have K9 := hide ((K5.out.then HB.out).then hb9)
          have R9 := hide (R6.out.keepB hb9)
          clear hb9
          go_wp2_with fail
          refine (ascend_any _ _ _ _ (Sl.of_own R9.out) (by omega) HW.out.asc).mono ?_
          rintro e w10 ⟨rfl, hb10⟩
          have K10 := hide (K9.out.then hb10)
          clear hb10
          go_wp2_with fail
          go_ret
          exact ⟨rfl, K10.out⟩
  · go_enter Tryd.func11, Tryd.ntmps11
    go_wp2_with fail
    go_ret
    exact ⟨rfl, Below.refl _ _⟩

end Go.Proofs.YtijnahflfbjgiaaDoor
