/-
  The law FnCutCapacity over drawn networks: the walk.
-/
import Derived.Test.YtijnahflfbjgiaaDoorOff
import Derived.Test.YtijnahflfbjgiaaDoorFnWeakCut
import Derived.Test.YtijnahflfbjgiaaDoorDrawCut
namespace Go.Proofs.YtijnahflfbjgiaaDoor
open Go.RowKit
set_option linter.unusedVariables false

theorem cutF_congr {b : Int} {ls : List (Int × Int × Int)} (hv : netB b ls = true) (os : List Bool) {zs ys : List Int} (h : ∀ a, 0 ≤ a → a < b → hasB zs a = hasB ys a) (k : Nat) (hk : k ≤ ls.length) : cutF ls os zs k = cutF ls os ys k := by
  induction k with
  | zero => rfl
  | succ k ih =>
    have hn := net_at hv k (by omega)
    rw [cutF, cutF, ih (by omega)]
    unfold cutS
    rw [h _ hn.1.1 hn.1.2, h _ hn.2.1.1 hn.2.1.2]
theorem cutB_nil {b : Int} {ls : List (Int × Int × Int)} {os : List Bool} (hs : stB b ls os.length = true) : cutB b ls os [] = 0 := by
  have hv := (stB_true hs).1
  have hz : zoneB b ls [] = true := zoneB_yes hv (fun j hj => absurd hj (by simp))
  unfold cutB
  rw [hs, hz]
  simp only [Bool.and_self, if_true]
  have : ∀ k, cutF ls os [] k = 0 := fun k => by
    induction k with
    | zero => rfl
    | succ k ih => rw [cutF, ih]; simp [cutS, hasB]
  exact this _
/-- The buses that are not in a zone. -/
def restP (zs : List Int) (u : Nat) : Bool := !hasB zs (u : Int)
theorem cutB_rest {b : Int} {ls : List (Int × Int × Int)} {os : List Bool} {zs : List Int} (hs : stB b ls os.length = true) (hz : zoneB b ls zs = true) : cutB b ls os (selL (restP zs) b.toNat) = cutB b ls os zs := by
  have hv := (stB_true hs).1
  have hb := (net_len hv).1
  unfold cutB
  rw [hs, hz, zone_sel hv]
  simp only [Bool.and_self, if_true]
  have e1 := cut_comp (os := os) hv (fun u => hasB zs (u : Int)) ls.length (Nat.le_refl _)
  have e2 : cutF ls os (selL (fun u => hasB zs (u : Int)) b.toNat) ls.length = cutF ls os zs ls.length := cutF_congr hv os (fun a h0 h1 => by rw [hasB_sel _ _ _ h0 (by omega), Int.toNat_of_nonneg h0]) _ (Nat.le_refl _)
  rw [← e2, ← e1]
  rfl
theorem cutB_ways (b : Int) (ls : List (Int × Int × Int)) (os : List Bool) (zs : List Int) : cutB b ls os zs = -1 ∨ (0 ≤ cutB b ls os zs ∧ stB b ls os.length = true ∧ zoneB b ls zs = true) := by
  cases h : (stB b ls os.length && zoneB b ls zs)
  · exact .inl (by unfold cutB; rw [h]; rfl)
  · refine .inr ⟨?_, by simp at h; exact h.1, by simp at h; exact h.2⟩
    unfold cutB
    rw [h]
    simp at h
    exact (cutF_in (stB_true h.1).1 os zs ls.length (Nat.le_refl _)).1

set_option maxRecDepth 8000 in
set_option maxHeartbeats 2000000 in
theorem fnCutCapacity_walk (A0 : Option Addr) (c0 : Nat) (x0 : List Int) (w : World) (l0 : x0.length ≤ c0) (m0 : c0 ≤ maxLen) (s0 : Sl w w.heap.size 1 A0 x0.length (encU x0)) (i0 : ∀ n ∈ x0, 0 ≤ n ∧ n ≤ 255) :
    Calls Tryd.prog 7 #[.slice A0 x0.length c0] w fun e w' => e = .returned (.bool true) ∧ Below w.heap.size w w' := by
  have hm2 := m0
  unfold maxLen at m0
  by_cases hm : x0.length ≤ 1048576
  · have HC := hide (DrawCutCapacity_any A0 c0 x0 w s0 l0 hm2 i0)
    clear i0 s0
    go_enter Tryd.func7, Tryd.ntmps7
    go_wp2_with fail
    refine HC.out.mono ?_
    rintro e w1 ⟨b, ls, D, d, os, E, f, zs, Z, z, hb, hl, hol, hzl, rfl, h1, h2, h3, hb1⟩
    have bw := (Below.refl _ w1).alloc (Nat.le_refl _) (.cells #[.int .i64 b, .slice D ls.length d] 50)
    have L1 := hide (h1.keepB bw)
    have O1 := hide (h2.keepB bw)
    have Q1 := hide (h3.keepB bw)
    have X1 := hide (Blk.new w1 50 #[.int .i64 b, .slice D ls.length d])
    have K1 := hide (hb1.then bw)
    have hs1 := hb1.size
    clear h1 h2 h3 hb1 bw HC hb
    go_wp2_with fail
    refine (implCutCapacity_any _ _ _ _ _ _ _ _ _ _ _ (Sl.of_own L1.out) (Sl.of_own O1.out) (Sl.of_own Q1.out) (by omega) (by omega) (by omega)).mono ?_
    rintro e w2 ⟨rfl, hb2⟩
    have hways := cutB_ways b ls os zs
    generalize hx : cutB b ls os zs = x at hways ⊢
    have HX := hide hx
    clear hx
    have L2 := hide (L1.out.keepB hb2)
    have O2 := hide (O1.out.keepB hb2)
    have Q2 := hide (Q1.out.keepB hb2)
    have X2 := hide (X1.out.to hb2)
    have K2 := hide (K1.out.then hb2)
    clear L1 O1 Q1 X1 K1
    obtain ⟨x0', x1'⟩ := X2.out.two
    clear hb2
    have HW := hide hways
    clear hways
    go_wp2_with fail
    refine (specCutCapacity_any _ _ _ _ _ _ _ _ _ _ _ (Sl.of_own L2.out) (Sl.of_own O2.out) (Sl.of_own Q2.out) (by omega) (by omega) (by omega)).mono ?_
    rintro e w3 ⟨rfl, hb3⟩
    rw [HX.out]
    clear x0' x1'
    have L4 := hide (L2.out.keepB hb3)
    have O4 := hide (O2.out.keepB hb3)
    have Q4 := hide (Q2.out.keepB hb3)
    have X4 := hide (X2.out.to hb3)
    have K4 := hide (K2.out.then hb3)
    clear L2 O2 Q2 X2 K2
    clear hb3
    obtain ⟨y0', y1'⟩ := X4.out.two
    rcases HW.out with rfl | ⟨hpos, hst, hzo⟩
    · go_wp2_with fail
      refine (alive_any _).mono ?_
      rintro e w7 ⟨rfl, hb7⟩
      have K7 := hide (K4.out.then hb7)
      clear hb7
      go_wp2_with fail
      go_ret
      exact ⟨rfl, K7.out⟩
    · have hbn := (net_len (stB_true hst).1).1
      obtain ⟨nb, rfl⟩ := Int.eq_ofNat_of_zero_le (show 0 ≤ b by omega)
      have HST := hide hst
      have HZO := hide hzo
      have N0 := hide (World.ownsRow_lit (base := w3.heap.size) (e := 3) (size := 1) w3 #[] 0 (Nat.le_refl _) (Nat.zero_le _) rfl)
      have B0 := hide ((Below.refl w3.heap.size w3).alloc (Nat.le_refl _) (.cells #[] 3))
      have hnx : ¬ x < 0 := by omega
      clear hst hzo
      go_wp2_with fail
      go_loopw [7, 8] (fun out k wr => ∃ (i : Nat) (G : Option Addr) (g : Nat), i ≤ nb ∧ k = .int .i64 i ∧ out = .slice G (selL (restP zs) i).length g ∧ Hid (wr.ownsRow w3.heap.size 3 1 (.slice G (selL (restP zs) i).length g) (selL (restP zs) i).length (encI (selL (restP zs) i))) ∧ Hid (Below w3.heap.size w3 wr)) (fun _ k _ => nb - (intOf k).toNat)
      case atStart => exact ⟨0, _, _, Nat.zero_le _, rfl, rfl, N0, B0⟩
      case round =>
        obtain ⟨i, G, g, hi, rfl, rfl, HO, HB⟩ := hrel
        have L6 := hide (L4.out.keepB HB.out)
        have O6 := hide (O4.out.keepB HB.out)
        have Q6 := hide (Q4.out.keepB HB.out)
        have X6 := hide (X4.out.to HB.out)
        obtain ⟨z0', z1'⟩ := X6.out.two
        have hs := HB.out.size
        have hsl := selL_len (restP zs) i
        by_cases hlt : i < nb
        · go_wp2_with fail
          refine (hasInt_any _ _ _ _ _ _ rfl (Sl.of_own Q6.out) (by omega)).mono ?_
          rintro e w7 ⟨rfl, rfl⟩
          cases hh : hasB zs (i : Int)
          · have HS := hide (selL_yes (p := restP zs) (n := i) (by unfold restP; rw [hh]; rfl))
            clear hh
            go_wp2_with (at_builtin; refine app_int wr rfl (.tmp 49) (.tmp 51) rfl w3.heap.size G (selL (restP zs) i).length g (selL (restP zs) i) (i : Int) rfl HO.out wr.heap.size rfl rfl hs (by omega) ?_; intro D2 d2 w8 ho8 hg8; have HO8 := hide ho8; have HB8 := hide (HB.out.trans (grown_below HO.out hg8 hs)); clear ho8 hg8)
            go_roundw
            case rel => exact ⟨i + 1, D2, d2, by omega, by go_num, by rw [HS.out, List.length_append]; rfl, hide (by rw [HS.out, List.length_append]; exact HO8.out), HB8⟩
            case measure => simp [intOf]; omega
          · have HS := hide (selL_no (p := restP zs) (n := i) (by unfold restP; rw [hh]; rfl))
            clear hh
            go_wp2_with fail
            go_roundw
            case rel => exact ⟨i + 1, G, g, by omega, by go_num, by rw [HS.out], hide (by rw [HS.out]; exact HO.out), HB⟩
            case measure => simp [intOf]; omega
        · obtain rfl : i = nb := by omega
          have hrl : (selL (restP zs) i).length ≤ 8 := by omega
          go_wp2_with fail
          go_loopw [9, 10, 11] (fun q _ _ wx => ∃ k : Nat, k ≤ os.length ∧ q = .int .i64 k ∧ Hid (Below wr.heap.size wr wx)) (fun q _ _ _ => os.length - (intOf q).toNat)
          case atStart => exact ⟨0, Nat.zero_le _, rfl, hide (Below.refl _ _)⟩
          case round =>
            obtain ⟨k, hk, rfl, HC⟩ := hrel
            have L7 := hide (L6.out.keepB HC.out)
            have O7 := hide (O6.out.keepB HC.out)
            have Q7 := hide (Q6.out.keepB HC.out)
            have X7 := hide (X6.out.to HC.out)
            clear z0' z1'
            obtain ⟨z0', z1'⟩ := X7.out.two
            by_cases hlk : k < os.length
            · go_wp2_with fail
              refine (offOn_any _ _ _ _ _ _ _ k _ (Sl.of_own L7.out) (Sl.of_own O7.out) HST.out hlk).mono ?_
              rintro e w8 ⟨F, g8, u8, rfl, ho8, hb8⟩
              have L8 := hide (L7.out.keepB hb8)
              have Q8 := hide (Q7.out.keepB hb8)
              have X8 := hide (X7.out.to hb8)
              have HC8 := hide (HC.out.then hb8)
              have hsl : (os.set k false).length = os.length := by simp
              have O9 := ho8
              rw [← hsl] at O9
              have O9 := hide O9
              have HSL := hide hsl
              clear ho8 hb8 z0' z1' hsl
              obtain ⟨z0', z1'⟩ := X8.out.two
              go_wp2_with fail
              rw [← HSL.out]
              refine (implCutCapacity_any _ _ _ _ _ _ _ _ _ _ _ (Sl.of_own L8.out) (Sl.of_own O9.out) (Sl.of_own Q8.out) (by omega) (by have := HSL.out; omega) (by omega)).mono ?_
              rintro e w9 ⟨rfl, hb9⟩
              have hle : cutB (i : Int) ls (os.set k false) zs ≤ x := by
                have := cutB_off (b := (i : Int)) (ls := ls) (os := os) (zs := zs) (by rw [HX.out]; exact hpos) k
                rw [HX.out] at this
                exact this
              generalize cutB (i : Int) ls (os.set k false) zs = y at hle ⊢
              have hng : ¬ x < y := by omega
              have HC9 := hide (HC8.out.then hb9)
              clear hb9
              go_wp2_with fail
              go_roundw
              case rel => exact ⟨k + 1, by omega, by go_num, HC9⟩
              case measure => simp [intOf]; omega
            · have R7 := hide (HO.out.keepB HC.out)
              have e1 := hide (cutB_rest HST.out HZO.out)
              have K7 := hide ((K4.out.then HB.out).then HC.out)
              go_wp2_with fail
              refine (implCutCapacity_any _ _ _ _ _ _ _ _ _ _ _ (Sl.of_own L7.out) (Sl.of_own O7.out) (Sl.of_own R7.out) (by omega) (by omega) (by omega)).mono ?_
              rintro e w8 ⟨rfl, hb8⟩
              rw [show cutB (i : Int) ls os (selL (restP zs) i) = x from e1.out.trans HX.out]
              have L8 := hide (L7.out.keepB hb8)
              have O8 := hide (O7.out.keepB hb8)
              have X8 := hide (X7.out.to hb8)
              have K8 := hide (K7.out.then hb8)
              clear hb8 z0' z1'
              obtain ⟨z0', z1'⟩ := X8.out.two
              go_wp2_with fail
              refine (implCutCapacity_any (i : Int) D E none d f 0 ls os [] _ (Sl.of_own L8.out) (Sl.of_own O8.out) ⟨rfl, fun h => absurd h (by simp)⟩ (by omega) (by omega) (by simp)).mono ?_
              rintro e w9 ⟨rfl, hb9⟩
              rw [cutB_nil HST.out]
              have K9 := hide (K8.out.then hb9)
              clear hb9
              go_wp2_with fail
              go_ret
              exact ⟨rfl, K9.out⟩
  · go_enter Tryd.func7, Tryd.ntmps7
    go_wp2_with fail
    go_ret
    exact ⟨rfl, Below.refl _ _⟩

end Go.Proofs.YtijnahflfbjgiaaDoor
