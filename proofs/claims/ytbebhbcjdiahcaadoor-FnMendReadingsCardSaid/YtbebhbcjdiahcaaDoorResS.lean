/-
  Residuals: what the reference's functions compute.
-/
import Derived.Test.YtbebhbcjdiahcaaDoorParS
import Derived.Test.YtbebhbcjdiahcaaDoorAppNew
namespace Go.Proofs.YtbebhbcjdiahcaaDoor
open Go.RowKit
set_option linter.unusedVariables false

/-- The lines before k that end at a bus. -/
def linesL (ls : List (Int × Int × Int)) (x : Int) : Nat → List Int
  | 0 => []
  | k + 1 => linesL ls x k ++ (if incB ls x k = true then [(k : Int)] else [])
theorem linesL_in (ls : List (Int × Int × Int)) (x : Int) : ∀ k, (linesL ls x k).length ≤ k ∧ ∀ z ∈ linesL ls x k, 0 ≤ z ∧ z < k
  | 0 => ⟨Nat.le_refl _, fun z hz => by cases hz⟩
  | k + 1 => by
    obtain ⟨h1, h2⟩ := linesL_in ls x k
    unfold linesL
    split
    · refine ⟨by simp; omega, fun z hz => ?_⟩
      rcases List.mem_append.1 hz with hz | hz
      · have := h2 z hz; omega
      · rw [List.mem_singleton] at hz; omega
    · refine ⟨by simp; omega, fun z hz => ?_⟩
      rw [List.append_nil] at hz
      have := h2 z hz; omega
theorem linesL_yes {ls : List (Int × Int × Int)} {x : Int} {k : Nat} (h : incB ls x k = true) : linesL ls x (k + 1) = linesL ls x k ++ [(k : Int)] := by simp [linesL, h]
theorem linesL_no {ls : List (Int × Int × Int)} {x : Int} {k : Nat} (h : incB ls x k = false) : linesL ls x (k + 1) = linesL ls x k := by simp [linesL, h]
/-- The readings of listed lines that are on and are not line p. -/
def sumO (on : List Bool) (rs : List Int) (p : Int) (l : List Int) : Int := (l.map fun v => if atB on v.toNat = true ∧ ¬ v = p then at_ rs v.toNat else 0).sum
theorem sumO_snoc (on : List Bool) (rs : List Int) (p : Int) (l : List Int) (v : Int) : sumO on rs p (l ++ [v]) = sumO on rs p l + (if atB on v.toNat = true ∧ ¬ v = p then at_ rs v.toNat else 0) := by simp [sumO]
theorem sumO_lines (ls : List (Int × Int × Int)) (on : List Bool) (rs : List Int) (x p : Int) : ∀ k, sumO on rs p (linesL ls x k) = incO ls on rs x p k
  | 0 => rfl
  | k + 1 => by
    unfold incO
    cases h : incB ls x k
    · rw [linesL_no h, sumO_lines ls on rs x p k, if_neg (by simp)]; omega
    · rw [linesL_yes h, sumO_snoc, sumO_lines ls on rs x p k, Int.toNat_natCast]
      by_cases hc : atB on k = true ∧ ¬ (k : Int) = p
      · rw [if_pos hc, if_pos ⟨hc.1, rfl, hc.2⟩]
      · rw [if_neg hc, if_neg fun h => hc ⟨h.1, h.2.2⟩]
theorem sumO_in {n : Nat} {on : List Bool} {rs : List Int} (h : rdB n rs = true) (p : Int) (l : List Int) (hl : ∀ z ∈ l, 0 ≤ z ∧ z < n) : ∀ j, j ≤ l.length → 0 ≤ sumO on rs p (l.take j) ∧ sumO on rs p (l.take j) ≤ 15984 * j
  | 0, _ => by simp [sumO]
  | j + 1, hj => by
    have ih := sumO_in (on := on) h p l hl j (by omega)
    rw [← take_snoc_at (by omega), sumO_snoc]
    obtain ⟨h1, h2⟩ := rdB_true h
    obtain ⟨z1, z2⟩ := hl _ (mem_at j (by omega))
    have := h2 (at_ l j).toNat (by omega)
    split <;> omega
theorem take_all (l : List Int) : l.take l.length = l := List.take_of_length_le (Nat.le_refl _)

set_option maxHeartbeats 1000000 in
theorem linesAt_any (nb x : Nat) (A : Option Addr) (c : Nat) (ls : List (Int × Int × Int)) (w : World) (h : Sl w w.heap.size 3 A ls.length (enc3 ls)) (hv : netB nb ls = true) :
    Calls Tryd.prog 29 #[.agg #[.int .i64 nb, .slice A ls.length c], .int .i64 x] w (MadeInts (fun l => l = linesL ls x ls.length) w) := by
  have hsz : (w.alloc (.cells #[.int .i64 nb, .slice A ls.length c] 25)).heap.size = w.heap.size + 1 := by simp
  have B0 := hide ((Blk.new w 25 #[.int .i64 nb, .slice A ls.length c]).alloc (.cells #[] 3))
  have K0 := hide (((Below.refl _ w).alloc (Nat.le_refl _) (.cells #[.int .i64 nb, .slice A ls.length c] 25)).alloc (by omega) (.cells #[] 3))
  have ho0 := World.ownsRow_lit (base := w.heap.size + 1) (e := 3) (size := 1) (w.alloc (.cells #[.int .i64 nb, .slice A ls.length c] 25)) #[] 0 (by simp) (by unfold maxLen; omega) rfl
  rw [hsz] at ho0
  have O0 := hide ho0
  have hz0 : w.heap.size + 2 ≤ ((w.alloc (.cells #[.int .i64 nb, .slice A ls.length c] 25)).alloc (.cells #[] 3)).heap.size := by simp
  obtain ⟨⟨n1, n2⟩, n3⟩ := net_len hv
  have HV := hide hv
  have HH := hide h
  clear hv h hsz ho0
  go_enter Tryd.func29, Tryd.ntmps29
  go_wp2_with fail
  go_loopw [5, 6] (fun o z wr => ∃ (k : Nat) (E : Option Addr) (e : Nat), k ≤ ls.length ∧ o = .slice E (linesL ls x k).length e ∧ z = .int .i64 k ∧ w.heap.size + 2 ≤ wr.heap.size ∧ Hid (wr.ownsRow (w.heap.size + 1) 3 1 (.slice E (linesL ls x k).length e) (linesL ls x k).length (encI (linesL ls x k))) ∧ Hid (Blk wr w.heap.size 25 #[.int .i64 nb, .slice A ls.length c]) ∧ Hid (Below w.heap.size w wr)) (fun _ z _ => ls.length - (intOf z).toNat)
  case atStart => exact ⟨0, _, 0, Nat.zero_le _, rfl, rfl, hz0, O0, B0, K0⟩
  case round =>
    clear O0 B0 K0 hz0
    obtain ⟨k, E, e, hk, rfl, rfl, hz, HO, HB, HK⟩ := hrel
    obtain ⟨g0, g1⟩ := HB.out.two
    have hln := (linesL_in ls x k).1
    by_cases hkl : k < ls.length
    · obtain ⟨b0, o0, rfl, hb, hd0, hd1, hd2⟩ := HH.out.three k hkl
      go_wp2_with fail
      refine (specNetValid_any _ _ _ _ _ (HH.out.to HK.out) (by omega)).mono ?_
      rintro e' w2 ⟨rfl, hb2⟩
      rw [HV.out]
      have K2 := hide (HK.out.then hb2)
      have O2 := hide (HO.out.keepB hb2)
      have B2 := hide (HB.out.to hb2)
      have hz2 := hb2.size
      have d0 := (K2.out.cell (p := ⟨b0, o0 + k * 3, none⟩) hb).trans hd0
      have d1 := (K2.out.cell (p := ⟨b0, o0 + k * 3 + 1, none⟩) hb).trans hd1
      clear hb2 g0 g1 HO HB HK hd0 hd1 hd2
      obtain ⟨g0, g1⟩ := B2.out.two
      have i0 : (0 : Int) ≤ k := by omega
      have i1 : (k : Int) < ls.length := by omega
      have hz3 : w.heap.size + 1 ≤ w2.heap.size := by omega
      by_cases h1 : (at3 ls k).1 = x
      · have c1 : ((at3 ls k).1 == (x : Int)) = true := by simp [h1]
        have HI := hide (linesL_yes (ls := ls) (x := x) (k := k) (by unfold incB; rw [decide_eq_true h1]; rfl))
        clear h1
        go_wp2_with (at_builtin; refine app_int w2 rfl (.tmp 37) (.tmp 39) rfl (w.heap.size + 1) E (linesL ls x k).length e (linesL ls x k) k rfl O2.out w2.heap.size rfl rfl hz3 (by omega) ?_; intro D2 d2 w3 ho3 hg3)
        have K3 := hide (K2.out.trans ((grown_below O2.out hg3 hz3).mono (by omega)))
        have B3 := hide (B2.out.below (grown_below O2.out hg3 hz3) (by omega))
        have O3 := hide ho3
        have hs3 := hg3.size
        clear ho3 hg3
        go_roundw
        case rel => exact ⟨k + 1, D2, d2, by omega, by rw [HI.out]; simp, by go_num, by omega, by rw [HI.out]; simpa using O3, B3, K3⟩
        case measure => simp [intOf]; omega
      · have c1 : ((at3 ls k).1 == (x : Int)) = false := by simp [h1]
        by_cases h2 : (at3 ls k).2.1 = x
        · have c2 : ((at3 ls k).2.1 == (x : Int)) = true := by simp [h2]
          have HI := hide (linesL_yes (ls := ls) (x := x) (k := k) (by unfold incB; rw [decide_eq_true h2, Bool.or_true]))
          clear h1 h2
          go_wp2_with (at_builtin; refine app_int w2 rfl (.tmp 37) (.tmp 39) rfl (w.heap.size + 1) E (linesL ls x k).length e (linesL ls x k) k rfl O2.out w2.heap.size rfl rfl hz3 (by omega) ?_; intro D2 d2 w3 ho3 hg3)
          have K3 := hide (K2.out.trans ((grown_below O2.out hg3 hz3).mono (by omega)))
          have B3 := hide (B2.out.below (grown_below O2.out hg3 hz3) (by omega))
          have O3 := hide ho3
          have hs3 := hg3.size
          clear ho3 hg3
          go_roundw
          case rel => exact ⟨k + 1, D2, d2, by omega, by rw [HI.out]; simp, by go_num, by omega, by rw [HI.out]; simpa using O3, B3, K3⟩
          case measure => simp [intOf]; omega
        · have c2 : ((at3 ls k).2.1 == (x : Int)) = false := by simp [h2]
          have HI := hide (linesL_no (ls := ls) (x := x) (k := k) (by unfold incB; rw [decide_eq_false h1, decide_eq_false h2]; rfl))
          clear h1 h2
          go_wp2_with fail
          go_roundw
          case rel => exact ⟨k + 1, E, e, by omega, by rw [HI.out], by go_num, by omega, by rw [HI.out]; exact O2, B2, K2⟩
          case measure => simp [intOf]; omega
    · obtain rfl : k = ls.length := by omega
      go_wp2_with fail
      go_ret
      exact ⟨_, E, e, rfl, rfl, own_mono HO.out (by omega), HK.out⟩

theorem l31Ok_any (b : Int) (A D B R : Option Addr) (c d f n rc : Nat) (ls : List (Int × Int × Int)) (on : List Bool) (bs : List (Int × Int)) (rs : List Int) (w : World) (h : Sl w w.heap.size 3 A ls.length (enc3 ls)) (g : Sl w w.heap.size 1 D n (encB on)) (hon : on.length = n) (s : Sl w w.heap.size 2 B bs.length (enc2 bs)) (r : Sl w w.heap.size 1 R rs.length (encI rs)) (hm : ls.length ≤ 1048576) (hn : bs.length ≤ 1048576) (hrn : rs.length ≤ 1048576) :
    Calls Tryd.prog 27 #[.agg #[.int .i64 b, .slice A ls.length c], .slice D n d, .slice B bs.length f, .slice R rs.length rc] w fun e w' => e = .returned (.bool (okB b ls on bs rs)) ∧ Below w.heap.size w w' := by
  have B0 := hide (Blk.new w 25 #[.int .i64 b, .slice A ls.length c])
  have K0 := hide ((Below.refl _ w).alloc (Nat.le_refl _) (.cells #[.int .i64 b, .slice A ls.length c] 25))
  have HH := hide h
  have GG := hide g
  have SS := hide s
  have RR := hide r
  have HON := hide hon
  clear h g s r hon
  go_enter Tryd.func27, Tryd.ntmps27
  go_wp2_with fail
  go_loopw [9] (fun x wr => ∃ k : Nat, k ≤ rs.length ∧ x = .int .i64 k ∧ Hid (∀ j, j < k → inB (at_ rs j) 0 15984 = true) ∧ Hid (Blk wr w.heap.size 25 #[.int .i64 b, .slice A ls.length c]) ∧ Hid (Below w.heap.size w wr)) (fun x _ => rs.length - (intOf x).toNat)
  case atStart => exact ⟨0, Nat.zero_le _, rfl, hide (fun j hj => absurd hj (by omega)), B0, K0⟩
  case round =>
    clear K0 B0
    obtain ⟨k, hk, rfl, HN, HB, HK⟩ := hrel
    obtain ⟨g0, g1⟩ := HB.out.two
    by_cases hlt : k < rs.length
    · obtain ⟨b0, o0, rfl, hb, hd⟩ := RR.out.int k hlt
      have d0 := (HK.out.cell (p := ⟨b0, o0 + k, none⟩) hb).trans hd
      have i0 : (0 : Int) ≤ k := by omega
      have i1 : (k : Int) < rs.length := by omega
      clear hd
      cases hq : inB (at_ rs k) 0 15984
      · have HQ := hide (show okB b ls on bs rs = false by unfold okB; rw [rdB_no k hlt hq, Bool.and_false])
        go_wp2_with ((go_at_call 52; refine (l1In_any _ _ _ _).mono ?_; rintro e w' ⟨rfl, rfl⟩))
        go_ret
        exact ⟨ret_bool HQ.out.symm, HK.out⟩
      · have HQ := hide hq
        go_wp2_with ((go_at_call 52; refine (l1In_any _ _ _ _).mono ?_; rintro e w' ⟨rfl, rfl⟩))
        go_roundw
        case rel => exact ⟨k + 1, by omega, by go_num, hide (fun j hj => by
            by_cases hjk : j = k
            · subst hjk; exact HQ.out
            · exact HN.out j (by omega)), HB, HK⟩
        case measure => simp [intOf]; omega
    · obtain rfl : k = rs.length := by omega
      go_wp2_with fail
      refine (radial_any b A D B c d f n ls on bs wr (HH.out.to HK.out) (GG.out.to HK.out) HON.out (SS.out.to HK.out) hm hn).mono ?_
      rintro e w1 ⟨rfl, hb1⟩
      have K1 := hide (HK.out.then hb1)
      clear hb1 g0 g1
      cases hr : radB b ls on bs
      · have HQ := hide (show okB b ls on bs rs = false by simp [okB, hr])
        go_wp2_with fail
        go_ret
        exact ⟨ret_bool HQ.out.symm, K1.out⟩
      · have hnl := (fedB_true ((radB_iff _ _ _ _).1 hr).1).2.1
        rw [HON.out] at hnl
        by_cases hl : rs.length = n
        · have hbq : ((rs.length : Int) == n) = true := by simp [hl]
          have HQ := hide (show okB b ls on bs rs = true by unfold okB; rw [hr, rdB_yes (hl.trans hnl) HN.out]; rfl)
          clear hr hnl hl
          go_wp2_with fail
          go_ret
          exact ⟨ret_bool HQ.out.symm, K1.out⟩
        · have hbq : ((rs.length : Int) == n) = false := by simp; omega
          have HQ := hide (show okB b ls on bs rs = false by unfold okB; rw [rdB_len (by omega), Bool.and_false])
          clear hr hnl hl
          go_wp2_with fail
          go_ret
          exact ⟨ret_bool HQ.out.symm, K1.out⟩

end Go.Proofs.YtbebhbcjdiahcaaDoor
