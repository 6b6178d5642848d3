/-
  Chapter 30, the order in which alarms are looked at: the library's sort of the program.
-/
import Derived.Test.YtijnahflfbjgiaaDoorAlarms
namespace Go.Proofs.YtijnahflfbjgiaaDoor
open Go.RowKit
set_option linter.unusedVariables false

/-- The first of two numbers that is not 0. -/
def orF (x y : Int) : Int := if x = 0 then y else x
theorem cmpOr_any (g : Nat) (x y : Int) (w : World) (h0 : w.cell? ⟨g, 0, none⟩ = some (.int .i64 x)) (h1 : w.cell? ⟨g, 1, none⟩ = some (.int .i64 y)) :
    Calls Tryd.prog 63 #[.slice (some ⟨g, 0, none⟩) 2 2] w fun e w' => e = .returned (.int .i64 (orF x y)) ∧ w = w' := by
  by_cases hx : x = 0
  · subst hx
    by_cases hy : y = 0
    · subst hy
      go_enter Tryd.func63, Tryd.ntmps63
      go_wp2
      go_loop [8] (fun i => ∃ k : Nat, k ≤ 2 ∧ i = .int .i64 k) (fun i => 2 - (intOf i).toNat)
      case atStart => exact ⟨0, by omega, rfl⟩
      case round =>
        obtain ⟨k, hk, rfl⟩ := hrel
        obtain rfl | rfl | rfl : k = 0 ∨ k = 1 ∨ k = 2 := by omega
        · go_wp2
          go_round
          case rel => exact ⟨1, by omega, rfl⟩
          case measure => simp [intOf]
        · go_wp2
          go_round
          case rel => exact ⟨2, by omega, rfl⟩
          case measure => simp [intOf]
        · go_wp2
          go_ret
          exact ⟨ret_int (by simp [orF]), rfl⟩
    · have hy1 : (y != 0) = true := by simp [hy]
      have HY := hide hy
      clear hy
      go_enter Tryd.func63, Tryd.ntmps63
      go_wp2
      go_loop [8] (fun i => ∃ k : Nat, k ≤ 1 ∧ i = .int .i64 k) (fun i => 2 - (intOf i).toNat)
      case atStart => exact ⟨0, by omega, rfl⟩
      case round =>
        obtain ⟨k, hk, rfl⟩ := hrel
        obtain rfl | rfl : k = 0 ∨ k = 1 := by omega
        · go_wp2
          go_round
          case rel => exact ⟨1, by omega, rfl⟩
          case measure => simp [intOf]
        · go_wp2
          go_ret
          exact ⟨ret_int (by simp [orF]), rfl⟩
  · have hx1 : (x != 0) = true := by simp [hx]
    have HX := hide hx
    clear hx
    go_enter Tryd.func63, Tryd.ntmps63
    go_wp2
    go_loop [8] (fun i => i = .int .i64 0) (fun i => 2 - (intOf i).toNat)
    case atStart => rfl
    case round =>
      obtain rfl := hrel
      go_wp2
      go_ret
      exact ⟨ret_int (by unfold orF; rw [if_neg HX.out]), rfl⟩

def cmpA (xs : List (Int × Int × Int)) (a b : Nat) : Int := orF (cmpI (at3 xs b).1 (at3 xs a).1) (cmpI (at3 xs a).2.2 (at3 xs b).2.2)
theorem alLt_cmp (xs : List (Int × Int × Int)) (a b : Nat) : alLt xs a b = decide (cmpA xs a b < 0) := by
  unfold alLt cmpA orF cmpI
  simp only [Int.toNat_natCast]
  rw [decide_eq_decide]
  (repeat' split) <;> omega

theorem AckOrder1_any (xs : List (Int × Int × Int)) (q : Nat) (A : Option Addr) (c : Nat) (a b : Nat) (w : World) (hq : w.cell? ⟨q, 0, none⟩ = some (.slice A xs.length c)) (h : Sl w w.heap.size 3 A xs.length (enc3 xs)) (ha : a < xs.length) (hb : b < xs.length) :
    Calls Tryd.prog 62 #[.int .i64 a, .int .i64 b, .pointer (some ⟨q, 0, none⟩)] w fun e w' => e = .returned (.int .i64 (cmpA xs a b)) ∧ Below w.heap.size w w' := by
  obtain ⟨bb, off, rfl, hbb, ca, da, ea⟩ := h.three a ha
  obtain ⟨bb', off', hA, _, cb, db, eb⟩ := h.three b hb
  simp at hA
  obtain ⟨rfl, rfl⟩ := hA
  have a0 : (0 : Int) ≤ a := by omega
  have a1 : (a : Int) < xs.length := by omega
  have b0 : (0 : Int) ≤ b := by omega
  have b1 : (b : Int) < xs.length := by omega
  go_enter Tryd.func62, Tryd.ntmps62
  go_wp2_with fail
  go_region_held3 (fun w' => w'.cell? ⟨q, 0, none⟩ = some (.slice (some ⟨bb, off, none⟩) xs.length c) ∧ w'.cell? ⟨bb, off + a * 3, none⟩ = some (.int .i64 (at3 xs a).1) ∧ w'.cell? ⟨bb, off + b * 3, none⟩ = some (.int .i64 (at3 xs b).1) ∧ w'.cell? ⟨bb, off + a * 3 + 2, none⟩ = some (.int .i64 (at3 xs a).2.2) ∧ w'.cell? ⟨bb, off + b * 3 + 2, none⟩ = some (.int .i64 (at3 xs b).2.2))
    (go_keep)
    (first | (go_at_call 64; refine (cmpCompare_any _ _ _).mono ?_; rintro e w' ⟨rfl, rfl⟩) | (go_at_call 63; refine (cmpOr_any w.heap.size (cmpI (at3 xs b).1 (at3 xs a).1) (cmpI (at3 xs a).2.2 (at3 xs b).2.2) _ ?_ ?_).mono ?_; exact (Blk.new w.drew 3 #[.int .i64 (cmpI (at3 xs b).1 (at3 xs a).1), .int .i64 (cmpI (at3 xs a).2.2 (at3 xs b).2.2)]).cell 0; exact (Blk.new w.drew 3 #[.int .i64 (cmpI (at3 xs b).1 (at3 xs a).1), .int .i64 (cmpI (at3 xs a).2.2 (at3 xs b).2.2)]).cell 1; rintro e w' ⟨rfl, rfl⟩))
  all_goals
    go_wp2_with fail
    go_ret
    exact ⟨rfl, ((Below.refl _ w).drew).alloc (by simp) _⟩

set_option maxHeartbeats 1000000 in
theorem insAl_any (xs : List (Int × Int × Int)) (l : List Int) (g q : Nat) (A : Option Addr) (c n c' : Nat) (w : World) (hn : l.length = n) (hn8 : n ≤ 8) (hq : w.cell? ⟨q, 0, none⟩ = some (.slice A xs.length c)) (hqg : q < g) (h : Sl w g 3 A xs.length (enc3 xs))
    (hd : ∀ x ∈ l, 0 ≤ x ∧ x < xs.length) (ho : w.ownsRow g 3 1 (.slice (some ⟨g, 0, none⟩) n c') n (encI l)) :
    Calls Tryd.prog 111 #[.slice (some ⟨g, 0, none⟩) n c', .int .i64 0, .int .i64 n, .func (.func 62) #[] #[.pointer (some ⟨q, 0, none⟩)]] w fun e w' => (∃ v, e = .returned v) ∧ w'.ownsRow g 3 1 (.slice (some ⟨g, 0, none⟩) n c') n (encI (srt (alLt xs) l (n - 1))) ∧ Below g w w' := by
  have HN := hide hn
  have HO := hide ho
  have HD := hide hd
  clear hn ho hd
  go_enter Tryd.func111, Tryd.ntmps111
  go_wp2_with fail
  go_loopw [8] (fun i wr => ∃ k : Nat, k ≤ n - 1 ∧ i = .int .i64 ((k : Int) + 1) ∧ wr.ownsRow g 3 1 (.slice (some ⟨g, 0, none⟩) n c') n (encI (srt (alLt xs) l k)) ∧ (∀ x ∈ srt (alLt xs) l k, 0 ≤ x ∧ x < xs.length) ∧ Below g w wr) (fun i _ => n + 1 - (intOf i).toNat)
  case atStart => exact ⟨0, Nat.zero_le _, rfl, HO.out, HD.out, Below.refl _ _⟩
  case round =>
    obtain ⟨k, hk, rfl, ho, hd, hbl⟩ := hrel
    by_cases hlt : k + 1 < n
    · have HO1 := hide ho
      have HD1 := hide hd
      have HB1 := hide hbl
      clear ho hd hbl
      obtain ⟨wo, rfl⟩ : ∃ wo : World, wo = wr := ⟨_, rfl⟩
      have hdec : decide ((k : Int) + 1 < n) = true := by simp; omega
      go_wp2_with fail
      go_loopw [9] (fun i wr => ∃ (j : Nat) (d : List Int), j ≤ k + 1 ∧ i = .int .i64 j ∧ d.length = n ∧ inn (alLt xs) d j = srt (alLt xs) l (k + 1) ∧ wr.ownsRow g 3 1 (.slice (some ⟨g, 0, none⟩) n c') n (encI d) ∧ (∀ x ∈ d, 0 ≤ x ∧ x < xs.length) ∧ Below g w wr) (fun i _ => (intOf i).toNat)
      case atStart => exact ⟨k + 1, srt (alLt xs) l k, Nat.le_refl _, by go_num, by rw [srt_len, HN.out], rfl, HO1.out, HD1.out, HB1.out⟩
      case round =>
        obtain ⟨j, d, hj, rfl, hdl, hinn, ho, hd, hbl⟩ := hrel
        have HDL := hide hdl
        have HI := hide hinn
        have HO2 := hide ho
        have HD2 := hide hd
        have HB2 := hide hbl
        clear hdl hinn hd
        cases j with
        | zero =>
          clear ho hbl
          go_wp2_with fail
          go_quiet (fail)
          go_wp2_with fail
          refine ⟨⟨k + 1, by omega, by go_num, ?_, ?_, below_drewN HB2.out _⟩, by simp [intOf]; omega⟩
          · rw [← HI.out]
            exact HO2.out
          · rw [← HI.out]
            exact HD2.out
        | succ j =>
          have hq2 := (hbl.cell (p := ⟨q, 0, none⟩) hqg).trans hq
          have hgs : g ≤ wr.heap.size := by
            have := ho.lt g rfl
            omega
          have S2 := hide ((h.below hbl).more hgs)
          have ca := ho.cellAt (j + 1) (by omega)
          have cb := ho.cellAt j (by omega)
          rw [encI_at d (j + 1) (by rw [HDL.out]; omega)] at ca
          rw [encI_at d j (by rw [HDL.out]; omega)] at cb
          have fa := ho.frozenAt (j + 1)
          have fb := ho.frozenAt j
          have da := HD2.out _ (mem_at (xs := d) (j + 1) (by rw [HDL.out]; omega))
          have db := HD2.out _ (mem_at (xs := d) j (by rw [HDL.out]; omega))
          obtain ⟨a, ea⟩ := Int.eq_ofNat_of_zero_le da.1
          obtain ⟨b, eb⟩ := Int.eq_ofNat_of_zero_le db.1
          have la : a < xs.length := by omega
          have lb : b < xs.length := by omega
          rw [ea] at ca
          rw [eb] at cb
          have EA := hide ea
          have EB := hide eb
          clear ea eb da db ho hbl
          have i0 : (0 : Int) ≤ j := by omega
          have i1 : (j : Int) + 1 < n := by omega
          have i2 : (0 : Int) ≤ (j : Int) + 1 := by omega
          have i3 : (j : Int) < n := by omega
          cases hl : alLt xs a b
          · have hcm : decide (cmpA xs a b < 0) = false := by rw [← alLt_cmp]; exact hl
            have HI2 := hide (show inn (alLt xs) d (j + 1) = d from inn_no (by rw [EA.out, EB.out]; exact hl))
            clear hl
            have hwj : IntKind.i64.wrap ((j : Int) + 1 - 1) = (j : Int) := by rw [IntWalk.i64_in _ (by omega)]; omega
            have hwk : IntKind.i64.wrap (j : Int) = (j : Int) := IntWalk.i64_in _ (by omega)
            go_wp2_with fail
            go_region_held3 (fun w' => w'.cell? ⟨g, j + 1, none⟩ = some (.int .i64 a) ∧ w'.cell? ⟨g, j, none⟩ = some (.int .i64 b))
              (first | go_keep | (refine ⟨cellk hb5 ?_, cellk hb5 ?_⟩ <;> go_keep))
              ((go_at_call 62; refine (AckOrder1_any xs q A c a b _ ?_ ?_ la lb).mono ?_; exact hq2; exact S2.out; rintro e w5 ⟨rfl, hb5⟩))
            have HO5 := hide ((show wr.drew.ownsRow _ _ _ _ _ _ from HO2.out).keepB hb5)
            have HB5 := hide (HB2.out.drew.trans (hb5.mono (by simpa using hgs)))
            clear hb5 ca cb fa fb hwj hwk
            go_wp2_with fail
            refine ⟨⟨k + 1, by omega, by go_num, ?_, ?_, HB5.out⟩, by simp [intOf]; omega⟩
            · rw [← HI.out, HI2.out]
              exact HO5.out
            · rw [← HI.out, HI2.out]
              exact HD2.out
          · have hcm : decide (cmpA xs a b < 0) = true := by rw [← alLt_cmp]; exact hl
            have HI2 := hide (show inn (alLt xs) d (j + 1) = inn (alLt xs) (swapL d (j + 1)) j from inn_yes (by rw [EA.out, EB.out]; exact hl))
            clear hl
            have hwj : IntKind.i64.wrap ((j : Int) + 1 - 1) = (j : Int) := by rw [IntWalk.i64_in _ (by omega)]; omega
            have hwk : IntKind.i64.wrap (j : Int) = (j : Int) := IntWalk.i64_in _ (by omega)
            go_wp2_with fail
            go_region_held3 (fun w' => w'.cell? ⟨g, j + 1, none⟩ = some (.int .i64 a) ∧ w'.cell? ⟨g, j, none⟩ = some (.int .i64 b))
              (first | go_keep | (refine ⟨cellk hb5 ?_, cellk hb5 ?_⟩ <;> go_keep))
              ((go_at_call 62; refine (AckOrder1_any xs q A c a b _ ?_ ?_ la lb).mono ?_; exact hq2; exact S2.out; rintro e w5 ⟨rfl, hb5⟩))
            have HO5 := hide ((show wr.drew.ownsRow _ _ _ _ _ _ from HO2.out).keepB hb5)
            have HB5 := hide (HB2.out.drew.trans (hb5.mono (by simpa using hgs)))
            clear hb5 ca cb fa fb hwj hwk
            have ca := HO5.out.cellAt (j + 1) (by omega)
            have cb := HO5.out.cellAt j (by omega)
            rw [encI_at d (j + 1) (by rw [HDL.out]; omega), EA.out] at ca
            rw [encI_at d j (by rw [HDL.out]; omega), EB.out] at cb
            have fa := HO5.out.frozenAt (j + 1)
            have fb := HO5.out.frozenAt j
            go_wp2_with fail
            go_region
            all_goals go_wp2_with fail
            go_roundw
            case rel =>
              refine ⟨j, swapL d (j + 1), by omega, by go_num, by rw [swapL_len, HDL.out], by rw [← HI2.out, HI.out], ?_, swapL_dom (by rw [HDL.out]; omega) HD2.out, ?_⟩
              · have hO : w5.drew.ownsRow g 3 1 (.slice (some ⟨g, 0, none⟩) n c') n (encI d) := HO5.out
                rw [← swapL_at d j (by rw [HDL.out]; omega), EA.out, EB.out]
                exact ((hO.stored (j + 1) _).1.stored j _).1
              · exact ((HB5.out.drew).setCell (Nat.le_refl _) _).setCell (Nat.le_refl _) _
            case measure => simp [intOf]
    · go_wp2_with fail
      obtain rfl | hk2 : k = n - 1 ∨ n - 1 ≠ k := by omega
      · go_end0
        exact ⟨⟨_, rfl⟩, ho, hbl⟩
      · omega

theorem stableAl_any (xs : List (Int × Int × Int)) (l : List Int) (g q : Nat) (A : Option Addr) (c n c' : Nat) (w : World) (hn : l.length = n) (hn8 : n ≤ 8) (hq : w.cell? ⟨q, 0, none⟩ = some (.slice A xs.length c)) (hqg : q < g) (h : Sl w g 3 A xs.length (enc3 xs))
    (hd : ∀ x ∈ l, 0 ≤ x ∧ x < xs.length) (ho : w.ownsRow g 3 1 (.slice (some ⟨g, 0, none⟩) n c') n (encI l)) :
    Calls Tryd.prog 96 #[.slice (some ⟨g, 0, none⟩) n c', .int .i64 n, .func (.func 62) #[] #[.pointer (some ⟨q, 0, none⟩)]] w fun e w' => (∃ v, e = .returned v) ∧ w'.ownsRow g 3 1 (.slice (some ⟨g, 0, none⟩) n c') n (encI (srt (alLt xs) l (n - 1))) ∧ Below g w w' := by
  have HC := hide (insAl_any xs l g q A c n c' w hn hn8 hq hqg h hd ho)
  clear hn hd ho hq h
  go_enter Tryd.func96, Tryd.ntmps96
  go_wp2_with fail
  go_loopw [7, 8] (fun a b wr => a = .int .i64 0 ∧ b = .int .i64 20 ∧ wr = w) (fun _ _ _ => 0)
  case atStart => exact ⟨rfl, rfl, rfl⟩
  case round =>
    obtain ⟨rfl, rfl, rfl⟩ := hrel
    go_wp2_with fail
    refine HC.out.mono ?_
    rintro e w1 ⟨⟨v, rfl⟩, ho1, hb1⟩
    have HO := hide ho1
    have HB := hide hb1
    clear ho1 hb1
    go_wp2_with fail
    go_loopw [6, 7, 8, 9] (fun s a b c wr => s = .int .i64 20 ∧ wr = w1) (fun _ _ _ _ _ => 0)
    case atStart => exact ⟨rfl, rfl⟩
    case round =>
      obtain ⟨rfl, rfl⟩ := hrel
      go_wp2_with fail
      go_end0
      exact ⟨⟨_, rfl⟩, HO.out, HB.out⟩

theorem sortAl_any (xs : List (Int × Int × Int)) (l : List Int) (g q : Nat) (A : Option Addr) (c n c' : Nat) (w : World) (hn : l.length = n) (hn8 : n ≤ 8) (hq : w.cell? ⟨q, 0, none⟩ = some (.slice A xs.length c)) (hqg : q < g) (h : Sl w g 3 A xs.length (enc3 xs))
    (hd : ∀ x ∈ l, 0 ≤ x ∧ x < xs.length) (ho : w.ownsRow g 3 1 (.slice (some ⟨g, 0, none⟩) n c') n (encI l)) :
    Calls Tryd.prog 61 #[.slice (some ⟨g, 0, none⟩) n c', .func (.func 62) #[] #[.pointer (some ⟨q, 0, none⟩)]] w fun e w' => (∃ v, e = .returned v) ∧ w'.ownsRow g 3 1 (.slice (some ⟨g, 0, none⟩) n c') n (encI (srt (alLt xs) l (n - 1))) ∧ Below g w w' := by
  have HC := hide (stableAl_any xs l g q A c n c' w hn hn8 hq hqg h hd ho)
  clear hn hd ho hq h
  go_enter Tryd.func61, Tryd.ntmps61
  go_wp2_with fail
  refine HC.out.mono ?_
  rintro e w1 ⟨⟨v, rfl⟩, ho1, hb1⟩
  have HO := hide ho1
  have HB := hide hb1
  clear ho1 hb1
  go_wp2_with fail
  go_end0
  exact ⟨⟨_, rfl⟩, HO.out, HB.out⟩

theorem insEmpty_any (L : Option Addr) (lc : Nat) (f : Value) (w : World) : Calls Tryd.prog 111 #[.slice L 0 lc, .int .i64 0, .int .i64 0, f] w fun e w' => (∃ v, e = .returned v) ∧ w = w' := by
  go_enter Tryd.func111, Tryd.ntmps111
  go_wp2_with fail
  go_loopw [8] (fun i wr => i = .int .i64 1 ∧ wr = w) (fun _ _ => 0)
  case atStart => exact ⟨rfl, rfl⟩
  case round =>
    obtain ⟨rfl, rfl⟩ := hrel
    go_wp2_with fail
    go_end0
    exact ⟨⟨_, rfl⟩, rfl⟩
theorem stableEmpty_any (L : Option Addr) (lc : Nat) (f : Value) (w : World) : Calls Tryd.prog 96 #[.slice L 0 lc, .int .i64 0, f] w fun e w' => (∃ v, e = .returned v) ∧ w = w' := by
  go_enter Tryd.func96, Tryd.ntmps96
  go_wp2_with fail
  go_loopw [7, 8] (fun a b wr => a = .int .i64 0 ∧ b = .int .i64 20 ∧ wr = w) (fun _ _ _ => 0)
  case atStart => exact ⟨rfl, rfl, rfl⟩
  case round =>
    obtain ⟨rfl, rfl, rfl⟩ := hrel
    go_wp2_with fail
    refine (insEmpty_any L lc f _).mono ?_
    rintro e w1 ⟨⟨v, rfl⟩, rfl⟩
    go_wp2_with fail
    go_loopw [6, 7, 8, 9] (fun s a b c wx => s = .int .i64 20 ∧ wx = wr) (fun _ _ _ _ _ => 0)
    case atStart => exact ⟨rfl, rfl⟩
    case round =>
      obtain ⟨rfl, rfl⟩ := hrel
      go_wp2_with fail
      go_end0
      exact ⟨⟨_, rfl⟩, rfl⟩
theorem sortEmpty_any (L : Option Addr) (lc : Nat) (f : Value) (w : World) : Calls Tryd.prog 61 #[.slice L 0 lc, f] w fun e w' => (∃ v, e = .returned v) ∧ w = w' := by
  go_enter Tryd.func61, Tryd.ntmps61
  go_wp2_with fail
  refine (stableEmpty_any L lc f _).mono ?_
  rintro e w1 ⟨⟨v, rfl⟩, rfl⟩
  go_wp2_with fail
  go_end0
  exact ⟨⟨_, rfl⟩, rfl⟩

theorem own_mono2 {w : World} {base e size n g c : Nat} {cs : List Value} (h : w.ownsRow base e size (.slice (some ⟨g, 0, none⟩) n c) n cs) : w.ownsRow g e size (.slice (some ⟨g, 0, none⟩) n c) n cs := by
  obtain ⟨h1, h2⟩ := h
  refine ⟨h1, ?_⟩
  rcases h2 with ⟨h2, _⟩ | ⟨g', cap, cur, hv, hg, r⟩
  · cases h2
  · cases hv
    exact .inr ⟨g, c, cur, rfl, Nat.le_refl _, r⟩
theorem unseen_cases2 (p : Int × Int × Int) : (unseen p = false ∧ (p.2.1 == 1) = false ∧ (p.2.1 == 3) = false) ∨ (unseen p = true ∧ (p.2.1 == 1) = true) ∨ (unseen p = true ∧ (p.2.1 == 1) = false ∧ (p.2.1 == 3) = true) := by
  unfold unseen
  by_cases h1 : p.2.1 = 1
  · right; left; simp [h1]
  · by_cases h3 : p.2.1 = 3
    · right; right; simp [h3]
    · left; simp [h1, h3]

theorem implAckOrder_any (A : Option Addr) (c : Nat) (xs : List (Int × Int × Int)) (w : World) (h : Sl w w.heap.size 3 A xs.length (enc3 xs)) (hm : xs.length ≤ 1048576) :
    Calls Tryd.prog 20 #[.slice A xs.length c] w (MadeInts (AkO xs) w) := by
  have bw := (Below.refl _ w).alloc (Nat.le_refl _) (.cells #[.slice A xs.length c] 23)
  have B0 := Blk.new w 23 #[.slice A xs.length c]
  cases h1 : alarmB xs
  · go_enter Tryd.func20, Tryd.ntmps20
    go_wp2_with fail
    refine (implAlarmsValid_any _ _ _ _ (h.to bw) hm).mono ?_
    rintro e w1 ⟨rfl, hb1⟩
    rw [h1]
    go_wp2_with fail
    go_ret
    exact ⟨[], _, _, by unfold AkO ackL; rw [h1]; rfl, rfl, World.ownsRow_nil _ _ _ _, bw.then hb1⟩
  · have hl8 := alarm_len h1
    have HV := hide h1
    have HH := hide h
    go_enter Tryd.func20, Tryd.ntmps20
    go_wp2_with fail
    refine (implAlarmsValid_any _ _ _ _ (h.to bw) hm).mono ?_
    rintro e w1 ⟨rfl, hb1⟩
    rw [h1]
    have b1 := B0.to hb1
    have c1 : w1.cell? ⟨w.heap.size, 0, none⟩ = some (.slice A xs.length c) := b1.cell 0
    have HK := hide (bw.then hb1)
    have hz1 := b1.lt
    have HB1 := hide b1
    clear bw hb1 B0 b1 h1 h
    go_wp2_with fail
    go_loopw [3, 11] (fun l i wr => ∃ (k : Nat) (L : Option Addr) (lc : Nat), k ≤ xs.length ∧ i = .int .i64 k ∧ l = .slice L (unseenK xs k).length lc ∧ Hid (wr.ownsRow w1.heap.size 3 1 (.slice L (unseenK xs k).length lc) (unseenK xs k).length (encI (unseenK xs k))) ∧ Hid (Below w1.heap.size w1 wr)) (fun _ i _ => xs.length - (intOf i).toNat)
    case atStart => exact ⟨0, none, 0, Nat.zero_le _, rfl, rfl, hide (World.ownsRow_nil _ _ _ _), hide (Below.refl _ _)⟩
    case round =>
      obtain ⟨k, L, lc, hk, rfl, rfl, HO, HB⟩ := hrel
      have hsz := HB.out.size
      have hul := unseenK_len xs k
      by_cases hlt : k < xs.length
      · obtain ⟨b, off, hA, hb, hc, hd, he⟩ := (HH.out.to HK.out).three k hlt
        subst hA
        have hc' := cellk HB.out hc
        have hd' := cellk HB.out hd
        have he' := cellk HB.out he
        have i0 : (0 : Int) ≤ k := by omega
        have i1 : (k : Int) < xs.length := by omega
        clear hc hd he
        rcases unseen_cases2 (at3 xs k) with ⟨u, s1, s2⟩ | ⟨u, s1⟩ | ⟨u, s1, s2⟩
        · have E := hide (unseenK_no u)
          clear u
          go_wp2_with fail
          go_roundw
          case rel => exact ⟨k + 1, L, lc, by omega, by go_num, by rw [E.out], by rw [E.out]; exact hide (HO.out.keepB ((Below.refl _ wr).alloc (Nat.le_refl _) _)), hide (HB.out.alloc (by simpa using hsz) _)⟩
          case measure => simp [intOf]; omega
        all_goals
          have E := hide (unseenK_yes u)
          clear u
          have kb := (Below.refl _ wr).alloc (Nat.le_refl _) (.cells #[.int .i64 (at3 xs k).1, .int .i64 (at3 xs k).2.1, .int .i64 (at3 xs k).2.2] 31)
          have HO2 := hide (HO.out.keepB kb)
          have HB2 := hide (HB.out.trans (kb.mono hsz))
          have hz2 : w1.heap.size ≤ wr.heap.size + 1 := by omega
          clear kb
          go_wp2_with (at_builtin; refine app_int _ rfl (.tmp 24) (.tmp 26) rfl w1.heap.size L _ lc (unseenK xs k) k rfl HO2.out (wr.heap.size + 1) (by simp) rfl (by simp; omega) (by omega) ?_; intro D5 d5 w5 ho5 hg5)
          have HO5 := hide ho5
          have HB5 := hide (HB2.out.trans (grown_below HO2.out hg5 (by simp; omega)))
          clear ho5 hg5
          go_roundw
          case rel => exact ⟨k + 1, D5, d5, by omega, by go_num, by rw [E.out, List.length_append]; rfl, by rw [E.out, List.length_append]; exact HO5, HB5⟩
          case measure => simp [intOf]; omega
      · obtain rfl : k = xs.length := by omega
        have hq2 := cellk HB.out c1
        have S2 := hide (((HH.out.to HK.out).below HB.out).more hsz)
        have hle := HK.out.size
        by_cases h0 : (unseenK xs xs.length).length = 0
        · have HN := hide (List.eq_nil_of_length_eq_zero h0)
          have hn : ((unseenK xs xs.length).length : Int) = 0 := by omega
          have HL0 := hide h0
          rw [h0]
          clear hq2 c1 S2 hn h0
          go_wp2_with fail
          refine (sortEmpty_any L lc _ wr).mono ?_
          rintro e w3 ⟨⟨v, rfl⟩, rfl⟩
          go_wp2_with fail
          go_ret
          refine ⟨[], L, lc, ?_, rfl, ?_, HK.out.trans (HB.out.mono hle)⟩
          · show [] = ackL xs
            rw [← ackL_srt HV.out, HN.out]
            rfl
          · have := HO.out
            rw [HL0.out, HN.out] at this
            exact own_mono this hle
        · obtain ⟨gO, cO, hvO, hgO, hgO2⟩ := HO.out.form (by omega)
          cases hvO
          clear c1
          go_wp2_with fail
          refine (sortAl_any xs (unseenK xs xs.length) gO w.heap.size A c (unseenK xs xs.length).length lc wr rfl (by omega) hq2 (by omega) ((HH.out.to HK.out).below HB.out |>.more hgO) (fun x hx => ((unseenK_mem _ _ _).1 hx).1) (own_mono2 HO.out)).mono ?_
          rintro e w3 ⟨⟨v, rfl⟩, ho3, hb3⟩
          have HO3 := hide ho3
          have HB3 := hide hb3
          clear ho3 hb3 S2 hq2
          go_wp2_with fail
          go_ret
          refine ⟨ackL xs, some ⟨gO, 0, none⟩, lc, rfl, ?_, ?_, ?_⟩
          · rw [ackL_len HV.out]
            rfl
          · rw [ackL_len HV.out, ← ackL_srt HV.out]
            exact own_mono HO3.out (by omega)
          · exact (HK.out.trans (HB.out.mono hle)).trans (HB3.out.mono (by omega))

end Go.Proofs.YtijnahflfbjgiaaDoor
