/-
  The reference's drawing of alarms. Of what is drawn only length and range are said.
-/
import Derived.Test.YtijnahflfbjgiaaDoorTaps
import Derived.Test.YtijnahflfbjgiaaDoorTriples
import Derived.Test.YtijnahflfbjgiaaDoorAppThree
import Derived.Test.YtijnahflfbjgiaaDoorFnTaps
namespace Go.Proofs.YtijnahflfbjgiaaDoor
open Go.RowKit
set_option linter.unusedVariables false

/-- What a drawn alarm is like. -/
def In3 (p : Int × Int × Int) : Prop := (-1 ≤ p.1 ∧ p.1 ≤ 1000) ∧ (-1 ≤ p.2.1 ∧ p.2.1 ≤ 1000) ∧ (-1 ≤ p.2.2 ∧ p.2.2 ≤ 1000)
/-- A drawn list of alarms, of the call's own. -/
def Drawn3 (e : TypeId) (B g P L : Nat) (w : World) (en : Ending) (w' : World) : Prop :=
  ∃ (xs : List (Int × Int × Int)) (D : Option Addr) (d : Nat), xs.length ≤ L ∧ (∀ p ∈ xs, In3 p) ∧ en = .returned (.slice D xs.length d) ∧ w'.ownsRow w.heap.size e 3 (.slice D xs.length d) xs.length (enc3 xs) ∧ RdU B w' g P ∧ w.grownBy w' (some g)
theorem in3_snoc {xs : List (Int × Int × Int)} {q : Int × Int × Int} (h : ∀ p ∈ xs, In3 p) (hq : In3 q) : ∀ p ∈ xs ++ [q], In3 p := by
  intro p hp
  rcases List.mem_append.1 hp with h1 | h1
  · exact h p h1
  · rw [List.mem_singleton.1 h1]; exact hq
theorem in3_cons {xs : List (Int × Int × Int)} {q : Int × Int × Int} (h : ∀ p ∈ xs, In3 p) (hq : In3 q) : ∀ p ∈ q :: xs, In3 p := by
  intro p hp
  rcases List.mem_cons.1 hp with h1 | h1
  · rw [h1]; exact hq
  · exact h p h1

theorem make9Alarm (w : World) : (Instr.makeSlice 23 (.int .i64 9) (.int .i64 9)).run Tryd.prog w = .ok (.slice (some ⟨w.heap.size, 0, none⟩) 9 9) (w.alloc (.cells (zrow 27) 31)) :=
  run_make_z (P := Tryd.prog) 23 31 _ 3 24 Tryd.underlying23 infoAlarm rfl (by decide) 9 9 (by decide) (by decide) (by decide) w

set_option maxHeartbeats 1000000 in
theorem l20Alarms_any (B g P : Nat) (n : Int) (w : World) (h : RdU B w g P) (hp : P ≤ 1000) (hn : n ≤ 1000000) :
    Calls Tryd.prog 53 #[.pointer (some ⟨g, 0, none⟩), .int .i64 n] w (Drawn3 31 B g (P + 40) 9 w) := by
  have hgw := h.lt
  have G0 := hide (grown_alloc (World.grownBy.refl w (some g)) (.cells #[] 31))
  have R0 := hide (h.grown (World.grownBy_alloc w (.cells #[] 31) none) (fun k hk => by cases hk))
  have HO := hide (World.ownsRow_lit (base := w.heap.size) (e := 31) (size := 3) w #[] 0 (Nat.le_refl _) (Nat.zero_le _) rfl)
  clear h
  go_enter Tryd.func53, Tryd.ntmps53
  go_wp2_with fail
  refine (pick_u B g P 9 _ R0.out (by omega)).mono ?_
  rintro e w1 ⟨v, v1, v2, _, rfl, h1, o1⟩
  have v3 := v2 (by omega)
  have HR1 := hide h1
  have HG1 := hide (G0.out.trans o1.1)
  have HO1 := hide (o1.own HO.out hgw)
  clear v2 h1 o1 HO G0 R0
  obtain ⟨m0, rfl⟩ := Int.eq_ofNat_of_zero_le v1
  go_wp2_with fail
  go_loopw [5, 6] (fun out k wr => ∃ (xs : List (Int × Int × Int)) (D : Option Addr) (d : Nat) (m : Nat), out = .slice D xs.length d ∧ k = .int .i64 m ∧ xs.length + m ≤ 8 ∧ (∀ p ∈ xs, In3 p) ∧ wr.ownsRow w.heap.size 31 3 (.slice D xs.length d) xs.length (enc3 xs) ∧ RdU B wr g (P + 1 + 3 * xs.length) ∧ w.grownBy wr (some g)) (fun _ k _ => (intOf k).toNat)
  case atStart => exact ⟨[], _, _, m0, rfl, rfl, by simp; omega, by simp, HO1.out, HR1.out, HG1.out⟩
  case round =>
    obtain ⟨xs, D, d, m, rfl, rfl, hl, hx, ho, hr, hg⟩ := hrel
    have HX := hide hx
    have HO := hide ho
    have HG := hide hg
    clear hx ho hg
    by_cases hm : 0 < m
    · go_wp2_with fail
      refine (pick_u B g _ 4 _ hr (by omega)).mono ?_
      rintro e w2 ⟨v, u1, u2, _, rfl, h2, o2⟩
      have u3 := u2 (by omega)
      have HR2 := hide h2
      have HG2 := hide (HG.out.trans o2.1)
      have HO2 := hide (o2.own HO.out hgw)
      clear u2 h2 o2
      go_wp2_with fail
      refine (pick_u B g _ 4 _ HR2.out (by omega)).mono ?_
      rintro e w9 ⟨v', y1, y2, _, rfl, h3, o3⟩
      have y3 := y2 (by omega)
      have HR9 := hide h3
      have HG9 := hide (HG2.out.trans o3.1)
      have HO9 := hide (o3.own HO2.out hgw)
      clear y2 h3 o3
      go_wp2_with fail
      refine (pick_u B g _ 20 _ HR9.out (by omega)).mono ?_
      rintro e w3 ⟨v3, z1, z2, _, rfl, h3, o3⟩
      have z3 := z2 (by omega)
      have HR3 := hide h3
      have HG3 := hide (HG9.out.trans o3.1)
      have HO3 := hide (o3.own HO9.out hgw)
      have hs3 := HG3.out.size
      clear z2 h3 o3
      go_wp2_with (at_builtin; refine app_three 23 31 Tryd.underlying23 infoAlarm w3 rfl (.tmp 14) (.tmp 22) rfl w.heap.size D xs.length d xs (v, v', v3) rfl HO3.out w3.heap.size rfl rfl hs3 (by omega) ?_; intro D2 d2 w4 ho4 hg4)
      have HO4 := hide ho4
      have HG4 := hide (grown_step HG3.out hg4 (own_big HO3.out))
      have HR4 := hide (HR3.out.grown hg4 (fun k hk => by have := own_big HO3.out k hk; omega))
      clear ho4 hg4
      go_roundw
      case rel => exact ⟨xs ++ [(v, v', v3)], D2, d2, m - 1, by simp, by go_num, by simp; omega, in3_snoc HX.out (by simp [In3]; omega), by simpa using HO4.out, HR4.out.more (by simp; omega), HG4.out⟩
      case measure => simp [intOf]; omega
    · obtain rfl : m = 0 := by omega
      go_wp2_with fail
      refine (odd_u B g _ n _ hr (by omega) hn).mono ?_
      rintro e w2 ⟨b, rfl, h2, o2⟩
      have HR2 := hide h2
      have HG2 := hide (HG.out.trans o2.1)
      have HO2 := hide (o2.own HO.out hgw)
      have hs2 := HG2.out.size
      clear h2 o2 hr
      cases b
      · go_wp2_with fail
        go_ret
        exact ⟨xs, D, d, by omega, HX.out, rfl, HO2.out, HR2.out.more (by omega), HG2.out⟩
      · go_wp2_with fail
        refine (pick_u B g _ 3 _ HR2.out (by omega)).mono ?_
        rintro e w3 ⟨v, u1, u2, _, rfl, h3, o3⟩
        have u3 := u2 (by omega)
        have HR3 := hide h3
        have HG3 := hide (HG2.out.trans o3.1)
        have HO3 := hide (o3.own HO2.out hgw)
        have hs3 := HG3.out.size
        clear u2 h3 o3
        rcases (by omega : v = 0 ∨ v = 1 ∨ v = 2) with rfl | rfl | rfl
        · have HM := hide (own_made (w := w3) (e := 31) (size := 3) (n := 9) (cs := enc3 (List.replicate 9 (0, 0, 0))) (by simp [enc3]) (by unfold maxLen; omega))
          have mk := make9Alarm w3
          go_wp2_with fail
          go_ret
          refine ⟨List.replicate 9 (0, 0, 0), some ⟨w3.heap.size, 0, none⟩, 9, by simp, fun p hp => ?_, rfl, ?_, ?_, ?_⟩
          · have := List.eq_of_mem_replicate hp
            subst this
            simp [In3]
          · exact own_mono HM.out hs3
          · exact (HR3.out.grown (World.grownBy_alloc w3 _ none) (fun k hk => by cases hk)).more (by omega)
          · exact grown_alloc HG3.out _
        · have O6 := hide (HO3.out.alloc (.cells #[.int .i64 10, .int .i64 0, .int .i64 0] 31))
          have N6 := hide (World.ownsRow_lit (base := w.heap.size) (e := 31) (size := 3) w3 #[.int .i64 10, .int .i64 0, .int .i64 0] 1 hs3 (by unfold maxLen; omega) rfl)
          have G6 := hide (grown_alloc HG3.out (.cells #[.int .i64 10, .int .i64 0, .int .i64 0] 31))
          have R6 := hide (HR3.out.grown (World.grownBy_alloc w3 (.cells #[.int .i64 10, .int .i64 0, .int .i64 0] 31) none) (fun k hk => by cases hk))
          go_wp2_with (at_builtin; refine app_threes 23 31 Tryd.underlying23 infoAlarm _ rfl (.tmp 44) (.tmp 45) rfl w.heap.size _ 1 1 [(10, 0, 0)] rfl N6.out _ D xs.length d xs rfl (Sl.of_own O6.out) (by simp; omega) (by omega) (by omega) ?_; intro D2 d2 w7 ho7 hg7)
          have HO7 := hide ho7
          have HG7 := hide (grown_step G6.out hg7 (own_big N6.out))
          have HR7 := hide (R6.out.grown hg7 (fun k hk => by have := own_big N6.out k hk; omega))
          clear ho7 hg7
          go_wp2_with fail
          go_ret
          have hl2 : ((10, 0, 0) :: xs).length = 1 + xs.length := by simp; omega
          exact ⟨(10, 0, 0) :: xs, D2, d2, by omega, in3_cons HX.out (by simp [In3]), by rw [hl2]; rfl, by rw [hl2]; exact HO7.out, HR7.out.more (by omega), HG7.out⟩
        · have B6 := hide (Blk.new w3 3 #[.int .i64 (-1), .int .i64 4])
          have O5 := hide (HO3.out.alloc (.cells #[.int .i64 (-1), .int .i64 4] 3))
          have G5 := hide (grown_alloc HG3.out (.cells #[.int .i64 (-1), .int .i64 4] 3))
          have R5 := hide (HR3.out.grown (World.grownBy_alloc w3 (.cells #[.int .i64 (-1), .int .i64 4] 3) none) (fun k hk => by cases hk))
          have hlt3 := HR3.out.lt
          go_wp2_with fail
          refine (pick_u B g _ 2 _ R5.out (by omega)).mono ?_
          rintro e w5 ⟨u, t1, t2, _, rfl, h5, o5⟩
          have t3 := t2 (by omega)
          have HR5 := hide h5
          have HG5 := hide (G5.out.trans o5.1)
          have HO5 := hide (o5.own O5.out hgw)
          have BT : Blk w5 w3.heap.size 3 #[.int .i64 (-1), .int .i64 4] := B6.out.grown o5.1 (fun he => by injection he; omega)
          have hs5 := HG5.out.size
          clear t2 h5 o5
          obtain ⟨y, hy, hcell⟩ : ∃ y : Int, (-1 ≤ y ∧ y ≤ 4) ∧ w5.cell? ⟨w3.heap.size, u.toNat, none⟩ = some (.int .i64 y) := by
            rcases (by omega : u = 0 ∨ u = 1) with rfl | rfl
            · exact ⟨-1, by omega, BT.cell 0⟩
            · exact ⟨4, by omega, BT.cell 1⟩
          obtain ⟨nu, rfl⟩ := Int.eq_ofNat_of_zero_le t1
          rw [Int.toNat_natCast] at hcell
          have HY := hide hy
          have O6 := hide (HO5.out.alloc (.cells #[.int .i64 0, .int .i64 y, .int .i64 0] 31))
          have N6 := hide (World.ownsRow_lit (base := w.heap.size) (e := 31) (size := 3) w5 #[.int .i64 0, .int .i64 y, .int .i64 0] 1 hs5 (by unfold maxLen; omega) rfl)
          have G6 := hide (grown_alloc HG5.out (.cells #[.int .i64 0, .int .i64 y, .int .i64 0] 31))
          have R6 := hide (HR5.out.grown (World.grownBy_alloc w5 (.cells #[.int .i64 0, .int .i64 y, .int .i64 0] 31) none) (fun k hk => by cases hk))
          clear BT hy
          go_wp2_with (at_builtin; refine app_threes 23 31 Tryd.underlying23 infoAlarm _ rfl (.tmp 35) (.tmp 36) rfl w.heap.size _ 1 1 [(0, y, 0)] rfl N6.out _ D xs.length d xs rfl (Sl.of_own O6.out) (by simp; omega) (by omega) (by omega) ?_; intro D2 d2 w7 ho7 hg7)
          have HO7 := hide ho7
          have HG7 := hide (grown_step G6.out hg7 (own_big N6.out))
          have HR7 := hide (R6.out.grown hg7 (fun k hk => by have := own_big N6.out k hk; omega))
          clear ho7 hg7
          go_wp2_with fail
          go_ret
          have hl2 : ((0, y, 0) :: xs).length = 1 + xs.length := by simp; omega
          exact ⟨(0, y, 0) :: xs, D2, d2, by omega, in3_cons HX.out (by have := HY.out; simp [In3]; omega), by rw [hl2]; rfl, by rw [hl2]; exact HO7.out, HR7.out.more (by omega), HG7.out⟩

/-- A drawn list of alarms, in memory of the call's own. -/
def Got3 (t : TypeId) (L : Nat) (w : World) (e : Ending) (w' : World) : Prop :=
  ∃ (xs : List (Int × Int × Int)) (D : Option Addr) (d : Nat), xs.length ≤ L ∧ (∀ p ∈ xs, In3 p) ∧ e = .returned (.slice D xs.length d) ∧ w'.ownsRow w.heap.size t 3 (.slice D xs.length d) xs.length (enc3 xs) ∧ Below w.heap.size w w'

theorem DrawAckOrder_any (A : Option Addr) (c : Nat) (xs : List Int) (w : World) (h : Sl w w.heap.size 1 A xs.length (encU xs)) (hc : xs.length ≤ c) (hm : c ≤ maxLen) (hx : ∀ n ∈ xs, 0 ≤ n ∧ n ≤ 255) :
    Calls Tryd.prog 19 #[.slice A xs.length c] w (Got3 31 9 w) := by
  go_enter Tryd.func19, Tryd.ntmps19
  go_wp2_with fail
  refine (l20Open_any _ _ _ _ h hc hm hx).mono ?_
  rintro e w0 ⟨rfl, hr, hb⟩
  have hr0 : RdU w.heap.size w0 w.heap.size 0 := ⟨0, Nat.le_refl _, hr⟩
  have K := hide hb
  have hs := hb.size
  clear hr hb hx
  go_wp2_with fail
  refine (l20Alarms_any _ _ _ _ _ hr0 (by omega) (by omega)).mono ?_
  rintro e w1 ⟨ys, D, d, h1, h2, rfl, h3, h4, h5⟩
  have K1 := hide (K.out.trans (below_of_grown h5 (Nat.le_refl _) hr0.lt))
  have H2 := hide h2
  have H3 := hide (own_mono h3 hs)
  clear h2 h3 h4 h5 hr0
  go_wp2_with fail
  go_ret
  exact ⟨ys, D, d, h1, H2.out, rfl, H3.out, K1.out⟩

end Go.Proofs.YtijnahflfbjgiaaDoor
