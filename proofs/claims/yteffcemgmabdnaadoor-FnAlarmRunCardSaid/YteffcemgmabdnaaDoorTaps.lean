/-
  The reference's drawing of loads, and of loads with phases. Of what is drawn only length and range are said.
-/
import Derived.Test.YteffcemgmabdnaaDoorDraw
import Derived.Test.YteffcemgmabdnaaDoorAppend
import Derived.Test.YteffcemgmabdnaaDoorAppAny
namespace Go.Proofs.YteffcemgmabdnaaDoor
open Go.RowKit
set_option linter.unusedVariables false

/-- A drawn list of numbers, of the call's own. -/
def DrawnI (B g P L : Nat) (lo hi : Int) (w : World) (e : Ending) (w' : World) : Prop :=
  ∃ xs D d, xs.length ≤ L ∧ (∀ n ∈ xs, lo ≤ n ∧ n ≤ hi) ∧ e = .returned (.slice D xs.length d) ∧ w'.ownsRow w.heap.size 3 1 (.slice D xs.length d) xs.length (encI xs) ∧ RdU B w' g P ∧ w.grownBy w' (some g)

theorem RdU.grown {B g P : Nat} {w w' : World} {row : Option Nat} (h : RdU B w g P) (hg : w.grownBy w' row) (hr : ∀ k, row = some k → g < k) : RdU B w' g P :=
  h.far ⟨hg.os, hg.tape, hg.output, hg.size, fun k hk => hg.block k (by have := h.lt; omega) (fun e => by have := hr k e.symm; omega)⟩
theorem own_big {w : World} {base e size n : Nat} {v : Value} {cs : List Value} (ho : w.ownsRow base e size v n cs) : ∀ k, v.ownBlock = some k → base ≤ k := fun k hk => (ho.lt k hk).1

theorem make7 (w : World) : (Instr.makeSlice 23 (.int .i64 7) (.int .i64 7)).run Tryd.prog w = .ok (.slice (some ⟨w.heap.size, 0, none⟩) 7 7) (w.alloc (.cells (zrow 7) 3)) := by
  obtain ⟨i0, hi, hz0, hz1, hz2⟩ := info_parts infoI
  exact run_make_z (P := Tryd.prog) 23 3 (.int .i64 0) 1 8 Tryd.underlying23 infoI rfl (by decide) 7 7 (by decide) (by decide) (by decide) w

theorem cells2 (w : World) (a b : Int) : (w.alloc (.cells #[.int .i64 a, .int .i64 b] 3)).cell? ⟨w.heap.size, 0, none⟩ = some (.int .i64 a) ∧ (w.alloc (.cells #[.int .i64 a, .int .i64 b] 3)).cell? ⟨w.heap.size, 1, none⟩ = some (.int .i64 b) := (Blk.new w 3 #[.int .i64 a, .int .i64 b]).two

set_option maxHeartbeats 1000000 in
theorem l20Taps_any (B g P : Nat) (n : Int) (w : World) (h : RdU B w g P) (hp : P ≤ 1000) (hn : n ≤ 1000000) :
    Calls Tryd.prog 63 #[.pointer (some ⟨g, 0, none⟩), .int .i64 n] w (DrawnI B g (P + 20) 7 (-1) 1000 w) := by
  have hgw := h.lt
  have G0 := hide (grown_alloc (World.grownBy.refl w (some g)) (.cells #[] 3))
  have R0 := hide (h.grown (World.grownBy_alloc w (.cells #[] 3) none) (fun k hk => by cases hk))
  have HO := hide (World.ownsRow_lit (base := w.heap.size) (e := 3) (size := 1) w #[] 0 (Nat.le_refl _) (Nat.zero_le _) rfl)
  clear h
  go_enter Tryd.func63, Tryd.ntmps63
  go_wp2_with fail
  refine (pick_u B g P 7 _ R0.out (by omega)).mono ?_
  rintro e w1 ⟨v, v1, v2, _, rfl, h1, o1⟩
  have v3 := v2 (by omega)
  have HR1 := hide h1
  have HG1 := hide (G0.out.trans o1.1)
  have HO1 := hide (o1.own HO.out hgw)
  clear v2 h1 o1 HO G0 R0
  obtain ⟨m0, rfl⟩ := Int.eq_ofNat_of_zero_le v1
  go_wp2_with fail
  go_loopw [5, 6] (fun out k wr => ∃ (xs : List Int) (D : Option Addr) (d : Nat) (m : Nat), out = .slice D xs.length d ∧ k = .int .i64 m ∧ xs.length + m ≤ 6 ∧ (∀ n ∈ xs, (-1 : Int) ≤ n ∧ n ≤ 1000) ∧ wr.ownsRow w.heap.size 3 1 (.slice D xs.length d) xs.length (encI xs) ∧ RdU B wr g (P + 1 + xs.length) ∧ w.grownBy wr (some g)) (fun _ k _ => (intOf k).toNat)
  case atStart => exact ⟨[], _, _, m0, rfl, rfl, by simp; omega, by simp, HO1.out, HR1.out, HG1.out⟩
  case round =>
    obtain ⟨xs, D, d, m, rfl, rfl, hl, hx, ho, hr, hg⟩ := hrel
    have HX := hide hx
    have HO := hide ho
    have HG := hide hg
    clear hx ho hg
    by_cases hm : 0 < m
    · go_wp2_with fail
      refine (pick_u B g _ 40 _ hr (by omega)).mono ?_
      rintro e w2 ⟨v, u1, u2, _, rfl, h2, o2⟩
      have u3 := u2 (by omega)
      have HR2 := hide h2
      have HG2 := hide (HG.out.trans o2.1)
      have HO2 := hide (o2.own HO.out hgw)
      have hs2 := HG2.out.size
      clear u2 h2 o2
      go_wp2_with (at_builtin; refine app_int w2 rfl (.tmp 14) (.tmp 17) rfl w.heap.size D xs.length d xs v rfl HO2.out w2.heap.size rfl rfl hs2 (by omega) ?_; intro D2 d2 w3 ho3 hg3)
      have HO3 := hide ho3
      have HG3 := hide (grown_step HG2.out hg3 (own_big HO2.out))
      have HR3 := hide (HR2.out.grown hg3 (fun k hk => by have := own_big HO2.out k hk; omega))
      clear ho3 hg3
      go_roundw
      case rel =>
        refine ⟨xs ++ [v], D2, d2, m - 1, by simp, by go_num, by simp; omega, ?_, by simpa using HO3.out, HR3.out.more (by simp; omega), HG3.out⟩
        intro n hn
        rcases List.mem_append.1 hn with h | h
        · exact HX.out n h
        · simp at h; omega
      case measure => simp [intOf]; omega
    · obtain rfl : m = 0 := by omega
      go_wp2_with fail
      refine (odd_u B g _ n _ hr (by omega) hn).mono ?_
      rintro e w2 ⟨b, rfl, h2, o2⟩
      have HR2 := hide h2
      have HG2 := hide (HG.out.trans o2.1)
      have HO2 := hide (o2.own HO.out hgw)
      have hs2 := HG2.out.size
      clear h2 o2 hr
      cases b
      · go_wp2_with fail
        go_ret
        exact ⟨xs, D, d, by omega, HX.out, rfl, HO2.out, HR2.out.more (by omega), HG2.out⟩
      · go_wp2_with fail
        refine (pick_u B g _ 2 _ HR2.out (by omega)).mono ?_
        rintro e w3 ⟨v, u1, u2, _, rfl, h3, o3⟩
        have u3 := u2 (by omega)
        have HR3 := hide h3
        have HG3 := hide (HG2.out.trans o3.1)
        have HO3 := hide (o3.own HO2.out hgw)
        have hs3 := HG3.out.size
        clear u2 h3 o3
        by_cases hv : v = 0
        · subst hv
          have HM := hide (own_made (w := w3) (e := 3) (size := 1) (n := 7) (cs := encI (List.replicate 7 0)) (by simp [encI]) (by unfold maxLen; omega))
          have mk := make7 w3
          go_wp2_with fail
          go_ret
          refine ⟨List.replicate 7 0, some ⟨w3.heap.size, 0, none⟩, 7, by simp, fun n hn => ?_, rfl, ?_, ?_, ?_⟩
          · have := List.eq_of_mem_replicate hn
            omega
          · exact own_mono HM.out hs3
          · exact (HR3.out.grown (World.grownBy_alloc w3 _ none) (fun k hk => by cases hk)).more (by omega)
          · exact grown_alloc HG3.out _
        · have hb : (v == 0) = false := by simp [hv]
          have cc := cells2 w3 (-1) 1000
          have R4 := hide (HR3.out.grown (World.grownBy_alloc w3 (.cells #[.int .i64 (-1), .int .i64 1000] 3) none) (fun k hk => by cases hk))
          have G4 := hide (grown_alloc HG3.out (.cells #[.int .i64 (-1), .int .i64 1000] 3))
          have O4 := hide (HO3.out.alloc (.cells #[.int .i64 (-1), .int .i64 1000] 3))
          go_wp2_with fail
          refine (pick_u B g _ 2 _ R4.out (by omega)).mono ?_
          rintro e w5 ⟨v', y1, y2, _, rfl, h5, o5⟩
          have y3 := y2 (by omega)
          have HR5 := hide h5
          have HG5 := hide (G4.out.trans o5.1)
          have HO5 := hide (o5.own O4.out hgw)
          have hs5 := HG5.out.size
          have k0 := World.grownBy.cell o5.1 cc.1 (by simp; omega)
          have k1 := World.grownBy.cell o5.1 cc.2 (by simp; omega)
          obtain ⟨q, rfl⟩ := Int.eq_ofNat_of_zero_le y1
          obtain ⟨x, hx, kq⟩ : ∃ x : Int, (-1 ≤ x ∧ x ≤ 1000) ∧ w5.cell? ⟨w3.heap.size, q, none⟩ = some (.int .i64 x) := by
            rcases (by omega : q = 0 ∨ q = 1) with rfl | rfl
            · exact ⟨-1, by omega, k0⟩
            · exact ⟨1000, by omega, k1⟩
          clear y2 h5 o5 cc k0 k1
          have y4 : (q : Int) < 2 := by omega
          have O6 := hide (HO5.out.alloc (.cells #[.int .i64 x] 3))
          have N6 := hide (World.ownsRow_lit (base := w.heap.size) (e := 3) (size := 1) w5 #[.int .i64 x] 1 hs5 (by unfold maxLen; omega) rfl)
          have G6 := hide (grown_alloc HG5.out (.cells #[.int .i64 x] 3))
          have R6 := hide (HR5.out.grown (World.grownBy_alloc w5 (.cells #[.int .i64 x] 3) none) (fun k hk => by cases hk))
          go_wp2_with (at_builtin; refine app_ints _ rfl (.tmp 31) (.tmp 32) rfl w.heap.size _ 1 1 [x] rfl N6.out _ D xs.length d xs rfl (Sl.of_own O6.out) (by simp; omega) (by omega) (by omega) ?_; intro D2 d2 w7 ho7 hg7)
          have HO7 := hide ho7
          have HG7 := hide (grown_step G6.out hg7 (own_big N6.out))
          have HR7 := hide (R6.out.grown hg7 (fun k hk => by have := own_big N6.out k hk; omega))
          clear ho7 hg7
          go_wp2_with fail
          go_ret
          have hl2 : (x :: xs).length = 1 + xs.length := by simp; omega
          refine ⟨x :: xs, D2, d2, by omega, fun n hn => ?_, by rw [hl2]; rfl, by rw [hl2]; exact HO7.out, HR7.out.more (by omega), HG7.out⟩
          rcases List.mem_cons.1 hn with h | h
          · omega
          · exact HX.out n h

end Go.Proofs.YteffcemgmabdnaaDoor
