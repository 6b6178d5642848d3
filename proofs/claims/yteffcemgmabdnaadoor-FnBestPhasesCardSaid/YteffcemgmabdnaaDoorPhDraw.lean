/-
  The reference's drawing of loads with phases. Of what is drawn only length and range are said.
-/
import Derived.Test.YteffcemgmabdnaaDoorTaps
namespace Go.Proofs.YteffcemgmabdnaaDoor
open Go.RowKit
set_option linter.unusedVariables false

/-- Two drawn lists of numbers, of the call's own. -/
def Drawn2I (B g P : Nat) (w : World) (e : Ending) (w' : World) : Prop :=
  ∃ (xs ys : List Int) (D : Option Addr) (d : Nat) (E : Option Addr) (f : Nat), xs.length ≤ 7 ∧ ys.length ≤ 8 ∧ (∀ n ∈ xs, -1 ≤ n ∧ n ≤ 1000) ∧ (∀ n ∈ ys, -1 ≤ n ∧ n ≤ 3) ∧ e = .returned (.tuple #[.slice D xs.length d, .slice E ys.length f]) ∧
    w'.ownsRow w.heap.size 3 1 (.slice D xs.length d) xs.length (encI xs) ∧ w'.ownsRow w.heap.size 3 1 (.slice E ys.length f) ys.length (encI ys) ∧ RdU B w' g P ∧ w.grownBy w' (some g)

theorem encI_set (xs : List Int) (k : Nat) (x : Int) : (encI xs).set k (.int .i64 x) = encI (xs.set k x) := by simp [encI]

set_option maxHeartbeats 1000000 in
theorem l20Phases_any (B g P : Nat) (n : Int) (w : World) (h : RdU B w g P) (hp : P ≤ 1000) (h0 : 0 ≤ n) (hn : n ≤ 1000) :
    Calls Tryd.prog 55 #[.pointer (some ⟨g, 0, none⟩), .int .i64 n] w (Drawn2I B g (P + 40) w) := by
  have hgw := h.lt
  go_enter Tryd.func55, Tryd.ntmps55
  go_wp2_with fail
  refine (l20Taps_any B g P _ w h (by omega) (by omega)).mono ?_
  rintro e w1 ⟨xs, D, d, hxl, hxr, rfl, hox, hr1, hg1⟩
  have hs1 := hg1.size
  have HXR := hide hxr
  have G1 := hide hg1
  have OX := hide hox
  have R1 := hide (hr1.grown (World.grownBy_alloc w1 (.cells #[] 3) none) (fun k hk => by cases hk))
  have A1 := hide (World.ownsRow_lit (base := w1.heap.size) (e := 3) (size := 1) w1 #[] 0 (Nat.le_refl _) (Nat.zero_le _) rfl)
  have OX1 := hide (hox.alloc (.cells #[] 3))
  have GA := hide (grown_alloc (World.grownBy.refl w1 (some g)) (.cells #[] 3))
  clear hxr hg1 hox hr1 h
  go_wp2_with fail
  go_loopw [7, 8] (fun ph k wr => ∃ (ys : List Int) (E : Option Addr) (f : Nat), ph = .slice E ys.length f ∧ k = .int .i64 ys.length ∧ ys.length ≤ xs.length ∧ (∀ n ∈ ys, (0 : Int) ≤ n ∧ n ≤ 2) ∧ wr.ownsRow w1.heap.size 3 1 (.slice E ys.length f) ys.length (encI ys) ∧ wr.ownsRow w.heap.size 3 1 (.slice D xs.length d) xs.length (encI xs) ∧ RdU B wr g (P + 20 + ys.length) ∧ w1.grownBy wr (some g)) (fun _ k _ => xs.length - (intOf k).toNat)
  case atStart => exact ⟨[], _, _, rfl, rfl, Nat.zero_le _, by simp, A1.out, OX1.out, R1.out, GA.out⟩
  case round =>
    obtain ⟨ys, E, f, rfl, rfl, hl, hy, ho, hox, hr, hg⟩ := hrel
    have HY := hide hy
    have HO := hide ho
    have HX := hide hox
    have HG := hide hg
    clear hy ho hox hg
    by_cases hm : ys.length < xs.length
    · go_wp2_with fail
      refine (pick_u B g _ 3 _ hr (by omega)).mono ?_
      rintro e w2 ⟨v, u1, u2, _, rfl, h2, o2⟩
      have u3 := u2 (by omega)
      have HR2 := hide h2
      have HG2 := hide (HG.out.trans o2.1)
      have HO2 := hide (o2.own HO.out (by omega))
      have HX2 := hide (o2.own HX.out hgw)
      have hs2 := HG2.out.size
      clear u2 h2 o2
      go_wp2_with (at_builtin; refine app_int w2 rfl (.tmp 20) (.tmp 23) rfl w1.heap.size E ys.length f ys v rfl HO2.out w2.heap.size rfl rfl hs2 (by omega) ?_; intro D2 d2 w3 ho3 hg3)
      have HO3 := hide ho3
      have HG3 := hide (grown_step HG2.out hg3 (own_big HO2.out))
      have HR3 := hide (HR2.out.grown hg3 (fun k hk => by have := own_big HO2.out k hk; omega))
      have HX3 := hide (HX2.out.kept hg3 (own_ne OX.out HO2.out (Nat.le_refl _)))
      clear ho3 hg3
      go_roundw
      case rel =>
        refine ⟨ys ++ [v], D2, d2, by simp, by simp, by simp <;> omega, ?_, by simpa using HO3.out, HX3.out, HR3.out.more (by simp; omega), HG3.out⟩
        intro n hn
        rcases List.mem_append.1 hn with h | h
        · exact HY.out n h
        · simp at h; omega
      case measure => simp [intOf]; omega
    · go_wp2_with fail
      refine (odd_u B g _ _ _ hr (by omega) (by omega)).mono ?_
      rintro e w2 ⟨b, rfl, h2, o2⟩
      have HR2 := hide h2
      have HG2 := hide (HG.out.trans o2.1)
      have HO2 := hide (o2.own HO.out (by omega))
      have HX2 := hide (o2.own HX.out hgw)
      have hs2 := HG2.out.size
      clear h2 o2 hr
      cases b
      · by_cases hz : 0 < ys.length
        · go_wp2_with fail
          refine (odd_u B g _ _ _ HR2.out (by omega) (by omega)).mono ?_
          rintro e w3 ⟨b, rfl, h3, o3⟩
          have HR3 := hide h3
          have HG3 := hide (HG2.out.trans o3.1)
          have HO3 := hide (o3.own HO2.out (by omega))
          have HX3 := hide (o3.own HX2.out hgw)
          have hs3 := HG3.out.size
          clear h3 o3
          cases b
          · go_wp2_with fail
            refine bodyPost_ret (v := .tuple #[.slice D xs.length d, .slice E ys.length f]) (by simp [results, Tryd.results55, go_sem]) rfl ?_
            exact ⟨xs, ys, D, d, E, f, hxl, by omega, HXR.out, fun n hn => by have := HY.out n hn; omega, rfl, HX3.out, own_mono HO3.out hs1, HR3.out.more (by omega), G1.out.trans HG3.out⟩
          · have cc := cells2 w3 (-1) 3
            have R4 := hide (HR3.out.grown (World.grownBy_alloc w3 (.cells #[.int .i64 (-1), .int .i64 3] 3) none) (fun k hk => by cases hk))
            have G4 := hide (grown_alloc HG3.out (.cells #[.int .i64 (-1), .int .i64 3] 3))
            have O4 := hide (HO3.out.alloc (.cells #[.int .i64 (-1), .int .i64 3] 3))
            have X4 := hide (HX3.out.alloc (.cells #[.int .i64 (-1), .int .i64 3] 3))
            go_wp2_with fail
            refine (pick_u B g _ 2 _ R4.out (by omega)).mono ?_
            rintro e w5 ⟨v', y1, y2, _, rfl, h5, o5⟩
            have y3 := y2 (by omega)
            have HR5 := hide h5
            have HG5 := hide (G4.out.trans o5.1)
            have HO5 := hide (o5.own O4.out (by omega))
            have HX5 := hide (o5.own X4.out hgw)
            have k0 := World.grownBy.cell o5.1 cc.1 (by simp; omega)
            have k1 := World.grownBy.cell o5.1 cc.2 (by simp; omega)
            obtain ⟨q, rfl⟩ := Int.eq_ofNat_of_zero_le y1
            obtain ⟨x, hx, kq⟩ : ∃ x : Int, (-1 ≤ x ∧ x ≤ 3) ∧ w5.cell? ⟨w3.heap.size, q, none⟩ = some (.int .i64 x) := by
              rcases (by omega : q = 0 ∨ q = 1) with rfl | rfl
              · exact ⟨-1, by omega, k0⟩
              · exact ⟨3, by omega, k1⟩
            clear y2 h5 o5 cc k0 k1
            have y4 : (q : Int) < 2 := by omega
            obtain ⟨gg, cap, hv, _, _⟩ := HO5.out.form hz
            cases hv
            have hf := HO5.out.frozenAt 0
            obtain ⟨u, hs⟩ := own_cell HO5.out 0 (by omega)
            have T6 := hide (HO5.out.stored 0 (.int .i64 x))
            have X6 := hide (HX5.out.kept T6.out.2 (own_ne OX.out HO5.out (Nat.le_refl _)))
            have G6 := hide (grown_step HG5.out T6.out.2 (own_big HO5.out))
            have R6 := hide (HR5.out.grown T6.out.2 (fun k hk => by have := own_big HO5.out k hk; omega))
            go_wp2_with fail
            refine bodyPost_ret (v := .tuple #[.slice D xs.length d, .slice (some ⟨gg, 0, none⟩) ys.length f]) (by simp [results, Tryd.results55, go_sem]) rfl ?_
            have hl2 : (ys.set 0 x).length = ys.length := by simp
            refine ⟨xs, ys.set 0 x, D, d, some ⟨gg, 0, none⟩, f, hxl, by omega, HXR.out, fun n hn => ?_, by rw [hl2], X6.out, own_mono ?_ hs1, R6.out.more (by omega), G1.out.trans G6.out⟩
            · rcases List.mem_or_eq_of_mem_set hn with h | h
              · have := HY.out n h; omega
              · omega
            · rw [hl2, ← encI_set]
              exact T6.out.1
        · go_wp2_with fail
          refine bodyPost_ret (v := .tuple #[.slice D xs.length d, .slice E ys.length f]) (by simp [results, Tryd.results55, go_sem]) rfl ?_
          exact ⟨xs, ys, D, d, E, f, hxl, by omega, HXR.out, fun n hn => by have := HY.out n hn; omega, rfl, HX2.out, own_mono HO2.out hs1, HR2.out.more (by omega), G1.out.trans HG2.out⟩
      · go_wp2_with fail
        refine (pick_u B g _ 5 _ HR2.out (by omega)).mono ?_
        rintro e w3 ⟨v, u1, u2, _, rfl, h3, o3⟩
        have u3 := u2 (by omega)
        have HR3 := hide h3
        have HG3 := hide (HG2.out.trans o3.1)
        have HO3 := hide (o3.own HO2.out (by omega))
        have HX3 := hide (o3.own HX2.out hgw)
        have hs3 := HG3.out.size
        clear u2 h3 o3
        go_wp2_with (at_builtin; refine app_int w3 rfl (.tmp 30) (.tmp 34) rfl w1.heap.size E ys.length f ys (v - 1) rfl HO3.out w3.heap.size rfl rfl hs3 (by omega) ?_; intro D2 d2 w4 ho4 hg4)
        have HO4 := hide ho4
        have HG4 := hide (grown_step HG3.out hg4 (own_big HO3.out))
        have HR4 := hide (HR3.out.grown hg4 (fun k hk => by have := own_big HO3.out k hk; omega))
        have HX4 := hide (HX3.out.kept hg4 (own_ne OX.out HO3.out (Nat.le_refl _)))
        clear ho4 hg4
        go_wp2_with fail
        refine bodyPost_ret (v := .tuple #[.slice D xs.length d, .slice D2 (ys.length + 1) d2]) (by simp [results, Tryd.results55, go_sem]) rfl ?_
        refine ⟨xs, ys ++ [v - 1], D, d, D2, d2, hxl, by simp; omega, HXR.out, fun n hn => ?_, by simp, HX4.out, own_mono (by simpa using HO4.out) hs1, HR4.out.more (by omega), G1.out.trans HG4.out⟩
        rcases List.mem_append.1 hn with h | h
        · have := HY.out n h; omega
        · simp at h; omega

end Go.Proofs.YteffcemgmabdnaaDoor
