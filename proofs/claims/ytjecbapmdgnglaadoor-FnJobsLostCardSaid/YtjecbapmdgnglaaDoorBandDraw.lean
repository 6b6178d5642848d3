/-
  The reference's drawing of bands of prices. Of what is drawn only length and range are said.
-/
import Derived.Test.YtjecbapmdgnglaaDoorDrawPairs
namespace Go.Proofs.YtjecbapmdgnglaaDoor
open Go.RowKit
set_option linter.unusedVariables false

theorem enc2_set0 (xs : List (Int × Int)) (h : 0 < xs.length) (a : Int) : (enc2 xs).set 0 (.int .i64 a) = enc2 (xs.set 0 (a, (at2 xs 0).2)) := by
  cases xs with
  | nil => simp at h
  | cons p t => simp [enc2, at2]
theorem enc2_set1 (xs : List (Int × Int)) (h : 0 < xs.length) (a : Int) : (enc2 xs).set 1 (.int .i64 a) = enc2 (xs.set 0 ((at2 xs 0).1, a)) := by
  cases xs with
  | nil => simp at h
  | cons p t => simp [enc2, at2]
theorem range_at {xs : List (Int × Int)} (h : ∀ p ∈ xs, (-1 ≤ p.1 ∧ p.1 ≤ 1000) ∧ (-1 ≤ p.2 ∧ p.2 ≤ 1000)) (k : Nat) (hk : k < xs.length) : (-1 ≤ (at2 xs k).1 ∧ (at2 xs k).1 ≤ 1000) ∧ (-1 ≤ (at2 xs k).2 ∧ (at2 xs k).2 ≤ 1000) := by
  rw [at2_eq xs k hk]
  exact h _ (List.getElem_mem hk)
theorem range_set {xs : List (Int × Int)} {q : Int × Int} (h : ∀ p ∈ xs, (-1 ≤ p.1 ∧ p.1 ≤ 1000) ∧ (-1 ≤ p.2 ∧ p.2 ≤ 1000)) (k : Nat) (hq : (-1 ≤ q.1 ∧ q.1 ≤ 1000) ∧ (-1 ≤ q.2 ∧ q.2 ≤ 1000)) : ∀ p ∈ xs.set k q, (-1 ≤ p.1 ∧ p.1 ≤ 1000) ∧ (-1 ≤ p.2 ∧ p.2 ≤ 1000) := by
  intro p hp
  rcases List.mem_or_eq_of_mem_set hp with h1 | h1
  · exact h p h1
  · rw [h1]; exact hq

set_option maxHeartbeats 1000000 in
theorem l20Bands_any (B g P : Nat) (n : Int) (w : World) (h : RdU B w g P) (hp : P ≤ 1000) (hn : n ≤ 1000000) :
    Calls Tryd.prog 62 #[.pointer (some ⟨g, 0, none⟩), .int .i64 n] w (Drawn2 105 B g (P + 30) 7 w) := by
  have hgw := h.lt
  go_enter Tryd.func62, Tryd.ntmps62
  go_wp2_with fail
  refine (pick_u B g P 20 _ h (by omega)).mono ?_
  rintro e w1 ⟨v, v1, v2, _, rfl, h1, o1⟩
  have v3 := v2 (by omega)
  have hs1 := o1.1.size
  have R1 := hide (h1.grown (World.grownBy_alloc w1 (.cells #[.int .i64 0, .int .i64 v] 105) none) (fun k hk => by cases hk))
  have G1 := hide (grown_alloc o1.1 (.cells #[.int .i64 0, .int .i64 v] 105))
  have A1 := hide (World.ownsRow_lit (base := w.heap.size) (e := 105) (size := 2) w1 #[.int .i64 0, .int .i64 v] 1 hs1 (by unfold maxLen; omega) rfl)
  clear v2 h1 o1 h
  go_wp2_with fail
  refine (pick_u B g _ 6 _ R1.out (by omega)).mono ?_
  rintro e w2 ⟨m, m1, m2, _, rfl, h2, o2⟩
  have m3 := m2 (by omega)
  have HR2 := hide h2
  have HG2 := hide (G1.out.trans o2.1)
  have HO2 := hide (o2.own A1.out hgw)
  clear m2 h2 o2
  obtain ⟨m0, rfl⟩ := Int.eq_ofNat_of_zero_le m1
  go_wp2_with fail
  go_loopw [5, 6, 7] (fun out from_ k wr => ∃ (xs : List (Int × Int)) (D : Option Addr) (d : Nat) (m j : Nat) (t : Int), out = .slice D xs.length d ∧ from_ = .int .i64 t ∧ (0 ≤ t ∧ t + 10 * m ≤ 60) ∧ k = .int .i64 m ∧ 0 < xs.length ∧ xs.length + m ≤ 6 ∧ j + 2 * m ≤ 12 ∧ (∀ p ∈ xs, (-1 ≤ p.1 ∧ p.1 ≤ 1000) ∧ (-1 ≤ p.2 ∧ p.2 ≤ 1000)) ∧ wr.ownsRow w.heap.size 105 2 (.slice D xs.length d) xs.length (enc2 xs) ∧ RdU B wr g (P + 2 + j) ∧ w.grownBy wr (some g)) (fun _ _ k _ => (intOf k).toNat)
  case atStart => exact ⟨[(0, v)], _, _, m0, 0, 0, rfl, rfl, by omega, rfl, by simp, by simp; omega, by omega, by simp; omega, HO2.out, HR2.out, HG2.out⟩
  case round =>
    obtain ⟨xs, D, d, m, j, t, rfl, rfl, ht, rfl, hl0, hl, hj, hx, ho, hr, hg⟩ := hrel
    have HX := hide hx
    have HO := hide ho
    have HG := hide hg
    clear hx ho hg
    by_cases hm : 0 < m
    · go_wp2_with fail
      refine (pick_u B g _ 7 _ hr (by omega)).mono ?_
      rintro e w3 ⟨u, u1, u2, _, rfl, h3, o3⟩
      have u3 := u2 (by omega)
      have HR3 := hide h3
      have HG3 := hide (HG.out.trans o3.1)
      have HO3 := hide (o3.own HO.out hgw)
      clear u2 h3 o3
      by_cases hf : t + 1 + u ≤ 23
      · go_wp2_with fail
        refine (pick_u B g _ 20 _ HR3.out (by omega)).mono ?_
        rintro e w4 ⟨y, y1, y2, _, rfl, h4, o4⟩
        have y3 := y2 (by omega)
        have HR4 := hide h4
        have HG4 := hide (HG3.out.trans o4.1)
        have HO4 := hide (o4.own HO3.out hgw)
        have hs4 := HG4.out.size
        clear y2 h4 o4
        go_wp2_with (at_builtin; refine app_two 23 105 Tryd.underlying23 infoBand w4 rfl (.tmp 25) (.tmp 30) rfl w.heap.size D xs.length d xs (t + 1 + u, y) rfl HO4.out w4.heap.size rfl rfl hs4 (by omega) ?_; intro D2 d2 w5 ho5 hg5)
        have HO5 := hide ho5
        have HG5 := hide (grown_step HG4.out hg5 (own_big HO4.out))
        have HR5 := hide (HR4.out.grown hg5 (fun k hk => by have := own_big HO4.out k hk; omega))
        clear ho5 hg5
        go_roundw
        case rel => exact ⟨xs ++ [(t + 1 + u, y)], D2, d2, m - 1, j + 2, t + 1 + u, by simp, rfl, by omega, by go_num, by simp, by simp; omega, by omega, range_snoc HX.out (by simp; omega), by simpa using HO5.out, HR5.out.more (by omega), HG5.out⟩
        case measure => simp [intOf]; omega
      · go_wp2_with fail
        go_roundw
        case rel => exact ⟨xs, D, d, m - 1, j + 1, t + 1 + u, rfl, rfl, by omega, by go_num, hl0, by omega, by omega, HX.out, HO3.out, HR3.out.more (by omega), HG3.out⟩
        case measure => simp [intOf]; omega
    · obtain rfl : m = 0 := by omega
      go_wp2_with fail
      refine (odd_u B g _ n _ hr (by omega) hn).mono ?_
      rintro e w2 ⟨b, rfl, h2, o2⟩
      have HR2 := hide h2
      have HG2 := hide (HG.out.trans o2.1)
      have HO2 := hide (o2.own HO.out hgw)
      have hs2 := HG2.out.size
      clear h2 o2 hr
      cases b
      · go_wp2_with fail
        go_ret
        exact ⟨xs, D, d, by omega, HX.out, rfl, HO2.out, HR2.out.more (by omega), HG2.out⟩
      · go_wp2_with fail
        refine (pick_u B g _ 4 _ HR2.out (by omega)).mono ?_
        rintro e w3 ⟨v, u1, u2, _, rfl, h3, o3⟩
        have u3 := u2 (by omega)
        have HR3 := hide h3
        have HG3 := hide (HG2.out.trans o3.1)
        have HO3 := hide (o3.own HO2.out hgw)
        have hs3 := HG3.out.size
        clear u2 h3 o3
        rcases (by omega : v = 0 ∨ v = 1 ∨ v = 2 ∨ v = 3) with rfl | rfl | rfl | rfl
        · have A4 := hide (World.ownsRow_lit (base := w.heap.size) (e := 105) (size := 2) w3 #[] 0 hs3 (Nat.zero_le _) rfl)
          go_wp2_with fail
          go_ret
          exact ⟨[], _, _, by simp, by simp, rfl, A4.out, (HR3.out.grown (World.grownBy_alloc w3 _ none) (fun k hk => by cases hk)).more (by omega), grown_alloc HG3.out _⟩
        · obtain ⟨gg, cap, hv, _, _⟩ := HO3.out.form hl0
          cases hv
          have hf := HO3.out.frozenAt 0
          obtain ⟨u, hs⟩ := own_cell HO3.out 0 (by omega)
          have T6 := hide (HO3.out.stored 0 (.int .i64 1))
          have G6 := hide (grown_step HG3.out T6.out.2 (own_big HO3.out))
          have R6 := hide (HR3.out.grown T6.out.2 (fun k hk => by have := own_big HO3.out k hk; omega))
          go_wp2_with fail
          go_ret
          obtain ⟨a1, a2⟩ := range_at HX.out 0 hl0
          have hl2 : (xs.set 0 (1, (at2 xs 0).2)).length = xs.length := by simp
          refine ⟨xs.set 0 (1, (at2 xs 0).2), some ⟨gg, 0, none⟩, d, by omega, range_set HX.out 0 ⟨by simp, a2⟩, by rw [hl2]; rfl, ?_, R6.out.more (by omega), G6.out⟩
          rw [hl2, ← enc2_set0 xs hl0]
          exact T6.out.1
        · obtain ⟨gg, cap, hv, _, _⟩ := HO3.out.form hl0
          cases hv
          have hf := HO3.out.frozenAt 1
          obtain ⟨u, hs⟩ := own_cell HO3.out 1 (by omega)
          have T6 := hide (HO3.out.stored 1 (.int .i64 (-1)))
          have G6 := hide (grown_step HG3.out T6.out.2 (own_big HO3.out))
          have R6 := hide (HR3.out.grown T6.out.2 (fun k hk => by have := own_big HO3.out k hk; omega))
          go_wp2_with fail
          go_ret
          obtain ⟨a1, a2⟩ := range_at HX.out 0 hl0
          have hl2 : (xs.set 0 ((at2 xs 0).1, -1)).length = xs.length := by simp
          refine ⟨xs.set 0 ((at2 xs 0).1, -1), some ⟨gg, 0, none⟩, d, by omega, range_set HX.out 0 ⟨a1, by simp⟩, by rw [hl2]; rfl, ?_, R6.out.more (by omega), G6.out⟩
          rw [hl2, ← enc2_set1 xs hl0]
          exact T6.out.1
        · go_wp2_with (at_builtin; refine app_two 23 105 Tryd.underlying23 infoBand w3 rfl (.tmp 37) (.tmp 39) rfl w.heap.size D xs.length d xs (24, 0) rfl HO3.out w3.heap.size rfl rfl hs3 (by omega) ?_; intro D2 d2 w5 ho5 hg5)
          have HO5 := hide ho5
          have HG5 := hide (grown_step HG3.out hg5 (own_big HO3.out))
          have HR5 := hide (HR3.out.grown hg5 (fun k hk => by have := own_big HO3.out k hk; omega))
          clear ho5 hg5
          go_wp2_with fail
          go_ret
          exact ⟨xs ++ [(24, 0)], D2, d2, by simp; omega, range_snoc HX.out (by simp), by simp, by simpa using HO5.out, HR5.out.more (by omega), HG5.out⟩

end Go.Proofs.YtjecbapmdgnglaaDoor
