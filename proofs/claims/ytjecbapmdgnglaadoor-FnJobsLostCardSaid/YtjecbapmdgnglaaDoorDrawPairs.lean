/-
  The reference's drawing of jobs and of plants. Of what is drawn only length and range are said.
-/
import Derived.Test.YtjecbapmdgnglaaDoorTaps
import Derived.Test.YtjecbapmdgnglaaDoorPairs
import Derived.Test.YtjecbapmdgnglaaDoorAppTwo
namespace Go.Proofs.YtjecbapmdgnglaaDoor
open Go.RowKit
set_option linter.unusedVariables false

/-- A drawn list of pairs, of the call's own. -/
def Drawn2 (e : TypeId) (B g P L : Nat) (w : World) (en : Ending) (w' : World) : Prop :=
  ∃ (xs : List (Int × Int)) (D : Option Addr) (d : Nat), xs.length ≤ L ∧ (∀ p ∈ xs, (-1 ≤ p.1 ∧ p.1 ≤ 1000) ∧ (-1 ≤ p.2 ∧ p.2 ≤ 1000)) ∧ en = .returned (.slice D xs.length d) ∧ w'.ownsRow w.heap.size e 2 (.slice D xs.length d) xs.length (enc2 xs) ∧ RdU B w' g P ∧ w.grownBy w' (some g)
theorem range_snoc {xs : List (Int × Int)} {q : Int × Int} (h : ∀ p ∈ xs, (-1 ≤ p.1 ∧ p.1 ≤ 1000) ∧ (-1 ≤ p.2 ∧ p.2 ≤ 1000)) (hq : (-1 ≤ q.1 ∧ q.1 ≤ 1000) ∧ (-1 ≤ q.2 ∧ q.2 ≤ 1000)) : ∀ p ∈ xs ++ [q], (-1 ≤ p.1 ∧ p.1 ≤ 1000) ∧ (-1 ≤ p.2 ∧ p.2 ≤ 1000) := by
  intro p hp
  rcases List.mem_append.1 hp with h1 | h1
  · exact h p h1
  · rw [List.mem_singleton.1 h1]; exact hq
theorem range_cons {xs : List (Int × Int)} {q : Int × Int} (h : ∀ p ∈ xs, (-1 ≤ p.1 ∧ p.1 ≤ 1000) ∧ (-1 ≤ p.2 ∧ p.2 ≤ 1000)) (hq : (-1 ≤ q.1 ∧ q.1 ≤ 1000) ∧ (-1 ≤ q.2 ∧ q.2 ≤ 1000)) : ∀ p ∈ q :: xs, (-1 ≤ p.1 ∧ p.1 ≤ 1000) ∧ (-1 ≤ p.2 ∧ p.2 ≤ 1000) := by
  intro p hp
  rcases List.mem_cons.1 hp with h1 | h1
  · rw [h1]; exact hq
  · exact h p h1

theorem make9Job (w : World) : (Instr.makeSlice 57 (.int .i64 9) (.int .i64 9)).run Tryd.prog w = .ok (.slice (some ⟨w.heap.size, 0, none⟩) 9 9) (w.alloc (.cells (zrow 18) 62)) :=
  run_make_z (P := Tryd.prog) 57 62 _ 2 16 Tryd.underlying57 infoJob rfl (by decide) 9 9 (by decide) (by decide) (by decide) w

theorem make9Plant (w : World) : (Instr.makeSlice 38 (.int .i64 9) (.int .i64 9)).run Tryd.prog w = .ok (.slice (some ⟨w.heap.size, 0, none⟩) 9 9) (w.alloc (.cells (zrow 18) 46)) :=
  run_make_z (P := Tryd.prog) 38 46 _ 2 16 Tryd.underlying38 infoPlant rfl (by decide) 9 9 (by decide) (by decide) (by decide) w

set_option maxHeartbeats 1000000 in
theorem l20Jobs_any (B g P : Nat) (n : Int) (w : World) (h : RdU B w g P) (hp : P ≤ 1000) (hn : n ≤ 1000000) :
    Calls Tryd.prog 90 #[.pointer (some ⟨g, 0, none⟩), .int .i64 n] w (Drawn2 62 B g (P + 30) 9 w) := by
  have hgw := h.lt
  have G0 := hide (grown_alloc (World.grownBy.refl w (some g)) (.cells #[] 62))
  have R0 := hide (h.grown (World.grownBy_alloc w (.cells #[] 62) none) (fun k hk => by cases hk))
  have HO := hide (World.ownsRow_lit (base := w.heap.size) (e := 62) (size := 2) w #[] 0 (Nat.le_refl _) (Nat.zero_le _) rfl)
  clear h
  go_enter Tryd.func90, Tryd.ntmps90
  go_wp2_with fail
  refine (pick_u B g P 9 _ R0.out (by omega)).mono ?_
  rintro e w1 ⟨v, v1, v2, _, rfl, h1, o1⟩
  have v3 := v2 (by omega)
  have HR1 := hide h1
  have HG1 := hide (G0.out.trans o1.1)
  have HO1 := hide (o1.own HO.out hgw)
  clear v2 h1 o1 HO G0 R0
  obtain ⟨m0, rfl⟩ := Int.eq_ofNat_of_zero_le v1
  go_wp2_with fail
  go_loopw [5, 6] (fun out k wr => ∃ (xs : List (Int × Int)) (D : Option Addr) (d : Nat) (m : Nat), out = .slice D xs.length d ∧ k = .int .i64 m ∧ xs.length + m ≤ 8 ∧ (∀ p ∈ xs, (-1 ≤ p.1 ∧ p.1 ≤ 1000) ∧ (-1 ≤ p.2 ∧ p.2 ≤ 1000)) ∧ wr.ownsRow w.heap.size 62 2 (.slice D xs.length d) xs.length (enc2 xs) ∧ RdU B wr g (P + 1 + 2 * xs.length) ∧ w.grownBy wr (some g)) (fun _ k _ => (intOf k).toNat)
  case atStart => exact ⟨[], _, _, m0, rfl, rfl, by simp; omega, by simp, HO1.out, HR1.out, HG1.out⟩
  case round =>
    obtain ⟨xs, D, d, m, rfl, rfl, hl, hx, ho, hr, hg⟩ := hrel
    have HX := hide hx
    have HO := hide ho
    have HG := hide hg
    clear hx ho hg
    by_cases hm : 0 < m
    · go_wp2_with fail
      refine (pick_u B g _ 9 _ hr (by omega)).mono ?_
      rintro e w2 ⟨v, u1, u2, _, rfl, h2, o2⟩
      have u3 := u2 (by omega)
      have HR2 := hide h2
      have HG2 := hide (HG.out.trans o2.1)
      have HO2 := hide (o2.own HO.out hgw)
      clear u2 h2 o2
      go_wp2_with fail
      refine (pick_u B g _ 12 _ HR2.out (by omega)).mono ?_
      rintro e w3 ⟨v', y1, y2, _, rfl, h3, o3⟩
      have y3 := y2 (by omega)
      have HR3 := hide h3
      have HG3 := hide (HG2.out.trans o3.1)
      have HO3 := hide (o3.own HO2.out hgw)
      have hs3 := HG3.out.size
      clear y2 h3 o3
      go_wp2_with (at_builtin; refine app_two 57 62 Tryd.underlying57 infoJob w3 rfl (.tmp 14) (.tmp 21) rfl w.heap.size D xs.length d xs (1 + v, v') rfl HO3.out w3.heap.size rfl rfl hs3 (by omega) ?_; intro D2 d2 w4 ho4 hg4)
      have HO4 := hide ho4
      have HG4 := hide (grown_step HG3.out hg4 (own_big HO3.out))
      have HR4 := hide (HR3.out.grown hg4 (fun k hk => by have := own_big HO3.out k hk; omega))
      clear ho4 hg4
      go_roundw
      case rel => exact ⟨xs ++ [(1 + v, v')], D2, d2, m - 1, by simp, by go_num, by simp; omega, range_snoc HX.out (by simp; omega), by simpa using HO4.out, HR4.out.more (by simp; omega), HG4.out⟩
      case measure => simp [intOf]; omega
    · obtain rfl : m = 0 := by omega
      go_wp2_with fail
      refine (odd_u B g _ n _ hr (by omega) hn).mono ?_
      rintro e w2 ⟨b, rfl, h2, o2⟩
      have HR2 := hide h2
      have HG2 := hide (HG.out.trans o2.1)
      have HO2 := hide (o2.own HO.out hgw)
      have hs2 := HG2.out.size
      clear h2 o2 hr
      cases b
      · go_wp2_with fail
        go_ret
        exact ⟨xs, D, d, by omega, HX.out, rfl, HO2.out, HR2.out.more (by omega), HG2.out⟩
      · go_wp2_with fail
        refine (pick_u B g _ 3 _ HR2.out (by omega)).mono ?_
        rintro e w3 ⟨v, u1, u2, _, rfl, h3, o3⟩
        have u3 := u2 (by omega)
        have HR3 := hide h3
        have HG3 := hide (HG2.out.trans o3.1)
        have HO3 := hide (o3.own HO2.out hgw)
        have hs3 := HG3.out.size
        clear u2 h3 o3
        rcases (by omega : v = 0 ∨ v = 1 ∨ v = 2) with rfl | rfl | rfl
        · have HM := hide (own_made (w := w3) (e := 62) (size := 2) (n := 9) (cs := enc2 (List.replicate 9 (0, 0))) (by simp [enc2]) (by unfold maxLen; omega))
          have mk := make9Job w3
          go_wp2_with fail
          go_ret
          refine ⟨List.replicate 9 (0, 0), some ⟨w3.heap.size, 0, none⟩, 9, by simp, fun p hp => ?_, rfl, ?_, ?_, ?_⟩
          · have := List.eq_of_mem_replicate hp
            subst this
            simp
          · exact own_mono HM.out hs3
          · exact (HR3.out.grown (World.grownBy_alloc w3 _ none) (fun k hk => by cases hk)).more (by omega)
          · exact grown_alloc HG3.out _
        · have O6 := hide (HO3.out.alloc (.cells #[.int .i64 0, .int .i64 1] 62))
          have N6 := hide (World.ownsRow_lit (base := w.heap.size) (e := 62) (size := 2) w3 #[.int .i64 0, .int .i64 1] 1 hs3 (by unfold maxLen; omega) rfl)
          have G6 := hide (grown_alloc HG3.out (.cells #[.int .i64 0, .int .i64 1] 62))
          have R6 := hide (HR3.out.grown (World.grownBy_alloc w3 (.cells #[.int .i64 0, .int .i64 1] 62) none) (fun k hk => by cases hk))
          go_wp2_with (at_builtin; refine app_twos 57 62 Tryd.underlying57 infoJob _ rfl (.tmp 38) (.tmp 39) rfl w.heap.size _ 1 1 [(0, 1)] rfl N6.out _ D xs.length d xs rfl (Sl.of_own O6.out) (by simp; omega) (by omega) (by omega) ?_; intro D2 d2 w7 ho7 hg7)
          have HO7 := hide ho7
          have HG7 := hide (grown_step G6.out hg7 (own_big N6.out))
          have HR7 := hide (R6.out.grown hg7 (fun k hk => by have := own_big N6.out k hk; omega))
          clear ho7 hg7
          go_wp2_with fail
          go_ret
          have hl2 : ((0, 1) :: xs).length = 1 + xs.length := by simp; omega
          exact ⟨(0, 1) :: xs, D2, d2, by omega, range_cons HX.out (by simp), by rw [hl2]; rfl, by rw [hl2]; exact HO7.out, HR7.out.more (by omega), HG7.out⟩
        · have O6 := hide (HO3.out.alloc (.cells #[.int .i64 1, .int .i64 (-1)] 62))
          have N6 := hide (World.ownsRow_lit (base := w.heap.size) (e := 62) (size := 2) w3 #[.int .i64 1, .int .i64 (-1)] 1 hs3 (by unfold maxLen; omega) rfl)
          have G6 := hide (grown_alloc HG3.out (.cells #[.int .i64 1, .int .i64 (-1)] 62))
          have R6 := hide (HR3.out.grown (World.grownBy_alloc w3 (.cells #[.int .i64 1, .int .i64 (-1)] 62) none) (fun k hk => by cases hk))
          go_wp2_with (at_builtin; refine app_twos 57 62 Tryd.underlying57 infoJob _ rfl (.tmp 29) (.tmp 30) rfl w.heap.size _ 1 1 [(1, (-1))] rfl N6.out _ D xs.length d xs rfl (Sl.of_own O6.out) (by simp; omega) (by omega) (by omega) ?_; intro D2 d2 w7 ho7 hg7)
          have HO7 := hide ho7
          have HG7 := hide (grown_step G6.out hg7 (own_big N6.out))
          have HR7 := hide (R6.out.grown hg7 (fun k hk => by have := own_big N6.out k hk; omega))
          clear ho7 hg7
          go_wp2_with fail
          go_ret
          have hl2 : ((1, (-1)) :: xs).length = 1 + xs.length := by simp; omega
          exact ⟨(1, (-1)) :: xs, D2, d2, by omega, range_cons HX.out (by simp), by rw [hl2]; rfl, by rw [hl2]; exact HO7.out, HR7.out.more (by omega), HG7.out⟩

theorem set_grown (w : World) (b o : Nat) (v : Value) : w.grownBy (w.setCell ⟨b, o, none⟩ v) (some b) :=
  ⟨rfl, rfl, rfl, by simp [World.setCell], fun i hi hne => Below.heap_setCell w ⟨b, o, none⟩ v i (fun e => hne (by rw [e]))⟩
theorem own_off {w : World} {base e size n : Nat} {v : Value} {cs : List Value} (ho : w.ownsRow base e size v n cs) : v.ownBlock = none ∨ v.ownBlock ≠ some w.heap.size := by
  cases hv : v.ownBlock with
  | none => exact .inl rfl
  | some k => exact .inr fun he => by have := (ho.lt k hv).2; injection he; omega

set_option maxHeartbeats 1000000 in
theorem l20Plants_any (B g P : Nat) (n : Int) (w : World) (h : RdU B w g P) (hp : P ≤ 1000) (hn : n ≤ 1000000) :
    Calls Tryd.prog 82 #[.pointer (some ⟨g, 0, none⟩), .int .i64 n] w (Drawn2 46 B g (P + 60) 9 w) := by
  have hgw := h.lt
  have G0 := hide (grown_alloc (World.grownBy.refl w (some g)) (.cells #[] 46))
  have R0 := hide (h.grown (World.grownBy_alloc w (.cells #[] 46) none) (fun k hk => by cases hk))
  have HO := hide (World.ownsRow_lit (base := w.heap.size) (e := 46) (size := 2) w #[] 0 (Nat.le_refl _) (Nat.zero_le _) rfl)
  clear h
  go_enter Tryd.func82, Tryd.ntmps82
  go_wp2_with fail
  refine (pick_u B g P 9 _ R0.out (by omega)).mono ?_
  rintro e w1 ⟨v, v1, v2, _, rfl, h1, o1⟩
  have v3 := v2 (by omega)
  have HR1 := hide h1
  have HG1 := hide (G0.out.trans o1.1)
  have HO1 := hide (o1.own HO.out hgw)
  clear v2 h1 o1 HO G0 R0
  obtain ⟨m0, rfl⟩ := Int.eq_ofNat_of_zero_le v1
  go_wp2_with fail
  go_loopw [5, 6, 7] (fun out k _ wr => ∃ (xs : List (Int × Int)) (D : Option Addr) (d : Nat) (m : Nat), out = .slice D xs.length d ∧ k = .int .i64 m ∧ xs.length + m ≤ 8 ∧ (∀ p ∈ xs, (-1 ≤ p.1 ∧ p.1 ≤ 1000) ∧ (-1 ≤ p.2 ∧ p.2 ≤ 1000)) ∧ wr.ownsRow w.heap.size 46 2 (.slice D xs.length d) xs.length (enc2 xs) ∧ RdU B wr g (P + 1 + 5 * xs.length) ∧ w.grownBy wr (some g)) (fun _ k _ _ => (intOf k).toNat)
  case atStart => exact ⟨[], _, _, m0, rfl, rfl, by simp; omega, by simp, HO1.out, HR1.out, HG1.out⟩
  case round =>
    obtain ⟨xs, D, d, m, rfl, rfl, hl, hx, ho, hr, hg⟩ := hrel
    have HX := hide hx
    have HO := hide ho
    have HG := hide hg
    clear hx ho hg
    by_cases hm : 0 < m
    · go_wp2_with fail
      refine (pick_u B g _ 30 _ hr (by omega)).mono ?_
      rintro e w2 ⟨v, u1, u2, _, rfl, h2, o2⟩
      have u3 := u2 (by omega)
      have HR2 := hide h2
      have HG2 := hide (HG.out.trans o2.1)
      have HO2 := hide (o2.own HO.out hgw)
      clear u2 h2 o2
      go_wp2_with fail
      refine (pick_u B g _ 15 _ HR2.out (by omega)).mono ?_
      rintro e w3 ⟨v', y1, y2, _, rfl, h3, o3⟩
      have y3 := y2 (by omega)
      have HR3 := hide h3
      have HG3 := hide (HG2.out.trans o3.1)
      have HO3 := hide (o3.own HO2.out hgw)
      have hs3 := HG3.out.size
      clear y2 h3 o3
      have BX := hide (Blk.new w3 46 #[.int .i64 v, .int .i64 v'])
      have R4 := hide (HR3.out.grown (World.grownBy_alloc w3 (.cells #[.int .i64 v, .int .i64 v'] 46) none) (fun k hk => by cases hk))
      have G4 := hide (grown_alloc HG3.out (.cells #[.int .i64 v, .int .i64 v'] 46))
      have O4 := hide (HO3.out.alloc (.cells #[.int .i64 v, .int .i64 v'] 46))
      go_wp2_with fail
      refine (pick_u B g _ 4 _ R4.out (by omega)).mono ?_
      rintro e w5 ⟨z, z1, z2, _, rfl, h5, o5⟩
      have z3 := z2 (by omega)
      have HR5 := hide h5
      have HG5 := hide (G4.out.trans o5.1)
      have HO5 := hide (o5.own O4.out hgw)
      have hs5 := HG5.out.size
      have B5 := hide (BX.out.grown o5.1 (by simp; omega))
      have t0 := B5.out.two
      clear z2 h5 o5
      by_cases hz : z = 0
      · subst hz
        clear t0
        go_wp2_with fail
        refine (pick_u B g _ 2 _ HR5.out (by omega)).mono ?_
        rintro e w6 ⟨a, a1, a2, _, rfl, h6, o6⟩
        have a3 := a2 (by omega)
        have HR6 := hide h6
        have HG6 := hide (HG5.out.trans o6.1)
        have HO6 := hide (o6.own HO5.out hgw)
        have B6 := hide (B5.out.grown o6.1 (by simp; omega))
        clear a2 h6 o6
        go_wp2_with fail
        refine (pick_u B g _ 4 _ HR6.out (by omega)).mono ?_
        rintro e w7 ⟨b, b1, b2, _, rfl, h7, o7⟩
        have b3 := b2 (by omega)
        have HR7 := hide h7
        have HG7 := hide (HG6.out.trans o7.1)
        have HO7 := hide (o7.own HO6.out hgw)
        have B7 := hide (B6.out.grown o7.1 (by simp; omega))
        have t7 := B7.out.two
        have f7 := B7.out.frozen 0
        clear b2 h7 o7
        rcases (by omega : a = 0 ∨ a = 1) with rfl | rfl
        · have G9 := hide (set_grown w7 w3.heap.size 0 (.int .i64 0))
          have HO9 := hide (HO7.out.kept G9.out (own_off HO3.out))
          have HG9 := hide (grown_step HG7.out G9.out (fun k hk => by injection hk; omega))
          have HR9 := hide (HR7.out.grown G9.out (fun k hk => by injection hk; omega))
          have hs9 := HG9.out.size
          have T9 := (B7.out.set_ 0 (.int .i64 0)).two
          have q1 : -1 ≤ 0 := by omega
          have q2 : 0 ≤ 1000 := by omega
          go_wp2_with (at_builtin; refine app_two 38 46 Tryd.underlying38 infoPlant _ rfl (.tmp 29) (.tmp 31) rfl w.heap.size D xs.length d xs (0, v') rfl HO9.out w7.heap.size (by simp [World.setCell]) rfl hs9 (by omega) ?_; intro D2 d2 wa hoa hga)
          have HOa := hide hoa
          have HGa := hide (grown_step HG9.out hga (own_big HO9.out))
          have HRa := hide (HR9.out.grown hga (fun k hk => by have := own_big HO9.out k hk; omega))
          clear hoa hga
          go_roundw
          case rel => exact ⟨xs ++ [(0, v')], D2, d2, m - 1, by simp, by go_num, by simp; omega, range_snoc HX.out (by simp; omega), by simpa using HOa.out, HRa.out.more (by simp; omega), HGa.out⟩
          case measure => simp [intOf]; omega
        · have G9 := hide (set_grown w7 w3.heap.size 0 (.int .i64 b))
          have HO9 := hide (HO7.out.kept G9.out (own_off HO3.out))
          have HG9 := hide (grown_step HG7.out G9.out (fun k hk => by injection hk; omega))
          have HR9 := hide (HR7.out.grown G9.out (fun k hk => by injection hk; omega))
          have hs9 := HG9.out.size
          have T9 := (B7.out.set_ 0 (.int .i64 b)).two
          have q1 : -1 ≤ b := by omega
          have q2 : b ≤ 1000 := by omega
          go_wp2_with (at_builtin; refine app_two 38 46 Tryd.underlying38 infoPlant _ rfl (.tmp 29) (.tmp 31) rfl w.heap.size D xs.length d xs (b, v') rfl HO9.out w7.heap.size (by simp [World.setCell]) rfl hs9 (by omega) ?_; intro D2 d2 wa hoa hga)
          have HOa := hide hoa
          have HGa := hide (grown_step HG9.out hga (own_big HO9.out))
          have HRa := hide (HR9.out.grown hga (fun k hk => by have := own_big HO9.out k hk; omega))
          clear hoa hga
          go_roundw
          case rel => exact ⟨xs ++ [(b, v')], D2, d2, m - 1, by simp, by go_num, by simp; omega, range_snoc HX.out (by simp; omega), by simpa using HOa.out, HRa.out.more (by simp; omega), HGa.out⟩
          case measure => simp [intOf]; omega
      · have hz' : (z == 0) = false := by simp [hz]
        have HO9 := HO5
        have HG9 := HG5
        have HR9 := HR5
        have hs9 := hs5
        have q1 : -1 ≤ v := by omega
        have q2 : v ≤ 1000 := by omega
        go_wp2_with (at_builtin; refine app_two 38 46 Tryd.underlying38 infoPlant _ rfl (.tmp 29) (.tmp 31) rfl w.heap.size D xs.length d xs (v, v') rfl HO9.out _ rfl rfl hs9 (by omega) ?_; intro D2 d2 wa hoa hga)
        have HOa := hide hoa
        have HGa := hide (grown_step HG9.out hga (own_big HO9.out))
        have HRa := hide (HR9.out.grown hga (fun k hk => by have := own_big HO9.out k hk; omega))
        clear hoa hga
        go_roundw
        case rel => exact ⟨xs ++ [(v, v')], D2, d2, m - 1, by simp, by go_num, by simp; omega, range_snoc HX.out (by simp; omega), by simpa using HOa.out, HRa.out.more (by simp; omega), HGa.out⟩
        case measure => simp [intOf]; omega
    · obtain rfl : m = 0 := by omega
      go_wp2_with fail
      refine (odd_u B g _ n _ hr (by omega) hn).mono ?_
      rintro e w2 ⟨b, rfl, h2, o2⟩
      have HR2 := hide h2
      have HG2 := hide (HG.out.trans o2.1)
      have HO2 := hide (o2.own HO.out hgw)
      have hs2 := HG2.out.size
      clear h2 o2 hr
      cases b
      · go_wp2_with fail
        go_ret
        exact ⟨xs, D, d, by omega, HX.out, rfl, HO2.out, HR2.out.more (by omega), HG2.out⟩
      · go_wp2_with fail
        refine (pick_u B g _ 3 _ HR2.out (by omega)).mono ?_
        rintro e w3 ⟨v, u1, u2, _, rfl, h3, o3⟩
        have u3 := u2 (by omega)
        have HR3 := hide h3
        have HG3 := hide (HG2.out.trans o3.1)
        have HO3 := hide (o3.own HO2.out hgw)
        have hs3 := HG3.out.size
        clear u2 h3 o3
        rcases (by omega : v = 0 ∨ v = 1 ∨ v = 2) with rfl | rfl | rfl
        · have HM := hide (own_made (w := w3) (e := 46) (size := 2) (n := 9) (cs := enc2 (List.replicate 9 (0, 0))) (by simp [enc2]) (by unfold maxLen; omega))
          have mk := make9Plant w3
          go_wp2_with fail
          go_ret
          refine ⟨List.replicate 9 (0, 0), some ⟨w3.heap.size, 0, none⟩, 9, by simp, fun p hp => ?_, rfl, ?_, ?_, ?_⟩
          · have := List.eq_of_mem_replicate hp
            subst this
            simp
          · exact own_mono HM.out hs3
          · exact (HR3.out.grown (World.grownBy_alloc w3 _ none) (fun k hk => by cases hk)).more (by omega)
          · exact grown_alloc HG3.out _
        · have O6 := hide (HO3.out.alloc (.cells #[.int .i64 (-1), .int .i64 0] 46))
          have N6 := hide (World.ownsRow_lit (base := w.heap.size) (e := 46) (size := 2) w3 #[.int .i64 (-1), .int .i64 0] 1 hs3 (by unfold maxLen; omega) rfl)
          have G6 := hide (grown_alloc HG3.out (.cells #[.int .i64 (-1), .int .i64 0] 46))
          have R6 := hide (HR3.out.grown (World.grownBy_alloc w3 (.cells #[.int .i64 (-1), .int .i64 0] 46) none) (fun k hk => by cases hk))
          go_wp2_with (at_builtin; refine app_twos 38 46 Tryd.underlying38 infoPlant _ rfl (.tmp 48) (.tmp 49) rfl w.heap.size _ 1 1 [(-1, 0)] rfl N6.out _ D xs.length d xs rfl (Sl.of_own O6.out) (by simp; omega) (by omega) (by omega) ?_; intro D2 d2 w7 ho7 hg7)
          have HO7 := hide ho7
          have HG7 := hide (grown_step G6.out hg7 (own_big N6.out))
          have HR7 := hide (R6.out.grown hg7 (fun k hk => by have := own_big N6.out k hk; omega))
          clear ho7 hg7
          go_wp2_with fail
          go_ret
          have hl2 : ((-1, 0) :: xs).length = 1 + xs.length := by simp; omega
          exact ⟨(-1, 0) :: xs, D2, d2, by omega, range_cons HX.out (by simp), by rw [hl2]; rfl, by rw [hl2]; exact HO7.out, HR7.out.more (by omega), HG7.out⟩
        · have O6 := hide (HO3.out.alloc (.cells #[.int .i64 0, .int .i64 1000] 46))
          have N6 := hide (World.ownsRow_lit (base := w.heap.size) (e := 46) (size := 2) w3 #[.int .i64 0, .int .i64 1000] 1 hs3 (by unfold maxLen; omega) rfl)
          have G6 := hide (grown_alloc HG3.out (.cells #[.int .i64 0, .int .i64 1000] 46))
          have R6 := hide (HR3.out.grown (World.grownBy_alloc w3 (.cells #[.int .i64 0, .int .i64 1000] 46) none) (fun k hk => by cases hk))
          go_wp2_with (at_builtin; refine app_twos 38 46 Tryd.underlying38 infoPlant _ rfl (.tmp 39) (.tmp 40) rfl w.heap.size _ 1 1 [(0, 1000)] rfl N6.out _ D xs.length d xs rfl (Sl.of_own O6.out) (by simp; omega) (by omega) (by omega) ?_; intro D2 d2 w7 ho7 hg7)
          have HO7 := hide ho7
          have HG7 := hide (grown_step G6.out hg7 (own_big N6.out))
          have HR7 := hide (R6.out.grown hg7 (fun k hk => by have := own_big N6.out k hk; omega))
          clear ho7 hg7
          go_wp2_with fail
          go_ret
          have hl2 : ((0, 1000) :: xs).length = 1 + xs.length := by simp; omega
          exact ⟨(0, 1000) :: xs, D2, d2, by omega, range_cons HX.out (by simp), by rw [hl2]; rfl, by rw [hl2]; exact HO7.out, HR7.out.more (by omega), HG7.out⟩

end Go.Proofs.YtjecbapmdgnglaaDoor
