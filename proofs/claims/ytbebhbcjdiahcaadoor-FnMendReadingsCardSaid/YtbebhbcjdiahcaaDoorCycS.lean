/-
  Cycles: what the reference's functions compute.
-/
import Derived.Test.YtbebhbcjdiahcaaDoorIsland
import Derived.Test.YtbebhbcjdiahcaaDoorAppAny
import Derived.Deep.RegionHeld3
namespace Go.Proofs.YtbebhbcjdiahcaaDoor
open Go.RowKit
set_option linter.unusedVariables false

theorem encB_oneK (xs : List Bool) : ∀ u ∈ encB xs, u.oneCell' = true := by
  intro u hu
  simp [encB] at hu
  rcases hu with ⟨_, rfl⟩ | ⟨_, rfl⟩ <;> rfl
theorem app_boolsK {ops : Array Oper} {rest : List Oper} {o : Oper} {a : Act} {Q : Exit → Act → World → Prop} (wr : World) (hw : Region.wanted o (yielded ops a.tmps) = true) (s x : Operand)
    (ho : o.op = .call { callee := .builtin .append, args := #[s, x], argTypes := #[26, 26] })
    (base : Nat) (A : Option Addr) (n c : Nat) (ord : List Bool) (hs : a.eval s = .slice A n c) (hown : wr.ownsRow base 4 1 (.slice A n c) n (encB ord))
    (B : Nat) (A2 : Option Addr) (m c2 : Nat) (ys : List Bool) (hx : a.eval x = .slice A2 m c2) (hr : Sl wr B 1 A2 m (encB ys))
    (hb : base ≤ wr.heap.size) (hn : n ≤ 1048576) (hm : m ≤ 1048576)
    (h : ∀ D d w', w'.ownsRow base 4 1 (.slice D (n + m) d) (n + m) (encB (ord ++ ys)) → wr.grownBy w' (Value.slice A n c).ownBlock → wpList Tryd.prog ops Q rest (a.put o.dst (.slice D (n + m) d)) w') :
    wpList Tryd.prog ops Q (o :: rest) a wr := by
  obtain ⟨i0, hi, hz0, hz1, hz2⟩ := info_parts infoB
  refine wpList_append_any wr hw s x 26 ho base 4 i0 (.bool false) 1 1 Tryd.underlying26 hi hz0 hz1 hz2 rfl (by decide) (.slice A n c) n (encB ord) hs hown B A2 m c2 (encB ys) hx hr (encB_oneK ys) (by unfold maxLen; omega) (by omega) hb ?_
  intro v' w' ho' hg
  obtain ⟨D, d, rfl, _, _⟩ := own_slice ho'
  exact h D d w' (by rw [show encB (ord ++ ys) = encB ord ++ encB ys by simp [encB]]; exact ho') hg

theorem l2Copy_any (A : Option Addr) (n c : Nat) (xs : List Bool) (w : World) (h : Sl w w.heap.size 1 A n (encB xs)) (hm : n ≤ 1048576) :
    Calls Tryd.prog 85 #[.slice A n c] w fun e w' => ∃ D d, e = .returned (.slice D n d) ∧ w'.ownsRow w.heap.size 4 1 (.slice D n d) n (encB xs) ∧ Below w.heap.size w w' := by
  have N6 := hide (World.ownsRow_lit (base := w.heap.size) (e := 4) (size := 1) w #[] 0 (Nat.le_refl _) (Nat.zero_le _) rfl)
  have B6 := (Below.refl w.heap.size w).alloc (Nat.le_refl _) (.cells #[] 4)
  have S6 := hide (h.below B6)
  go_enter Tryd.func85, Tryd.ntmps85
  go_wp2_with (at_builtin; refine app_boolsK _ rfl (.tmp 3) (.tmp 4) rfl w.heap.size _ 0 0 [] rfl N6.out _ A n c xs rfl S6.out (by simp) (by omega) (by omega) ?_; intro D2 d2 w7 ho7 hg7)
  go_wp2_with fail
  go_ret
  refine ⟨D2, d2, by simp, by simpa using ho7, B6.trans (grown_below N6.out hg7 (by simp))⟩

theorem specSwitchLine_any (nb k : Nat) (t : Bool) (A D : Option Addr) (c d : Nat) (ls : List (Int × Int × Int)) (on : List Bool) (w : World) (h : Sl w w.heap.size 3 A ls.length (enc3 ls)) (g : Sl w w.heap.size 1 D ls.length (encB on)) (hl : on.length = ls.length) (hv : netB nb ls = true) (hk : k < ls.length) :
    Calls Tryd.prog 75 #[.agg #[.int .i64 nb, .slice A ls.length c], .slice D ls.length d, .int .i64 k, .bool t] w fun e w' => ∃ F f, e = .returned (.tuple #[.slice F ls.length f, .bool true]) ∧ w'.ownsRow w.heap.size 4 1 (.slice F ls.length f) ls.length (encB (on.set k t)) ∧ Below w.heap.size w w' := by
  have bw := (Below.refl _ w).alloc (Nat.le_refl _) (.cells #[.int .i64 nb, .slice A ls.length c] 25)
  obtain ⟨⟨n1, n2⟩, n3⟩ := net_len hv
  have hst := st_yes hv
  have hin : inB (k : Int) 0 ((ls.length : Int) - 1) = true := inB_mk (by omega) (by omega)
  have HH := hide (h.to bw)
  have GG := hide (g.to bw)
  have K0 := hide bw
  clear h g hv bw
  go_enter Tryd.func75, Tryd.ntmps75
  go_wp2_with fail
  refine (specStateValid_any _ _ _ _ _ _ _ _ HH.out (by omega)).mono ?_
  rintro e w1 ⟨rfl, hb1⟩
  rw [hst]
  have G1 := hide (GG.out.to hb1)
  have K1 := hide (K0.out.then hb1)
  clear hb1 hst
  go_wp2_with fail
  refine (l2Copy_any _ _ _ _ _ G1.out (by omega)).mono ?_
  rintro e w2 ⟨E, f, rfl, ho, hb2⟩
  obtain ⟨q, cap, hE, _, _⟩ := ho.form (by omega)
  cases hE
  have O2 := hide ho
  have hz1 := K1.out.size
  have K2 := hide (K1.out.then hb2)
  have x1 := O2.out.cellAt k (by omega)
  rw [encB_at _ k (by omega)] at x1
  have x2 := O2.out.frozenAt k
  have q0 : (0 : Int) ≤ k := by omega
  have q1 : (k : Int) < ls.length := by omega
  have O3 := hide ((O2.out.stored k (.bool t)).1)
  rw [← encB_setK] at O3
  have hqb := (ho.lt _ rfl).1
  clear ho hb2
  go_wp2_with ((go_at_call 52; refine (l1In_any _ _ _ _).mono ?_; rintro e w' ⟨rfl, rfl⟩))
  refine bodyPost_ret (v := .tuple #[.slice (some ⟨q, 0, none⟩) ls.length f, .bool true]) (by simp [results, Tryd.results75, go_sem]) rfl ?_
  exact ⟨_, _, rfl, own_mono O3.out hz1, K2.out.setCell (by show w.heap.size ≤ q; omega) _⟩

theorem onP_off (on : List Bool) (k j : Nat) : onP (on.set k false) j ↔ onP on j ∧ j ≠ k := by
  unfold onP
  by_cases hk : k < on.length
  · rw [atB_set on k j false hk]
    by_cases hj : j = k
    · simp [hj]
    · simp [hj]
  · have he : on.set k false = on := List.set_eq_of_length_le (by omega)
    rw [he]
    refine ⟨fun h => ⟨h, ?_⟩, fun h => h.1⟩
    rintro rfl
    have : atB on j = false := by unfold atB; simp [List.getElem?_eq_none (Nat.le_of_not_lt hk)]
    rw [this] at h; cases h
/-- How far the lines on cycles are listed. -/
def CycI (ls : List (Int × Int × Int)) (on : List Bool) (k n : Nat) : Prop := n ≤ k ∧ (0 < n ↔ ∃ j, j < k ∧ onP on j ∧ Con ls (fun i => onP on i ∧ i ≠ j) (at3 ls j).1 (at3 ls j).2.1)
theorem CycI.no {ls : List (Int × Int × Int)} {on : List Bool} {k n : Nat} (h : CycI ls on k n) (hn : ¬ (onP on k ∧ Con ls (fun i => onP on i ∧ i ≠ k) (at3 ls k).1 (at3 ls k).2.1)) : CycI ls on (k + 1) n :=
  ⟨by have := h.1; omega, h.2.trans ⟨fun ⟨j, h1, h2⟩ => ⟨j, by omega, h2⟩, fun ⟨j, h1, h2⟩ => ⟨j, by
    by_cases hjk : j = k
    · subst hjk; exact absurd h2 hn
    · omega, h2⟩⟩⟩
theorem CycI.yes {ls : List (Int × Int × Int)} {on : List Bool} {k n : Nat} (h : CycI ls on k n) (hn : onP on k ∧ Con ls (fun i => onP on i ∧ i ≠ k) (at3 ls k).1 (at3 ls k).2.1) : CycI ls on (k + 1) (n + 1) :=
  ⟨by have := h.1; omega, fun _ => ⟨k, by omega, hn⟩, fun _ => by omega⟩

set_option maxHeartbeats 2000000 in
theorem cycleLines_any (nb : Nat) (A D : Option Addr) (c d : Nat) (ls : List (Int × Int × Int)) (on : List Bool) (w : World) (h : Sl w w.heap.size 3 A ls.length (enc3 ls)) (g : Sl w w.heap.size 1 D ls.length (encB on)) (hl : on.length = ls.length) (hv : netB nb ls = true) :
    Calls Tryd.prog 56 #[.agg #[.int .i64 nb, .slice A ls.length c], .slice D ls.length d] w (MadeInts (fun ord => CycI ls on ls.length ord.length) w) := by
  have hsz : (w.alloc (.cells #[.int .i64 nb, .slice A ls.length c] 25)).heap.size = w.heap.size + 1 := by simp
  have B0 := hide ((Blk.new w 25 #[.int .i64 nb, .slice A ls.length c]).alloc (.cells #[] 3))
  have K0 := hide (((Below.refl _ w).alloc (Nat.le_refl _) (.cells #[.int .i64 nb, .slice A ls.length c] 25)).alloc (by omega) (.cells #[] 3))
  have ho0 := World.ownsRow_lit (base := w.heap.size + 1) (e := 3) (size := 1) (w.alloc (.cells #[.int .i64 nb, .slice A ls.length c] 25)) #[] 0 (by simp) (by unfold maxLen; omega) rfl
  rw [hsz] at ho0
  have hz0 : ((w.alloc (.cells #[.int .i64 nb, .slice A ls.length c] 25)).alloc (.cells #[] 3)).heap.size = w.heap.size + 2 := by simp
  obtain ⟨⟨n1, n2⟩, n3⟩ := net_len hv
  have hst := st_yes hv
  have HV := hide hv
  have HH := hide h
  have GG := hide g
  have HO0 := hide ho0
  clear hv h g ho0 hsz
  go_enter Tryd.func56, Tryd.ntmps56
  go_wp2_with fail
  go_loopw [5, 6] (fun o x wr => ∃ (k : Nat) (ord : List Int) (E : Option Addr) (f : Nat), k ≤ ls.length ∧ o = .slice E ord.length f ∧ x = .int .i64 k ∧ w.heap.size + 2 ≤ wr.heap.size ∧ Hid (CycI ls on k ord.length) ∧ Hid (wr.ownsRow (w.heap.size + 1) 3 1 (.slice E ord.length f) ord.length (encI ord)) ∧ Hid (Blk wr w.heap.size 25 #[.int .i64 nb, .slice A ls.length c]) ∧ Hid (Below w.heap.size w wr)) (fun _ x _ => ls.length - (intOf x).toNat)
  case atStart => exact ⟨0, [], _, 0, Nat.zero_le _, rfl, rfl, by omega, hide ⟨Nat.le_refl _, ⟨fun h => absurd h (by simp), fun ⟨j, h, _⟩ => absurd h (by omega)⟩⟩, HO0, B0, K0⟩
  case round =>
    clear B0 K0 HO0 hz0
    obtain ⟨k, ord, E, f, hk, rfl, rfl, hz, HI, HO, HB, HK⟩ := hrel
    have hbl := HI.out.1
    obtain ⟨g0, g1⟩ := HB.out.two
    have H1 := hide (HH.out.to HK.out)
    have G1 := hide (GG.out.to HK.out)
    by_cases hkl : k < ls.length
    · go_wp2_with fail
      refine (specStateValid_any _ _ _ _ _ _ _ _ H1.out (by omega)).mono ?_
      rintro e w2 ⟨rfl, hb2⟩
      rw [hst]
      have H2 := hide (H1.out.to hb2)
      have G2 := hide (G1.out.to hb2)
      have O2 := hide (HO.out.keepB hb2)
      have B2 := hide (HB.out.to hb2)
      have K2 := hide (HK.out.then hb2)
      have hz2 := hb2.size
      clear hb2 H1 G1 HO HB HK g0 g1
      obtain ⟨g0, g1⟩ := B2.out.two
      go_wp2_with fail
      refine (specSwitchLine_any nb k false _ _ _ _ ls on w2 H2.out G2.out hl HV.out hkl).mono ?_
      rintro e w3 ⟨F, fc, rfl, ho3, hb3⟩
      have hz3 := hb3.size
      have H4 := hide (H2.out.to hb3)
      have G4 := hide (Sl.of_own ho3)
      have O3 := hide (O2.out.keepB hb3)
      have B3 := hide (B2.out.to hb3)
      have K3 := hide (K2.out.then hb3)
      clear hb3 ho3 H2 G2 O2 B2 K2 g0 g1
      obtain ⟨b0, o0, rfl, hb, hd0, hd1, hd2⟩ := HH.out.three k hkl
      obtain ⟨b1, o1, rfl, hb1, he⟩ := GG.out.boolL hl k hkl
      have d0 := (K3.out.cell (p := ⟨b0, o0 + k * 3, none⟩) hb).trans hd0
      have d1 := (K3.out.cell (p := ⟨b0, o0 + k * 3 + 1, none⟩) hb).trans hd1
      have e0 := (K3.out.cell (p := ⟨b1, o1 + k, none⟩) hb1).trans he
      obtain ⟨m1, m2, m3, m4⟩ := net_at HV.out k hkl
      obtain ⟨x, hx⟩ := Int.eq_ofNat_of_zero_le m1.1
      obtain ⟨y, hy⟩ := Int.eq_ofNat_of_zero_le m2.1
      have HX := hide hx
      have HY := hide hy
      have hxn : x < nb := by omega
      have hyn2 : 0 ≤ (y : Int) ∧ (y : Int) < nb := by omega
      have q0 : (0 : Int) ≤ k := by omega
      have q1 : (k : Int) < ls.length := by omega
      rw [hx] at d0
      rw [hy] at d1
      obtain ⟨g0, g1⟩ := B3.out.two
      have HCI : Hid (conB ls (on.set k false) x y = true ↔ Con ls (fun i => onP on i ∧ i ≠ k) (at3 ls k).1 (at3 ls k).2.1) := hide (by
        rw [conB_iff, HX.out, HY.out]
        exact ⟨fun h => h.mono fun j _ hj => (onP_off on k j).1 hj, fun h => h.mono fun j _ hj => (onP_off on k j).2 hj⟩)
      clear hd0 hd1 hd2 he m1 m2 m3 m4 hx hy
      have hz4 : w.heap.size + 2 ≤ w3.heap.size := by omega
      cases hon : atB on k
      · have HON := hide hon
        rw [hon] at e0
        clear hon
        go_wp2_with fail
        go_quiet (fail)
        go_wp2_with fail
        go_roundw
        case rel => exact ⟨k + 1, ord, E, f, by omega, rfl, by go_num, by simpa using hz4, hide (HI.out.no fun h => by have := h.1; unfold onP at this; rw [HON.out] at this; cases this), hide O3.out, hide (B3.out.drewN _), hide (below_drewN K3.out _)⟩
        case measure => simp [intOf]; omega
      · have HON := hide hon
        rw [hon] at e0
        clear hon
        cases hc : conB ls (on.set k false) x y
        · have HC := hide hc
          go_wp2_with fail
          go_region_held3 (fun w' => w'.cell? ⟨w.heap.size, 0, none⟩ = some (.int .i64 nb) ∧ w'.cell? ⟨w.heap.size, 1, none⟩ = some (.slice (some ⟨b0, o0, none⟩) ls.length c) ∧ w'.cell? ⟨b0, o0 + k * 3, none⟩ = some (.int .i64 x) ∧ w'.cell? ⟨b0, o0 + k * 3 + 1, none⟩ = some (.int .i64 y) ∧ w'.cell? ⟨b1, o1 + k, none⟩ = some (.bool true))
            (first | go_keep | (refine ⟨cellk hb5 ?_, cellk hb5 ?_, cellk hb5 ?_, cellk hb5 ?_, cellk hb5 ?_⟩ <;> go_keep))
            ((go_at_call 32; refine (sameIsland_any nb x y _ _ _ _ ls (on.set k false) _ ?_ ?_ (by simpa using hl) HV.out hxn hyn2).mono ?_; exact H4.out; exact G4.out; rintro e w5 ⟨rfl, hb5⟩))
          have O5 := hide ((show (w3.drew).ownsRow _ _ _ _ _ _ from O3.out).keepB hb5)
          have B5 := hide ((show Blk w3.drew _ _ _ from B3.out).to hb5)
          have K5 := hide ((K3.out.drew).then hb5)
          have hz5 : w3.heap.size ≤ w5.heap.size := hb5.size
          clear hb5 g0 g1 d0 d1 e0 hc
          go_wp2_with fail
          go_roundw
          case rel => exact ⟨k + 1, ord, E, f, by omega, rfl, by go_num, by omega, hide (HI.out.no fun h => by
              have := HCI.out.2 h.2
              rw [HC.out] at this; cases this), O5, B5, K5⟩
          case measure => simp [intOf]; omega
        · have HC := hide hc
          go_wp2_with fail
          go_region_held3 (fun w' => w'.cell? ⟨w.heap.size, 0, none⟩ = some (.int .i64 nb) ∧ w'.cell? ⟨w.heap.size, 1, none⟩ = some (.slice (some ⟨b0, o0, none⟩) ls.length c) ∧ w'.cell? ⟨b0, o0 + k * 3, none⟩ = some (.int .i64 x) ∧ w'.cell? ⟨b0, o0 + k * 3 + 1, none⟩ = some (.int .i64 y) ∧ w'.cell? ⟨b1, o1 + k, none⟩ = some (.bool true))
            (first | go_keep | (refine ⟨cellk hb5 ?_, cellk hb5 ?_, cellk hb5 ?_, cellk hb5 ?_, cellk hb5 ?_⟩ <;> go_keep))
            ((go_at_call 32; refine (sameIsland_any nb x y _ _ _ _ ls (on.set k false) _ ?_ ?_ (by simpa using hl) HV.out hxn hyn2).mono ?_; exact H4.out; exact G4.out; rintro e w5 ⟨rfl, hb5⟩))
          have O5 := hide ((show (w3.drew).ownsRow _ _ _ _ _ _ from O3.out).keepB hb5)
          have B5 := hide ((show Blk w3.drew _ _ _ from B3.out).to hb5)
          have K5 := hide ((K3.out.drew).then hb5)
          have hz5 : w3.heap.size ≤ w5.heap.size := hb5.size
          clear hb5 g0 g1 d0 d1 e0 hc
          go_wp2_with (at_builtin; refine app_int w5 rfl (.tmp 49) (.tmp 51) rfl (w.heap.size + 1) E ord.length f ord k rfl O5.out w5.heap.size rfl rfl (by omega) (by omega) ?_; intro D2 d2 w6 ho6 hg6)
          have K6 := hide (K5.out.trans ((grown_below O5.out hg6 (by omega)).mono (by omega)))
          have B6 := hide (B5.out.below (grown_below O5.out hg6 (by omega)) (by omega))
          have O6 := hide ho6
          have hs6 := hg6.size
          clear ho6 hg6
          go_roundw
          case rel => exact ⟨k + 1, ord ++ [(k : Int)], D2, d2, by omega, by simp, by go_num, by omega, hide (by rw [List.length_append]; exact HI.out.yes ⟨HON.out, HCI.out.1 HC.out⟩), by simpa using O6, B6, K6⟩
          case measure => simp [intOf]; omega
    · obtain rfl : k = ls.length := by omega
      go_wp2_with fail
      go_ret
      exact ⟨ord, E, f, HI.out, rfl, own_mono HO.out (by omega), HK.out⟩

end Go.Proofs.YtbebhbcjdiahcaaDoor
