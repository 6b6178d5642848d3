/-
  The reference's drawing of bands, an hour and uses; and the plain laws of bills: two parts together, and twice as many days.
-/
import Derived.Test.YtjecbapmdgnglaaDoorFnPrice
namespace Go.Proofs.YtjecbapmdgnglaaDoor
open Go.RowKit
set_option linter.unusedVariables false

theorem billOk_parts {xs : List (Int × Int)} {z : Int} {us : List Int} (h : billOk xs z us = true) : bandsB xs = true ∧ (0 ≤ z ∧ z ≤ 23) ∧ us.length ≤ 100 ∧ ∀ u ∈ us, 0 ≤ u ∧ u ≤ 999 := by
  simp only [billOk, Bool.and_eq_true, decide_eq_true_eq, List.all_eq_true] at h
  obtain ⟨⟨⟨h1, h2⟩, h3⟩, h4⟩ := h
  exact ⟨h1, inB_true h2, h3, fun u hu => inB_true (h4 u hu)⟩
theorem billOk_mk {xs : List (Int × Int)} {z : Int} {us : List Int} (h1 : bandsB xs = true) (h2 : 0 ≤ z ∧ z ≤ 23) (h3 : us.length ≤ 100) (h4 : ∀ u ∈ us, 0 ≤ u ∧ u ≤ 999) : billOk xs z us = true :=
  billOk_yes h1 (inB_mk h2.1 h2.2) h3 fun j hj => by
    have := h4 _ (mem_at j hj)
    exact inB_mk this.1 this.2
theorem billB_yes {xs : List (Int × Int)} {z : Int} {us : List Int} (h : billOk xs z us = true) : billB xs z us = billF xs z us us.length := by
  unfold billB
  rw [h]
  rfl
theorem bill_bd {xs : List (Int × Int)} {z : Int} {us : List Int} (h : billOk xs z us = true) : 0 ≤ billB xs z us ∧ billB xs z us ≤ 99800100 := by
  obtain ⟨h1, h2, h3, h4⟩ := billOk_parts h
  have := billF_in (start := z) h1 us.length fun j hj => by
    have := h4 _ (mem_at j hj)
    exact inB_mk this.1 this.2
  rw [billB_yes h]
  omega
theorem billF_succ (xs : List (Int × Int)) (z : Int) (us : List Int) (k : Nat) : billF xs z us (k + 1) = billF xs z us k + at_ us k * prF xs ((z + k) % 24) xs.length := rfl
theorem billF_take (xs : List (Int × Int)) (z : Int) (us : List Int) (h k : Nat) (hk : k ≤ h) : billF xs z (us.take h) k = billF xs z us k := by
  induction k with
  | zero => rfl
  | succ k ih =>
    unfold billF
    rw [ih (by omega), at_take us h k (by omega)]
theorem at_drop (xs : List Int) (k j : Nat) : at_ (xs.drop k) j = at_ xs (k + j) := by simp [at_]
theorem billF_drop (xs : List (Int × Int)) (z : Int) (us : List Int) (h k : Nat) : billF xs z us h + billF xs ((z + h) % 24) (us.drop h) k = billF xs z us (h + k) := by
  induction k with
  | zero => simp [billF]
  | succ k ih =>
    have e : ((z + h) % 24 + (k : Int)) % 24 = (z + ((h + k : Nat) : Int)) % 24 := by omega
    rw [show h + (k + 1) = (h + k) + 1 from rfl]
    rw [billF_succ, billF_succ, at_drop, e, ← ih]
    omega
theorem bill_split {xs : List (Int × Int)} {z : Int} {us : List Int} (h : billOk xs z us = true) (k : Nat) (hk : k ≤ us.length) :
    ∃ a b : Int, billB xs z (us.take k) = a ∧ billB xs ((z + k) % 24) (us.drop k) = b ∧ (0 ≤ a ∧ a ≤ 99800100) ∧ (0 ≤ b ∧ b ≤ 99800100) ∧ a + b = billB xs z us := by
  obtain ⟨h1, h2, h3, h4⟩ := billOk_parts h
  have ok1 : billOk xs z (us.take k) = true := billOk_mk h1 h2 (by simp; omega) fun u hu => h4 u (List.mem_of_mem_take hu)
  have ok2 : billOk xs ((z + k) % 24) (us.drop k) = true := billOk_mk h1 (by omega) (by simp; omega) fun u hu => h4 u (List.mem_of_mem_drop hu)
  refine ⟨_, _, rfl, rfl, bill_bd ok1, bill_bd ok2, ?_⟩
  rw [billB_yes ok1, billB_yes ok2, billB_yes h, show (us.take k).length = k by simp; omega, billF_take _ _ _ _ _ (Nat.le_refl _), billF_drop]
  congr 1
  simp
  omega
theorem at_app1 (a b : List Int) (k : Nat) (h : k < a.length) : at_ (a ++ b) k = at_ a k := by simp [at_, List.getElem?_append_left h]
theorem at_app2 (a b : List Int) (k : Nat) : at_ (a ++ b) (a.length + k) = at_ b k := by simp [at_, List.getElem?_append_right (Nat.le_add_right a.length k)]
theorem billF_app1 (xs : List (Int × Int)) (z : Int) (a b : List Int) (k : Nat) (hk : k ≤ a.length) : billF xs z (a ++ b) k = billF xs z a k := by
  induction k with
  | zero => rfl
  | succ k ih =>
    unfold billF
    rw [ih (by omega), at_app1 _ _ _ (by omega)]
theorem billF_app2 (xs : List (Int × Int)) (z : Int) (a b : List Int) (ha : a.length = 24) (k : Nat) : billF xs z (a ++ b) (24 + k) = billF xs z a 24 + billF xs z b k := by
  induction k with
  | zero =>
    rw [Nat.add_zero, billF_app1 xs z a b 24 (by omega)]
    show _ = billF xs z a 24 + 0
    omega
  | succ k ih =>
    have e : (z + ((24 + k : Nat) : Int)) % 24 = (z + (k : Int)) % 24 := by omega
    have e2 := at_app2 a b k
    rw [ha] at e2
    rw [show 24 + (k + 1) = (24 + k) + 1 from rfl]
    rw [billF_succ xs z (a ++ b) (24 + k), billF_succ xs z b k, ih, e2, e]
    omega
theorem bill_twice {xs : List (Int × Int)} {z : Int} {dl : List Int} (h1 : bandsB xs = true) (h2 : 0 ≤ z ∧ z ≤ 23) (h3 : dl.length = 24) (h4 : ∀ u ∈ dl, 0 ≤ u ∧ u ≤ 999) :
    ∃ t : Int, billB xs z dl = t ∧ billB xs z (dl ++ dl) = 2 * t ∧ 0 ≤ t ∧ t ≤ 99800100 := by
  have ok1 : billOk xs z dl = true := billOk_mk h1 h2 (by omega) h4
  have ok2 : billOk xs z (dl ++ dl) = true := billOk_mk h1 h2 (by simp; omega) fun u hu => by
    rcases List.mem_append.1 hu with h | h <;> exact h4 u h
  refine ⟨_, rfl, ?_, bill_bd ok1⟩
  rw [billB_yes ok1, billB_yes ok2, show (dl ++ dl).length = 24 + 24 by simp [h3], billF_app2 xs z dl dl h3 24, h3]
  omega

theorem own_some {w : World} {base e size n c : Nat} {A : Option Addr} {cs : List Value} (h : w.ownsRow base e size (.slice A n c) n cs) (hn : 0 < n) : ∃ gg : Nat, A = some ⟨gg, 0, none⟩ := by
  obtain ⟨g, cap, hv, _, _⟩ := h.form hn
  injection hv with h1
  exact ⟨g, h1⟩

/-- Drawn bands, an hour and uses. -/
def GotBill (w : World) (e : Ending) (w' : World) : Prop :=
  ∃ (xs : List (Int × Int)) (us : List Int) (D : Option Addr) (d : Nat) (gg : Nat) (f : Nat) (z : Int), xs.length ≤ 7 ∧ us.length ≤ 41 ∧ (∀ n ∈ us, -1 ≤ n ∧ n ≤ 1000) ∧ (0 ≤ z ∧ z ≤ 50) ∧ e = .returned (.tuple #[.slice D xs.length d, .int .i64 z, .slice (some ⟨gg, 0, none⟩) us.length f]) ∧
    w'.ownsRow w.heap.size 105 2 (.slice D xs.length d) xs.length (enc2 xs) ∧ w'.ownsRow w.heap.size 3 1 (.slice (some ⟨gg, 0, none⟩) us.length f) us.length (encI us) ∧ Below w.heap.size w w'

set_option maxHeartbeats 1000000 in
theorem DrawBill_any (A : Option Addr) (c : Nat) (xs : List Int) (w : World) (h : Sl w w.heap.size 1 A xs.length (encU xs)) (hc : xs.length ≤ c) (hm : c ≤ maxLen) (hx : ∀ n ∈ xs, 0 ≤ n ∧ n ≤ 255) :
    Calls Tryd.prog 15 #[.slice A xs.length c] w (GotBill w) := by
  go_enter Tryd.func15, Tryd.ntmps15
  go_wp2_with fail
  refine (l20Open_any _ _ _ _ h hc hm hx).mono ?_
  rintro e w0 ⟨rfl, hr, hb⟩
  have hr0 : RdU w.heap.size w0 w.heap.size 0 := ⟨0, Nat.le_refl _, hr⟩
  have K := hide hb
  have hs := hb.size
  have hlt := hr0.lt
  clear hr hb hx
  go_wp2_with fail
  refine (l20Bands_any _ _ _ _ _ hr0 (by omega) (by omega)).mono ?_
  rintro e w1 ⟨xs1, D, d, hxl, _, rfl, hox, hr1, hg1⟩
  have hs1 := hg1.size
  have K1 := hide (K.out.trans (below_of_grown hg1 (Nat.le_refl _) hlt))
  have OX := hide hox
  have R1 := hide (hr1.grown (World.grownBy_alloc w1 (.cells #[] 3) none) (fun k hk => by cases hk))
  have A1 := hide (World.ownsRow_lit (base := w1.heap.size) (e := 3) (size := 1) w1 #[] 0 (Nat.le_refl _) (Nat.zero_le _) rfl)
  have OX1 := hide (hox.alloc (.cells #[] 3))
  have GA := hide (grown_alloc (World.grownBy.refl w1 (some w.heap.size)) (.cells #[] 3))
  clear hg1 hox hr1 hr0
  go_wp2_with fail
  refine (pick_u _ _ _ 40 _ R1.out (by omega)).mono ?_
  rintro e w2 ⟨v, u1, u2, _, rfl, h2, o2⟩
  have u3 := u2 (by omega)
  have HR2 := hide h2
  have HG2 := hide (GA.out.trans o2.1)
  have HO2 := hide (o2.own A1.out (by omega))
  have HX2 := hide (o2.own OX1.out hlt)
  clear u2 h2 o2
  obtain ⟨m0, rfl⟩ := Int.eq_ofNat_of_zero_le u1
  go_wp2_with fail
  go_loopw [7, 8] (fun us k wr => ∃ (ys : List Int) (E : Option Addr) (f m : Nat), (∃ gg, E = some ⟨gg, 0, none⟩) ∧ us = .slice E ys.length f ∧ k = .int .i64 m ∧ ys.length + m ≤ 39 ∧ (∀ n ∈ ys, (-1 : Int) ≤ n ∧ n ≤ 1000) ∧ wr.ownsRow w1.heap.size 3 1 (.slice E ys.length f) ys.length (encI ys) ∧ wr.ownsRow w0.heap.size 105 2 (.slice D xs1.length d) xs1.length (enc2 xs1) ∧ RdU w.heap.size wr w.heap.size (31 + ys.length) ∧ w1.grownBy wr (some w.heap.size)) (fun _ k _ => (intOf k).toNat)
  case atStart => exact ⟨[], _, _, m0, ⟨_, rfl⟩, rfl, rfl, by simp; omega, by simp, HO2.out, HX2.out, HR2.out, HG2.out⟩
  case round =>
    obtain ⟨ys, E, f, m, hE, rfl, rfl, hl, hy, ho, hox, hr, hg⟩ := hrel
    have HY := hide hy
    have HO := hide ho
    have HX := hide hox
    have HG := hide hg
    clear hy ho hox hg HR2 HG2 HO2 HX2
    by_cases hm : 0 < m
    · go_wp2_with fail
      refine (pick_u _ _ _ 9 _ hr (by omega)).mono ?_
      rintro e w2 ⟨v, u1, u2, _, rfl, h2, o2⟩
      have u3 := u2 (by omega)
      have HR2 := hide h2
      have HG2 := hide (HG.out.trans o2.1)
      have HO2 := hide (o2.own HO.out (by omega))
      have HX2 := hide (o2.own HX.out hlt)
      have hs2 := HG2.out.size
      clear u2 h2 o2
      go_wp2_with (at_builtin; refine app_int w2 rfl (.tmp 20) (.tmp 23) rfl w1.heap.size E ys.length f ys v rfl HO2.out w2.heap.size rfl rfl hs2 (by omega) ?_; intro D2 d2 w3 ho3 hg3)
      have HO3 := hide ho3
      have HG3 := hide (grown_step HG2.out hg3 (own_big HO2.out))
      have HR3 := hide (HR2.out.grown hg3 (fun k hk => by have := own_big HO2.out k hk; omega))
      have HX3 := hide (HX2.out.kept hg3 (own_ne OX.out HO2.out (Nat.le_refl _)))
      clear ho3 hg3
      go_roundw
      case rel =>
        refine ⟨ys ++ [v], D2, d2, m - 1, own_some HO3.out (by omega), by simp, by go_num, by simp; omega, ?_, by simpa using HO3.out, HX3.out, HR3.out.more (by simp; omega), HG3.out⟩
        intro n hn
        rcases List.mem_append.1 hn with h | h
        · exact HY.out n h
        · simp at h; omega
      case measure => simp [intOf]; omega
    · obtain rfl : m = 0 := by omega
      go_wp2_with fail
      refine (odd_u _ _ _ 20 _ hr (by omega) (by omega)).mono ?_
      rintro e w2 ⟨b, rfl, h2, o2⟩
      have HR2 := hide h2
      have HG2 := hide (HG.out.trans o2.1)
      have HO2 := hide (o2.own HO.out (by omega))
      have HX2 := hide (o2.own HX.out hlt)
      have hs2 := HG2.out.size
      clear h2 o2 hr
      cases b
      · obtain ⟨us9, E9, f9, hE9, HR9, HG9, HO9, HX9, H9, hl9, e9⟩ : ∃ us9 E9 f9, (∃ gg, E9 = some ⟨gg, 0, none⟩) ∧ Hid (RdU w.heap.size w2 w.heap.size 100) ∧ Hid (w1.grownBy w2 (some w.heap.size)) ∧ Hid (w2.ownsRow w1.heap.size 3 1 (.slice E9 us9.length f9) us9.length (encI us9)) ∧ Hid (w2.ownsRow w0.heap.size 105 2 (.slice D xs1.length d) xs1.length (enc2 xs1)) ∧ Hid (∀ n ∈ us9, -1 ≤ n ∧ n ≤ 1000) ∧ us9.length ≤ 41 ∧ (Value.slice E ys.length f = .slice E9 us9.length f9) :=
          ⟨ys, E, f, hE, hide (HR2.out.more (by omega)), HG2, HO2, HX2, HY, by omega, rfl⟩
        rw [e9]
        clear e9
        go_wp2_with fail
        refine (pick_u _ _ _ 24 _ HR9.out (by omega)).mono ?_
        rintro e wa ⟨va, a1, a2, _, rfl, ka, oa⟩
        have a3 := a2 (by omega)
        have Ka := hide (HG9.out.trans oa.1)
        have Oa := hide (oa.own HO9.out (by omega))
        have Xa := hide (oa.own HX9.out hlt)
        clear a2 oa
        go_wp2_with fail
        refine (pick_u _ _ _ 30 _ ka (by omega)).mono ?_
        rintro e wb ⟨vb, b1, b2, _, rfl, kb, ob⟩
        have b3 := b2 (by omega)
        have Kb := hide (Ka.out.trans ob.1)
        have Ob := hide (own_mono (ob.own Oa.out (by omega)) (Nat.le_trans hs hs1))
        have Xb := hide (own_mono (ob.own Xa.out hlt) hs)
        have Kc := hide (K1.out.trans (below_of_grown Kb.out (Nat.le_refl _) (by omega)))
        clear b2 ob kb ka
        go_wp2_with fail
        refine bodyPost_ret (v := .tuple #[.slice D xs1.length d, .int .i64 (va + vb / 29 * 24), .slice E9 us9.length f9]) (by simp [results, Tryd.results15, go_sem]) rfl ?_
        obtain ⟨gg, rfl⟩ := hE9
        exact ⟨xs1, us9, D, d, gg, f9, _, hxl, hl9, H9.out, by omega, rfl, Xb.out, Ob.out, Kc.out⟩
      · have cc := cells2 w2 (-1) 1000
        have R4 := hide (HR2.out.grown (World.grownBy_alloc w2 (.cells #[.int .i64 (-1), .int .i64 1000] 3) none) (fun k hk => by cases hk))
        have G4 := hide (grown_alloc HG2.out (.cells #[.int .i64 (-1), .int .i64 1000] 3))
        have O4 := hide (HO2.out.alloc (.cells #[.int .i64 (-1), .int .i64 1000] 3))
        have X4 := hide (HX2.out.alloc (.cells #[.int .i64 (-1), .int .i64 1000] 3))
        go_wp2_with fail
        refine (pick_u _ _ _ 2 _ R4.out (by omega)).mono ?_
        rintro e w5 ⟨v', y1, y2, _, rfl, h5, o5⟩
        have y3 := y2 (by omega)
        have HR5 := hide h5
        have HG5 := hide (G4.out.trans o5.1)
        have HO5 := hide (o5.own O4.out (by omega))
        have HX5 := hide (o5.own X4.out hlt)
        have hs5 := HG5.out.size
        have k0 := World.grownBy.cell o5.1 cc.1 (by simp; omega)
        have k1 := World.grownBy.cell o5.1 cc.2 (by simp; omega)
        obtain ⟨q, rfl⟩ := Int.eq_ofNat_of_zero_le y1
        obtain ⟨x, hx, kq⟩ : ∃ x : Int, (-1 ≤ x ∧ x ≤ 1000) ∧ w5.cell? ⟨w2.heap.size, q, none⟩ = some (.int .i64 x) := by
          rcases (by omega : q = 0 ∨ q = 1) with rfl | rfl
          · exact ⟨-1, by omega, k0⟩
          · exact ⟨1000, by omega, k1⟩
        clear y2 h5 o5 cc k0 k1
        have y4 : (q : Int) < 2 := by omega
        go_wp2_with (at_builtin; refine app_int w5 rfl (.tmp 27) (.tmp 33) rfl w1.heap.size E ys.length f ys x rfl HO5.out w5.heap.size rfl rfl hs5 (by omega) ?_; intro D2 d2 w6 ho6 hg6)
        obtain ⟨us9, E9, f9, hE9, HR9, HG9, HO9, HX9, H9, hl9, e9⟩ : ∃ us9 E9 f9, (∃ gg, E9 = some ⟨gg, 0, none⟩) ∧ Hid (RdU w.heap.size w6 w.heap.size 100) ∧ Hid (w1.grownBy w6 (some w.heap.size)) ∧ Hid (w6.ownsRow w1.heap.size 3 1 (.slice E9 us9.length f9) us9.length (encI us9)) ∧ Hid (w6.ownsRow w0.heap.size 105 2 (.slice D xs1.length d) xs1.length (enc2 xs1)) ∧ Hid (∀ n ∈ us9, -1 ≤ n ∧ n ≤ 1000) ∧ us9.length ≤ 41 ∧ (Value.slice D2 (ys.length + 1) d2 = .slice E9 us9.length f9) :=
          ⟨ys ++ [x], D2, d2, own_some ho6 (by omega), hide ((HR5.out.grown hg6 (fun k hk => by have := own_big HO5.out k hk; omega)).more (by omega)), hide (grown_step HG5.out hg6 (own_big HO5.out)), hide (by simpa using ho6), hide (HX5.out.kept hg6 (own_ne OX.out HO5.out (Nat.le_refl _))), hide (fun n hn => by
            rcases List.mem_append.1 hn with h | h
            · exact HY.out n h
            · simp at h; omega), by simp; omega, by simp⟩
        rw [e9]
        clear e9 ho6 hg6
        go_wp2_with fail
        refine (pick_u _ _ _ 24 _ HR9.out (by omega)).mono ?_
        rintro e wa ⟨va, a1, a2, _, rfl, ka, oa⟩
        have a3 := a2 (by omega)
        have Ka := hide (HG9.out.trans oa.1)
        have Oa := hide (oa.own HO9.out (by omega))
        have Xa := hide (oa.own HX9.out hlt)
        clear a2 oa
        go_wp2_with fail
        refine (pick_u _ _ _ 30 _ ka (by omega)).mono ?_
        rintro e wb ⟨vb, b1, b2, _, rfl, kb, ob⟩
        have b3 := b2 (by omega)
        have Kb := hide (Ka.out.trans ob.1)
        have Ob := hide (own_mono (ob.own Oa.out (by omega)) (Nat.le_trans hs hs1))
        have Xb := hide (own_mono (ob.own Xa.out hlt) hs)
        have Kc := hide (K1.out.trans (below_of_grown Kb.out (Nat.le_refl _) (by omega)))
        clear b2 ob kb ka
        go_wp2_with fail
        refine bodyPost_ret (v := .tuple #[.slice D xs1.length d, .int .i64 (va + vb / 29 * 24), .slice E9 us9.length f9]) (by simp [results, Tryd.results15, go_sem]) rfl ?_
        obtain ⟨gg, rfl⟩ := hE9
        exact ⟨xs1, us9, D, d, gg, f9, _, hxl, hl9, H9.out, by omega, rfl, Xb.out, Ob.out, Kc.out⟩

end Go.Proofs.YtjecbapmdgnglaaDoor
