/-
  Chapter 32 (rooms): the reference's doing of a deed. Of valid rooms it makes valid rooms, in memory of its own.
-/
import Derived.Test.YtgkgdbmmhcdohaaDoorRoomSet
import Derived.Deep.RegionHeld3
namespace Go.Proofs.YtgkgdbmmhcdohaaDoor
open Go.RowKit
set_option linter.unusedVariables false

/-! ### what is valid stays valid -/
theorem rooms_parts {a b : Int} {xs : List Int} (h : roomsB a b xs = true) : 0 ≤ a ∧ a ≤ 99 ∧ 0 ≤ b ∧ b ≤ 99 ∧ a % 2 = 0 ∧ b % 2 = 1 ∧ 1 ≤ xs.length ∧ xs.length ≤ 5 ∧ ∀ e ∈ xs, 0 ≤ e ∧ (e % 2 = 0 → e ≤ a) ∧ (e % 2 = 1 → e ≤ b) := by
  unfold roomsB headB at h
  simp only [Bool.and_eq_true, decide_eq_true_eq, List.all_eq_true] at h
  obtain ⟨⟨⟨⟨⟨⟨h1, h2⟩, h3⟩, h4⟩, h5⟩, h6⟩, h7⟩ := h
  obtain ⟨a1, a2⟩ := inB_true h1
  obtain ⟨b1, b2⟩ := inB_true h2
  refine ⟨a1, a2, b1, b2, h3, h4, h5, h6, fun e he => ?_⟩
  have := h7 e he
  unfold epOk at this
  simp only [Bool.and_eq_true, decide_eq_true_eq] at this
  obtain ⟨e0, e1⟩ := this
  refine ⟨e0, fun h => ?_, fun h => ?_⟩
  · rw [if_pos h] at e1; exact of_decide_eq_true e1
  · rw [if_neg (by omega)] at e1; exact of_decide_eq_true e1
theorem rooms_mk {a b : Int} {xs : List Int} (h0 : 0 ≤ a) (h1 : a ≤ 99) (h2 : 0 ≤ b) (h3 : b ≤ 99) (h4 : a % 2 = 0) (h5 : b % 2 = 1) (h6 : 1 ≤ xs.length) (h7 : xs.length ≤ 5) (h8 : ∀ e ∈ xs, 0 ≤ e ∧ (e % 2 = 0 → e ≤ a) ∧ (e % 2 = 1 → e ≤ b)) : roomsB a b xs = true := by
  unfold roomsB headB
  rw [inB_mk h0 h1, inB_mk h2 h3]
  simp only [h4, h5, h6, h7, decide_true, Bool.and_self, Bool.true_and, List.all_eq_true]
  intro e he
  obtain ⟨e0, e1, e2⟩ := h8 e he
  unfold epOk
  by_cases hp : e % 2 = 0
  · rw [if_pos hp]; simp [e0, e1 hp]
  · rw [if_neg hp]; simp [e0, e2 (by omega)]
/-- A room's epoch made greater. -/
theorem rooms_up {a b room e : Int} {xs : List Int} (h : roomsB a b xs = true) (hr : room = 0 ∨ room = 1) (h0 : epOf a b room ≤ e) (h1 : e ≤ 99) (h2 : e % 2 = room) : roomsB (setA a room e) (setB b room e) xs = true := by
  obtain ⟨a0, a1, b0, b1, a2, b2, l0, l1, hx⟩ := rooms_parts h
  rcases hr with rfl | rfl
  · simp only [epOf, setA, setB, if_true] at *
    exact rooms_mk (by omega) h1 b0 b1 h2 b2 l0 l1 fun x hm => by obtain ⟨x0, x1, x2⟩ := hx x hm; exact ⟨x0, fun hp => by have := x1 hp; omega, x2⟩
  · have h10 : ¬ (1 : Int) = 0 := by omega
    simp only [epOf, setA, setB, if_neg h10] at *
    exact rooms_mk a0 a1 (by omega) h1 a2 h2 l0 l1 fun x hm => by obtain ⟨x0, x1, x2⟩ := hx x hm; exact ⟨x0, x1, fun hp => by have := x2 hp; omega⟩
/-- A station told. -/
theorem rooms_tell {a b room : Int} {xs : List Int} {k : Nat} (h : roomsB a b xs = true) (hr : room = 0 ∨ room = 1) (hk : k < xs.length) : roomsB a b (xs.set k (max (at_ xs k) (epOf a b room))) = true := by
  obtain ⟨a0, a1, b0, b1, a2, b2, l0, l1, hx⟩ := rooms_parts h
  have hk2 := hx (at_ xs k) (by rw [at_eq xs k hk]; exact List.getElem_mem hk)
  refine rooms_mk a0 a1 b0 b1 a2 b2 (by simpa using l0) (by simpa using l1) fun x hm => ?_
  rcases List.mem_or_eq_of_mem_set hm with hm | rfl
  · exact hx x hm
  · rcases Int.le_total (at_ xs k) (epOf a b room) with hle | hle
    · rw [Int.max_eq_right hle]
      rcases hr with rfl | rfl
      · simp only [epOf, if_true] at *; exact ⟨a0, fun _ => Int.le_refl _, fun hp => by omega⟩
      · have h10 : ¬ (1 : Int) = 0 := by omega
        simp only [epOf, if_neg h10] at *; exact ⟨b0, fun hp => by omega, fun _ => Int.le_refl _⟩
    · rw [Int.max_eq_left hle]; exact hk2

/-- Rooms behind a deed. -/
def DoP (w : World) (en : Ending) (w' : World) : Prop :=
  ∃ (a b : Int) (ys : List Int) (D : Option Addr) (d : Nat) (ok : Bool), roomsB a b ys = true ∧ en = .returned (.tuple #[.agg #[.int .i64 a, .int .i64 b, .slice D ys.length d], .bool ok]) ∧ w'.ownsRow w.heap.size 3 1 (.slice D ys.length d) ys.length (encI ys) ∧ Below w.heap.size w w'

theorem own_low {wr : World} {base e size n q : Nat} {v : Value} {cs : List Value} (ho : wr.ownsRow base e size v n cs) (hq : q < base) : v.ownBlock = none ∨ v.ownBlock ≠ some q := by
  cases hv : v.ownBlock with
  | none => exact .inl rfl
  | some k => exact .inr fun he => by have := (ho.lt k hv).1; injection he; omega

theorem do_fin {w wr wf : World} {act : Act} {x y : Int} {ys : List Int} {m : Nat} {D : Option Addr} {d : Nat} {ok : Bool} (hres : Blk wr (w.heap.size + 2) 25 #[.int .i64 0, .int .i64 0, .slice none 0 0]) (hb : Below w.heap.size w wr)
    (ho : wr.ownsRow (w.heap.size + 3) 3 1 (.slice D m d) m (encI ys)) (hm : ys.length = m) (hv : roomsB x y ys = true) (h4 : act.tmps[4]?.getD undef = .pointer (some ⟨w.heap.size + 2, 0, none⟩)) (h5 : act.tmps[5]?.getD undef = .bool ok) (hd : act.defers = [])
    (hw : wf = (((wr.setCell ⟨w.heap.size + 2, 0, none⟩ (.int .i64 x)).setCell ⟨w.heap.size + 2, 1, none⟩ (.int .i64 y)).setCell ⟨w.heap.size + 2, 2, none⟩ (.slice D m d))) :
    bodyPost Tryd.prog Tryd.f59 (DoP w) .ret act wf := by
  subst hm hw
  have hn := own_low ho (q := w.heap.size + 2) (by omega)
  have hB := ((hres.set_ 0 (.int .i64 x)).set_ 1 (.int .i64 y)).set_ 2 (.slice D ys.length d)
  have hO := ((ho.kept (ssetc _ (w.heap.size + 2) 0 (.int .i64 x)) hn).kept (ssetc _ (w.heap.size + 2) 1 (.int .i64 y)) hn).kept (ssetc _ (w.heap.size + 2) 2 (.slice D ys.length d)) hn
  have hK := ((hb.setCell (p := ⟨w.heap.size + 2, 0, none⟩) (by simp) (.int .i64 x)).setCell (p := ⟨w.heap.size + 2, 1, none⟩) (by simp) (.int .i64 y)).setCell (p := ⟨w.heap.size + 2, 2, none⟩) (by simp) (.slice D ys.length d)
  have p0 := (hB.cell 0).trans (show _ = some (.int .i64 x) by simp)
  have p1 := (hB.cell 1).trans (show _ = some (.int .i64 y) by simp)
  have p2 := (hB.cell 2).trans (show _ = some (.slice D ys.length d) by simp)
  exact bodyPost_ret (v := .tuple #[.agg #[.int .i64 x, .int .i64 y, .slice D ys.length d], .bool ok]) (by simp [results, Tryd.results59, go_sem, h4, h5, p0, p1, p2]) hd ⟨x, y, ys, D, d, ok, hv, rfl, own_mono hO (by omega), hK⟩

/-- What is kept while a deed is done. -/
structure DS (w : World) (a b : Int) (A : Option Addr) (c : Nat) (xs : List Int) (k r s : Int) (wr : World) : Prop where
  box : Blk wr w.heap.size 25 #[.int .i64 a, .int .i64 b, .slice A xs.length c]
  deed : Blk wr (w.heap.size + 1) 84 #[.int .i64 k, .int .i64 r, .int .i64 s]
  res : Blk wr (w.heap.size + 2) 25 #[.int .i64 0, .int .i64 0, .slice none 0 0]
  below : Below w.heap.size w wr
section
variable {w wr w' : World} {a b : Int} {A : Option Addr} {c : Nat} {xs : List Int} {k r s : Int}
theorem DS.drew (h : DS w a b A c xs k r s wr) : DS w a b A c xs k r s wr.drew := ⟨h.box, h.deed, h.res, h.below.drew⟩
theorem DS.to (h : DS w a b A c xs k r s wr) (hb : Below wr.heap.size wr w') : DS w a b A c xs k r s w' := ⟨h.box.to hb, h.deed.to hb, h.res.to hb, h.below.then hb⟩
theorem DS.alloc (h : DS w a b A c xs k r s wr) (o : Obj) : DS w a b A c xs k r s (wr.alloc o) := h.to ((Below.refl _ _).alloc (Nat.le_refl _) _)
theorem DS.set (h : DS w a b A c xs k r s wr) {g : Nat} (hg : w.heap.size + 3 ≤ g) (i : Nat) (v : Value) : DS w a b A c xs k r s (wr.setCell ⟨g, i, none⟩ v) := ⟨h.box.far (p := ⟨g, i, none⟩) (by simp; omega) _, h.deed.far (p := ⟨g, i, none⟩) (by simp; omega) _, h.res.far (p := ⟨g, i, none⟩) (by simp; omega) _, h.below.setCell (p := ⟨g, i, none⟩) (by simp; omega) _⟩
theorem DS.size (h : DS w a b A c xs k r s wr) : w.heap.size + 2 < wr.heap.size := h.res.lt
/-- The same rooms, in a block of their own. -/
structure DM (w : World) (a b : Int) (xs : List Int) (p g d : Nat) (wr : World) : Prop where
  blk : Blk wr p 25 #[.int .i64 a, .int .i64 b, .slice (some ⟨g, 0, none⟩) xs.length d]
  own : wr.ownsRow (w.heap.size + 3) 3 1 (.slice (some ⟨g, 0, none⟩) xs.length d) xs.length (encI xs)
  lt : w.heap.size + 2 < p ∧ g < p
variable {p g d : Nat}
theorem DM.drew (h : DM w a b xs p g d wr) : DM w a b xs p g d wr.drew := ⟨h.blk, h.own, h.lt⟩
theorem DM.to (h : DM w a b xs p g d wr) (hb : Below wr.heap.size wr w') : DM w a b xs p g d w' := ⟨h.blk.to hb, h.own.keepB hb, h.lt⟩
end

set_option maxRecDepth 8000 in
set_option maxHeartbeats 8000000 in
theorem RoomsDo_any (a b : Int) (A : Option Addr) (c : Nat) (xs : List Int) (k r s : Int) (w : World) (h : Sl w w.heap.size 1 A xs.length (encI xs)) (hv : roomsB a b xs = true) :
    Calls Tryd.prog 59 #[.agg #[.int .i64 a, .int .i64 b, .slice A xs.length c], .agg #[.int .i64 k, .int .i64 r, .int .i64 s]] w (DoP w) := by
  obtain ⟨a0, a1, b0, b1, a2, b2, l0, l1, hx⟩ := rooms_parts hv
  obtain ⟨V, hV⟩ : ∃ V, V = (((w.alloc (.cells #[.int .i64 a, .int .i64 b, .slice A xs.length c] 25)).alloc (.cells #[.int .i64 k, .int .i64 r, .int .i64 s] 84)).alloc (.cells #[.int .i64 0, .int .i64 0, .slice none 0 0] 25)) := ⟨_, rfl⟩
  have HS : Hid (DS w a b A c xs k r s V) := hide (by
    rw [hV]
    exact ⟨((Blk.new _ _ _).alloc _).alloc _, by simpa using (Blk.new (w.alloc (.cells #[.int .i64 a, .int .i64 b, .slice A xs.length c] 25)) 84 #[.int .i64 k, .int .i64 r, .int .i64 s]).alloc _, by simpa using Blk.new ((w.alloc (.cells #[.int .i64 a, .int .i64 b, .slice A xs.length c] 25)).alloc (.cells #[.int .i64 k, .int .i64 r, .int .i64 s] 84)) 25 #[.int .i64 0, .int .i64 0, .slice none 0 0], (((Below.refl w.heap.size w).alloc (Nat.le_refl _) _).alloc (by simp) _).alloc (by simp; omega) _⟩)
  have HV := hide hV
  have HVV := hide hv
  have HX := hide hx
  have HH := hide h
  clear h hx hv
  go_enter Tryd.func59, Tryd.ntmps59
  go_wp2_with fail
  rw [← HV.out]
  clear hV
  refine (specRoomsValid_any _ _ _ _ _ _ (HH.out.to HS.out.below) (by omega)).mono ?_
  rintro e w1 ⟨rfl, hb1⟩
  rw [HVV.out]
  have HS1 := hide (HS.out.to hb1)
  obtain ⟨c0, c1, c2⟩ := HS1.out.box.three
  clear hb1 HS HV
  go_wp2_with fail
  refine (l32Set_any _ _ _ _ _ 0 a w1 (HH.out.to HS1.out.below) l0 (by omega)).mono ?_
  rintro e w2 ⟨D, d, rfl, ho2, hb2⟩
  rw [show setA a 0 a = a by simp [setA], show setB b 0 a = b by simp [setB]]
  have hs1 := HS1.out.size
  obtain ⟨g, hD⟩ : ∃ g, D = some ⟨g, 0, none⟩ := by
    obtain ⟨g, cap, hq, _⟩ := ho2.form l0
    injection hq with hq _ _
    exact ⟨g, hq⟩
  subst hD
  have HM : Hid (DM w a b xs w2.heap.size g d (w2.alloc (.cells #[.int .i64 a, .int .i64 b, .slice (some ⟨g, 0, none⟩) xs.length d] 25))) := hide ⟨Blk.new _ _ _, own_mono (ho2.alloc _) (by omega), by have := hb2.size; have := (ho2.lt g rfl).2; omega⟩
  have HS2 := hide ((HS1.out.to hb2).alloc (.cells #[.int .i64 a, .int .i64 b, .slice (some ⟨g, 0, none⟩) xs.length d] 25))
  have hs2 := hb2.size
  obtain ⟨c0, c1, c2⟩ := HS2.out.box.three
  obtain ⟨d0, d1, d2⟩ := HS2.out.deed.three
  clear hb2 ho2 HS1
  go_wp2_with fail
  generalize (w2.alloc (.cells #[.int .i64 a, .int .i64 b, .slice (some ⟨g, 0, none⟩) xs.length d] 25)) = w3 at *
  generalize w2.heap.size = p at *
  have HSL := hide (HH.out.below HS2.out.below)
  obtain ⟨r0, r1, r2⟩ := HS2.out.res.three
  have f0 := HS2.out.res.frozen 0
  have f1 := HS2.out.res.frozen 1
  have f2 := HS2.out.res.frozen 2
  obtain ⟨m0, m1, m2⟩ := HM.out.blk.three
  refine (l1In_any _ _ _ _).mono ?_
  rintro e w' ⟨rfl, rfl⟩
  cases h1 : inB r 0 1
  · go_wp2_with fail
    exact do_fin HS2.out.res HS2.out.below HM.out.own rfl HVV.out rfl rfl rfl rfl
  · obtain ⟨q1, q2⟩ := inB_true h1
    have hr : r = 0 ∨ r = 1 := by omega
    have HR := hide hr
    have hep : 0 ≤ epOf a b r ∧ epOf a b r ≤ 99 := by
      unfold epOf
      split <;> omega
    clear hr
    by_cases hk : k = 0
    · subst hk
      go_wp2_with fail
      refine (l32Epoch_any _ _ _ _ ⟨_, _, _, rfl⟩ _).mono ?_
      rintro e w4 ⟨rfl, hb4⟩
      have HS4 := hide (HS2.out.to hb4)
      have HM4 := hide (HM.out.to hb4)
      have SL4 := hide (HSL.out.below (Below.mono hb4 HS2.out.below.size))
      generalize hoe : epOf a b r = own at *
      have HOE := hide hoe
      clear c0 c1 c2 d0 d1 d2 r0 r1 r2 f0 f1 f2 m0 m1 m2
      clear hb4 hoe HSL HS2 HM
      obtain ⟨c0, c1, c2⟩ := HS4.out.box.three
      obtain ⟨d0, d1, d2⟩ := HS4.out.deed.three
      obtain ⟨r0, r1, r2⟩ := HS4.out.res.three
      have f0 := HS4.out.res.frozen 0
      have f1 := HS4.out.res.frozen 1
      have f2 := HS4.out.res.frozen 2
      obtain ⟨m0, m1, m2⟩ := HM4.out.blk.three
      by_cases hg : 99 < own + 2
      · go_wp2_with fail
        exact do_fin HS4.out.res HS4.out.below HM4.out.own rfl HVV.out rfl rfl rfl rfl
      · go_wp2_with fail
        refine (l32Set_any _ _ _ _ _ r (own + 2) w4 (SL4.out.more HS4.out.below.size) l0 (by omega)).mono ?_
        rintro e w5 ⟨D5, x5, rfl, ho5, hb5⟩
        have HS5 := hide (HS4.out.to hb5)
        have HO5 := hide (own_mono ho5 (by have := HS4.out.size; omega : w.heap.size + 3 ≤ w4.heap.size))
        have HVU := hide (rooms_up HVV.out HR.out (e := own + 2) (by rw [HOE.out]; omega) (by omega) (by have := HOE.out; unfold epOf at this; rcases HR.out with rfl | rfl <;> simp at this <;> omega))
        clear c0 c1 c2 d0 d1 d2 r0 r1 r2 f0 f1 f2 m0 m1 m2
        obtain ⟨r0, r1, r2⟩ := HS5.out.res.three
        have f0 := HS5.out.res.frozen 0
        have f1 := HS5.out.res.frozen 1
        have f2 := HS5.out.res.frozen 2
        clear hb5 ho5
        go_wp2_with fail
        exact do_fin HS5.out.res HS5.out.below HO5.out rfl HVU.out rfl rfl rfl rfl
    · have hk1 : (k != 0) = true := by simp [hk]
      have hk2 : (k == 0) = false := by simp [hk]
      cases h2 : inB s 0 ((xs.length : Int) - 1)
      · go_wp2_with ((go_at_call 34; refine (l1In_any _ _ _ _).mono ?_; rintro e w' ⟨rfl, rfl⟩))
        exact do_fin HS2.out.res HS2.out.below HM.out.own rfl HVV.out rfl rfl rfl rfl
      · obtain ⟨s1, s2⟩ := inB_true h2
        obtain ⟨n, rfl⟩ : ∃ n : Nat, s = n := ⟨s.toNat, by omega⟩
        have hn : n < xs.length := by omega
        have n1 : (n : Int) < xs.length := by omega
        have hxn := HX.out (at_ xs n) (by rw [at_eq xs n hn]; exact List.getElem_mem hn)
        have he0 := hxn.1
        have he99 : at_ xs n ≤ 99 := by
          rcases (by omega : at_ xs n % 2 = 0 ∨ at_ xs n % 2 = 1) with hp | hp
          · have := hxn.2.1 hp; omega
          · have := hxn.2.2 hp; omega
        clear hxn
        go_wp2_with ((go_at_call 34; refine (l1In_any _ _ _ _).mono ?_; rintro e w' ⟨rfl, rfl⟩))
        refine (l32Epoch_any _ _ _ _ ⟨_, _, _, rfl⟩ _).mono ?_
        rintro e w4 ⟨rfl, hb4⟩
        have HS4 := hide (HS2.out.to hb4)
        have HM4 := hide (HM.out.to hb4)
        have SL4 := hide (HSL.out.below (Below.mono hb4 HS2.out.below.size))
        generalize hoe : epOf a b r = own at *
        have HOE := hide hoe
        clear c0 c1 c2 d0 d1 d2 r0 r1 r2 f0 f1 f2 m0 m1 m2
        clear hb4 hoe HSL HS2 HM
        obtain ⟨c0, c1, c2⟩ := HS4.out.box.three
        obtain ⟨d0, d1, d2⟩ := HS4.out.deed.three
        obtain ⟨r0, r1, r2⟩ := HS4.out.res.three
        have f0 := HS4.out.res.frozen 0
        have f1 := HS4.out.res.frozen 1
        have f2 := HS4.out.res.frozen 2
        obtain ⟨m0, m1, m2⟩ := HM4.out.blk.three
        clear h1 h2
        by_cases hka : k = 1
        · subst hka
          obtain ⟨bb, off, rfl, hbb, hcc⟩ := SL4.out.int n hn
          generalize hye : at_ xs n = ye at *
          have HYE := hide hye
          clear hye
          by_cases hlo : ye < own
          · go_wp2_with fail
            exact do_fin HS4.out.res HS4.out.below HM4.out.own rfl HVV.out rfl rfl rfl rfl
          · have ht : ye.tmod 2 = ye % 2 := Int.tmod_eq_emod_of_nonneg he0
            have hw : IntKind.i64.wrap (ye % 2) = ye % 2 := IntWalk.i64_in (ye % 2) (by omega)
            have hw1 : IntKind.i64.wrap (ye + 1) = ye + 1 := IntWalk.i64_in (ye + 1) (by omega)
            have hbn : ¬ (w.heap.size + 1 + 1 = bb) := by omega
            have hbz : ¬ (w.heap.size + 1 + 1 = w.heap.size) := by omega
            have hby : ¬ (w.heap.size + 1 + 1 = w.heap.size + 1) := by omega
            by_cases hpar : ye % 2 = r
            · have hparb : (ye % 2 == r) = true := by simp [hpar]
              have HPAR := hide hpar
              clear hpar
              go_wp2_with fail
              have HLO := hide hlo
              clear hlo
              go_region_held3 (fun w' => w'.cell? ⟨w.heap.size, 2, none⟩ = some (.slice (some ⟨bb, off, none⟩) xs.length c) ∧ w'.cell? ⟨w.heap.size + 1, 1, none⟩ = some (.int .i64 r) ∧ w'.cell? ⟨w.heap.size + 1, 2, none⟩ = some (.int .i64 n) ∧ w'.cell? ⟨bb, off + n, none⟩ = some (.int .i64 ye))
                (first | assumption | go_keep)
                (fail)
              have HS5 := hide HS4.out.drew
              have HM5 := hide HM4.out.drew
              have SL5 : Hid (Sl w4.drew w.heap.size 1 (some ⟨bb, off, none⟩) xs.length (encI xs)) := hide SL4.out
              have hc5 : w4.drew.cell? ⟨bb, off + n, none⟩ = some (.int .i64 ye) := hcc
              clear c0 c1 c2 d0 d1 d2 r0 r1 r2 f0 f1 f2 m0 m1 m2
              clear hcc
              obtain ⟨c0, c1, c2⟩ := HS5.out.box.three
              obtain ⟨d0, d1, d2⟩ := HS5.out.deed.three
              obtain ⟨r0, r1, r2⟩ := HS5.out.res.three
              have f0 := HS5.out.res.frozen 0
              have f1 := HS5.out.res.frozen 1
              have f2 := HS5.out.res.frozen 2
              obtain ⟨m0, m1, m2⟩ := HM5.out.blk.three
              clear HS4 HM4 SL4
              generalize w4.drew = w5 at *
              go_wp2_with fail
              exact do_fin HS5.out.res HS5.out.below HM5.out.own rfl HVV.out rfl rfl rfl rfl
            · have hparb : (ye % 2 == r) = false := by simp [hpar]
              have HPAR := hide hpar
              clear hpar
              go_wp2_with fail
              have HLO := hide hlo
              clear hlo
              go_region_held3 (fun w' => w'.cell? ⟨w.heap.size, 2, none⟩ = some (.slice (some ⟨bb, off, none⟩) xs.length c) ∧ w'.cell? ⟨w.heap.size + 1, 1, none⟩ = some (.int .i64 r) ∧ w'.cell? ⟨w.heap.size + 1, 2, none⟩ = some (.int .i64 n) ∧ w'.cell? ⟨bb, off + n, none⟩ = some (.int .i64 ye))
                (first | assumption | go_keep)
                (fail)
              have HS5 := hide HS4.out.drew
              have HM5 := hide HM4.out.drew
              have SL5 : Hid (Sl w4.drew w.heap.size 1 (some ⟨bb, off, none⟩) xs.length (encI xs)) := hide SL4.out
              have hc5 : w4.drew.cell? ⟨bb, off + n, none⟩ = some (.int .i64 ye) := hcc
              clear c0 c1 c2 d0 d1 d2 r0 r1 r2 f0 f1 f2 m0 m1 m2
              clear hcc
              obtain ⟨c0, c1, c2⟩ := HS5.out.box.three
              obtain ⟨d0, d1, d2⟩ := HS5.out.deed.three
              obtain ⟨r0, r1, r2⟩ := HS5.out.res.three
              have f0 := HS5.out.res.frozen 0
              have f1 := HS5.out.res.frozen 1
              have f2 := HS5.out.res.frozen 2
              obtain ⟨m0, m1, m2⟩ := HM5.out.blk.three
              clear HS4 HM4 SL4
              generalize w4.drew = w5 at *
              by_cases h99 : 99 < ye + 1
              · go_wp2_with fail
                exact do_fin HS5.out.res HS5.out.below HM5.out.own rfl HVV.out rfl rfl rfl rfl
              · go_wp2_with fail
                have SL6 : Hid (Sl w5.drew w5.drew.heap.size 1 (some ⟨bb, off, none⟩) xs.length (encI xs)) := hide (SL5.out.more HS5.out.below.size)
                have hm9 : xs.length ≤ 1048576 := by omega
                have HVU := hide (rooms_up HVV.out HR.out (e := ye + 1) (by rw [HOE.out]; have := HLO.out; omega) (by omega) (by have := HPAR.out; rcases HR.out with rfl | rfl <;> omega))
                have hsz5 := HS5.out.size
                go_region_held3 (fun w' => w'.cell? ⟨w.heap.size, 0, none⟩ = some (.int .i64 a) ∧ w'.cell? ⟨w.heap.size, 1, none⟩ = some (.int .i64 b) ∧ w'.cell? ⟨w.heap.size, 2, none⟩ = some (.slice (some ⟨bb, off, none⟩) xs.length c) ∧ w'.cell? ⟨w.heap.size + 1, 1, none⟩ = some (.int .i64 r) ∧ w'.cell? ⟨w.heap.size + 1, 2, none⟩ = some (.int .i64 n) ∧ w'.cell? ⟨bb, off + n, none⟩ = some (.int .i64 ye))
                  (first | (refine ⟨cellk hb6 ?_, cellk hb6 ?_, cellk hb6 ?_, cellk hb6 ?_, cellk hb6 ?_, cellk hb6 ?_⟩ <;> assumption) | go_keep)
                  ((go_at_call 84; refine (l32Set_any _ _ _ _ _ r (ye + 1) _ SL6.out l0 hm9).mono ?_; rintro e w6 ⟨D6, x6, rfl, ho6, hb6⟩; have HS6 := hide (HS5.out.drew.to hb6); obtain ⟨y0, y1, y2⟩ := HS6.out.box.three; obtain ⟨z0, z1, z2⟩ := HS6.out.deed.three; obtain ⟨t0, t1, t2⟩ := HS6.out.res.three; have g0 := HS6.out.res.frozen 0; have g1 := HS6.out.res.frozen 1; have g2 := HS6.out.res.frozen 2))
                have HO6 := hide (own_mono ho6 (show w.heap.size + 3 ≤ w5.drew.heap.size from hsz5))
                clear ho6 hb6
                go_wp2_with fail
                exact do_fin HS6.out.res HS6.out.below HO6.out rfl HVU.out rfl rfl rfl rfl
        · have hka1 : (k == 1) = false := by simp [hka]
          by_cases hkb : k = 2
          · subst hkb
            obtain ⟨bb, off, rfl, hbb, hcc⟩ := SL4.out.int n hn
            have HVT := hide (rooms_tell HVV.out HR.out hn)
            rw [HOE.out] at HVT
            have hq := HM4.out.own.cellAt n (by omega)
            rw [show (encI xs)[n]? = some (.int .i64 (at_ xs n)) by simp [encI, at_eq xs n hn, hn]] at hq
            have hqf := HM4.out.own.frozenAt n
            have HO7 := hide (HM4.out.own.stored n (.int .i64 (max (at_ xs n) own))).1
            rw [show (encI xs).set n (.int .i64 (max (at_ xs n) own)) = encI (xs.set n (max (at_ xs n) own)) by simp [encI, List.map_set]] at HO7
            rw [show max (at_ xs n) own = (if at_ xs n < own then own else at_ xs n) by split <;> omega] at HO7 HVT
            generalize hye : at_ xs n = ye at *
            have HYE := hide hye
            clear hye
            go_wp2_with fail
            have hgg := HM4.out.own.lt g rfl
            have hlt := HM4.out.lt
            have q1 : ¬ (g = w.heap.size) := by omega
            have q2 : ¬ (g = w.heap.size + 1) := by omega
            have q3 : ¬ (g = p) := by omega
            have q4 : ¬ (g = bb) := by omega
            go_region_held3 (fun w' => w'.cell? ⟨w.heap.size, 2, none⟩ = some (.slice (some ⟨bb, off, none⟩) xs.length c) ∧ w'.cell? ⟨w.heap.size + 1, 2, none⟩ = some (.int .i64 n) ∧ w'.cell? ⟨p, 2, none⟩ = some (.slice (some ⟨g, 0, none⟩) xs.length d) ∧ w'.cell? ⟨bb, off + n, none⟩ = some (.int .i64 ye))
              (first | assumption | go_keep)
              (fail)
            all_goals
              have HS7 : Hid (DS w a b (some ⟨bb, off, none⟩) c xs 2 r n (w4.setCell ⟨g, n, none⟩ (.int .i64 (if ye < own then own else ye))).drew) := hide (HS4.out.set hgg.1 _ _).drew
              have HB7 : Blk (w4.setCell ⟨g, n, none⟩ (.int .i64 (if ye < own then own else ye))).drew p 25 #[.int .i64 a, .int .i64 b, .slice (some ⟨g, 0, none⟩) xs.length d] := HM4.out.blk.far (p := ⟨g, n, none⟩) (by simp; omega) _
              have HO8 : Hid ((w4.setCell ⟨g, n, none⟩ (.int .i64 (if ye < own then own else ye))).drew.ownsRow (w.heap.size + 3) 3 1 (.slice (some ⟨g, 0, none⟩) xs.length d) xs.length (encI (xs.set n (if ye < own then own else ye)))) := hide HO7.out
              clear c0 c1 c2 d0 d1 d2 r0 r1 r2 f0 f1 f2 m0 m1 m2
              clear hcc hq hqf
              obtain ⟨m0, m1, m2⟩ := HB7.three
              obtain ⟨r0, r1, r2⟩ := HS7.out.res.three
              have f0 := HS7.out.res.frozen 0
              have f1 := HS7.out.res.frozen 1
              have f2 := HS7.out.res.frozen 2
              clear HB7
              generalize (w4.setCell ⟨g, n, none⟩ (.int .i64 (if ye < own then own else ye))).drew = w7 at *
              go_wp2_with fail
              all_goals exact do_fin HS7.out.res HS7.out.below HO8.out (by simp) HVT.out rfl rfl rfl rfl
          · have hkb1 : (k == 2) = false := by simp [hkb]
            go_wp2_with fail
            exact do_fin HS4.out.res HS4.out.below HM4.out.own rfl HVV.out rfl rfl rfl rfl

end Go.Proofs.YtgkgdbmmhcdohaaDoor
