/-
  What is reached from a bus: rounds over all lines. Plain definitions and lemmas, and what the reference's functions compute.
-/
import Derived.Test.YtbebhbcjdiahcaaDoorCycW
import Derived.Test.YtbebhbcjdiahcaaDoorAppend
namespace Go.Proofs.YtbebhbcjdiahcaaDoor
open Go.RowKit
set_option linter.unusedVariables false

theorem atB_set (xs : List Bool) (x y : Nat) (v : Bool) (hx : x < xs.length) : atB (xs.set x v) y = if y = x then v else atB xs y := by
  by_cases h : y = x
  · subst h; rw [if_pos rfl]; simp [atB, hx]
  · rw [if_neg h]; simp [atB, List.getElem?_set_ne (Ne.symm h)]
theorem encB_setK (xs : List Bool) (k : Nat) (v : Bool) : encB (xs.set k v) = (encB xs).set k (.bool v) := by simp [encB, List.map_set]

section
variable {ls : List (Int × Int × Int)} {on : List Bool} {nb : Nat}
/-- One round over the lines, up to line k. -/
structure Pass (ls : List (Int × Int × Int)) (on : List Bool) (s0 sn : List Bool) (k : Nat) : Prop where
  up : ∀ x, atB s0 x = true → atB sn x = true
  did : ∀ j, j < k → onP on j → (atB s0 (at3 ls j).1.toNat = true ∨ atB s0 (at3 ls j).2.1.toNat = true) → atB sn (at3 ls j).1.toNat = true ∧ atB sn (at3 ls j).2.1.toNat = true
/-- Only buses of the island are seen. -/
structure Sound (ls : List (Int × Int × Int)) (on : List Bool) (nb bus : Nat) (sn : List Bool) : Prop where
  len : sn.length = nb
  snd : ∀ x : Nat, x < nb → atB sn x = true → Con ls (onP on) bus x
theorem Pass.zero (s0 : List Bool) : Pass ls on s0 s0 0 := ⟨fun _ h => h, fun _ hj => absurd hj (by omega)⟩
theorem Pass.skip {s0 sn : List Bool} {k : Nat} (h : Pass ls on s0 sn k) (hn : onP on k → atB sn (at3 ls k).1.toNat = false ∧ atB sn (at3 ls k).2.1.toNat = false) : Pass ls on s0 sn (k + 1) :=
  ⟨h.up, fun j hj ho hs => by
    by_cases hjk : j = k
    · subst hjk
      obtain ⟨n1, n2⟩ := hn ho
      rcases hs with hs | hs
      · rw [h.up _ hs] at n1; cases n1
      · rw [h.up _ hs] at n2; cases n2
    · exact h.did j (by omega) ho hs⟩
theorem Pass.set {s0 sn : List Bool} {k a b : Nat} (h : Pass ls on s0 sn k) (ha : (at3 ls k).1 = a) (hb : (at3 ls k).2.1 = b) (hla : a < sn.length) (hlb : b < sn.length) : Pass ls on s0 ((sn.set a true).set b true) (k + 1) := by
  have key : ∀ x, atB ((sn.set a true).set b true) x = if x = b then true else if x = a then true else atB sn x := fun x => by
    rw [atB_set _ b x true (by simpa using hlb), atB_set sn a x true hla]
  have mono : ∀ x, atB sn x = true → atB ((sn.set a true).set b true) x = true := fun x hx => by
    rw [key]; split; rfl; split; rfl; exact hx
  refine ⟨fun x hx => mono x (h.up x hx), fun j hj ho hs => ?_⟩
  by_cases hjk : j = k
  · subst hjk
    rw [ha, hb, Int.toNat_natCast, Int.toNat_natCast, key, key]
    by_cases hab : a = b <;> simp [hab]
  · obtain ⟨d1, d2⟩ := h.did j (by omega) ho hs
    exact ⟨mono _ d1, mono _ d2⟩
theorem Sound.set {sn : List Bool} {bus k a b : Nat} (h : Sound ls on nb bus sn) (hk : k < ls.length) (ho : onP on k) (ha : (at3 ls k).1 = a) (hb : (at3 ls k).2.1 = b) (hla : a < nb) (hlb : b < nb) (hs : atB sn a = true ∨ atB sn b = true) : Sound ls on nb bus ((sn.set a true).set b true) := by
  refine ⟨by simp [h.len], fun x hx hsx => ?_⟩
  rw [atB_set _ b x true (by simpa [h.len] using hlb), atB_set sn a x true (by rw [h.len]; exact hla)] at hsx
  have hline := Con.line (ls := ls) (S := onP on) hk ho
  rw [ha, hb] at hline
  have hboth : Con ls (onP on) bus a ∧ Con ls (onP on) bus b := by
    rcases hs with hs | hs
    · have := h.snd a hla hs
      exact ⟨this, this.trans hline⟩
    · have := h.snd b hlb hs
      exact ⟨this.trans hline.sym, this⟩
  split at hsx
  · rename_i he; subst he; exact hboth.2
  · split at hsx
    · rename_i he; subst he; exact hboth.1
    · exact h.snd x hx hsx
/-- What is reached within s steps is seen. -/
def Got (ls : List (Int × Int × Int)) (on : List Bool) (nb bus s : Nat) (sn : List Bool) : Prop := ∀ x : Nat, x < nb → Rch (EdgeP ls (onP on)) bus s x → atB sn x = true
theorem edge_in (hv : netB nb ls = true) {S : Nat → Prop} {u v : Int} (h : EdgeP ls S u v) : (0 ≤ u ∧ u < nb) ∧ (0 ≤ v ∧ v < nb) := by
  obtain ⟨k, hk, _, h⟩ := h
  obtain ⟨m1, m2, _⟩ := net_at hv k hk
  rcases h with ⟨rfl, rfl⟩ | ⟨rfl, rfl⟩
  · exact ⟨m1, m2⟩
  · exact ⟨m2, m1⟩
theorem Got.next (hv : netB nb ls = true) {s0 sn : List Bool} {bus s : Nat} (hg : Got ls on nb bus s s0) (hp : Pass ls on s0 sn ls.length) : Got ls on nb bus (s + 1) sn := by
  intro x hx hr
  rcases hr with hr | ⟨v, he, hr⟩
  · exact hp.up x (hg x hx hr)
  · obtain ⟨_, v1, v2⟩ := edge_in hv he
    obtain ⟨v, rfl⟩ := Int.eq_ofNat_of_zero_le v1
    have hsv := hg v (by omega) hr
    obtain ⟨k, hk, ho, h⟩ := he
    rcases h with ⟨h1, h2⟩ | ⟨h1, h2⟩
    · have := (hp.did k hk ho (by rw [h2, Int.toNat_natCast]; exact .inr hsv)).1
      rwa [h1, Int.toNat_natCast] at this
    · have := (hp.did k hk ho (by rw [h1, Int.toNat_natCast]; exact .inl hsv)).2
      rwa [h2, Int.toNat_natCast] at this
/-- Seen is what is in the island. -/
def SeenAll (ls : List (Int × Int × Int)) (on : List Bool) (nb bus : Nat) (sn : List Bool) : Prop := sn.length = nb ∧ ∀ x : Nat, x < nb → (atB sn x = true ↔ Con ls (onP on) bus x)
theorem seen_all (hv : netB nb ls = true) {sn : List Bool} {bus : Nat} (hb : bus < nb) (hg : Got ls on nb bus nb sn) (hs : Sound ls on nb bus sn) : SeenAll ls on nb bus sn :=
  ⟨hs.len, fun x hx => ⟨hs.snd x hx, fun hc => hg x hx ((Rea.enough nb (by omega) (fun u v h => (edge_in hv h).1) hc).up nb (by omega))⟩⟩
theorem atB_rep (n x : Nat) : atB (List.replicate n false) x = false := by
  unfold atB
  by_cases h : x < n
  · simp [h]
  · simp [h]
theorem Sound.start (bus : Nat) (hb : bus < nb) : Sound ls on nb bus ((List.replicate nb false).set bus true) :=
  ⟨by simp, fun x hx hs => by
    rw [atB_set _ bus x true (by simpa using hb)] at hs
    split at hs
    · rename_i he; subst he; exact Con.refl _ _
    · rw [atB_rep] at hs; cases hs⟩
theorem Got.start (bus : Nat) (hb : bus < nb) : Got ls on nb bus 0 ((List.replicate nb false).set bus true) := by
  intro x hx hr
  have : x = bus := by have : (x : Int) = bus := hr; omega
  rw [atB_set _ bus x true (by simpa using hb), if_pos this]
end

set_option maxHeartbeats 1000000 in
theorem l3Reach_any (nb bus : Nat) (A D : Option Addr) (c d : Nat) (ls : List (Int × Int × Int)) (on : List Bool) (w : World) (h : Sl w w.heap.size 3 A ls.length (enc3 ls)) (g : Sl w w.heap.size 1 D ls.length (encB on)) (hl : on.length = ls.length) (hv : netB nb ls = true) (hbus : bus < nb) :
    Calls Tryd.prog 76 #[.agg #[.int .i64 nb, .slice A ls.length c], .slice D ls.length d, .int .i64 bus] w fun e w' => ∃ sn q, e = .returned (.slice (some ⟨q, 0, none⟩) nb nb) ∧ w'.ownsRow w.heap.size 4 1 (.slice (some ⟨q, 0, none⟩) nb nb) nb (encB sn) ∧ SeenAll ls on nb bus sn ∧ Below w.heap.size w w' := by
  have hsz : (w.alloc (.cells #[.int .i64 nb, .slice A ls.length c] 25)).heap.size = w.heap.size + 1 := by simp
  have B0 := Blk.new w 25 #[.int .i64 nb, .slice A ls.length c]
  have bw := (Below.refl _ w).alloc (Nat.le_refl _) (.cells #[.int .i64 nb, .slice A ls.length c] 25)
  obtain ⟨⟨n1, n2⟩, n3⟩ := net_len hv
  have hmk := run_make_f (P := Tryd.prog) 26 4 Tryd.underlying26 infoB nb nb (Nat.le_refl _) (by omega) (by omega)
  have HM := own_madeF (w := w.alloc (.cells #[.int .i64 nb, .slice A ls.length c] 25)) (e := 4) (n := nb) (cs := encB (List.replicate nb false)) (by simp [encB]) (by unfold maxLen; omega)
  rw [show partF (encB (List.replicate nb false)) 0 = encB (List.replicate nb false) by rw [partF_zero]; simp [frow, encB]] at HM
  have hb2 := B0.alloc (.cells (frow nb) 4)
  have hk2 := bw.alloc (by omega) (.cells (frow nb) 4)
  rw [hsz] at HM
  have O0 := hide HM
  have HV := hide hv
  have HH := hide h
  have GG := hide g
  have B1 := hide hb2
  have K1 := hide hk2
  have x1 := O0.out.cellAt bus (by omega)
  rw [encB_at _ bus (by simpa using hbus)] at x1
  have x2 := O0.out.frozenAt bus
  have O1 := hide ((O0.out.stored bus (.bool true)).1)
  rw [← encB_setK] at O1
  have B2 := hide (B1.out.far (p := ⟨w.heap.size + 1, bus, none⟩) (by simp) (.bool true))
  have K2 := hide (K1.out.setCell (p := ⟨w.heap.size + 1, bus, none⟩) (by simp) (.bool true))
  rw [World.setCell_alloc_at _ _ _ _ _ hsz.symm] at O1 B2 K2
  have i0 : (0 : Int) ≤ bus := by omega
  have i1 : (bus : Int) < nb := by omega
  clear HM hb2 hk2 B0 bw hv h g
  go_enter Tryd.func76, Tryd.ntmps76
  go_wp2_with fail
  go_loopw [8] (fun x wr => ∃ (s : Nat) (sn : List Bool), s ≤ nb ∧ x = .int .i64 s ∧ Hid (wr.ownsRow (w.heap.size + 1) 4 1 (.slice (some ⟨w.heap.size + 1, 0, none⟩) nb nb) nb (encB sn)) ∧ Hid (Got ls on nb bus s sn) ∧ Hid (Sound ls on nb bus sn) ∧ Hid (Blk wr w.heap.size 25 #[.int .i64 nb, .slice A ls.length c]) ∧ Hid (Below w.heap.size w wr)) (fun x _ => nb - (intOf x).toNat)
  case atStart => exact ⟨0, _, Nat.zero_le _, rfl, O1, hide (Got.start bus hbus), hide (Sound.start bus hbus), B2, K2⟩
  case round =>
    clear O0 O1 B1 K1 B2 K2 x1 x2
    obtain ⟨s, sn, hs, rfl, HO, HG, HS, HB, HK⟩ := hrel
    obtain ⟨g0, g1⟩ := HB.out.two
    by_cases hlt : s < nb
    · go_wp2_with fail
      go_loopw [9] (fun x wr => ∃ (k : Nat) (tn : List Bool), k ≤ ls.length ∧ x = .int .i64 k ∧ Hid (wr.ownsRow (w.heap.size + 1) 4 1 (.slice (some ⟨w.heap.size + 1, 0, none⟩) nb nb) nb (encB tn)) ∧ Hid (Pass ls on sn tn k) ∧ Hid (Sound ls on nb bus tn) ∧ Hid (Blk wr w.heap.size 25 #[.int .i64 nb, .slice A ls.length c]) ∧ Hid (Below w.heap.size w wr)) (fun x _ => ls.length - (intOf x).toNat)
      case atStart => exact ⟨0, sn, Nat.zero_le _, rfl, HO, hide (Pass.zero sn), HS, HB, HK⟩
      case round =>
        clear HO HS HB HK g0 g1
        obtain ⟨k, tn, hk, rfl, HO, HP, HS, HB, HK⟩ := hrel
        obtain ⟨g0, g1⟩ := HB.out.two
        by_cases hkl : k < ls.length
        · obtain ⟨b0, o0, rfl, hb, hd0, hd1, hd2⟩ := HH.out.three k hkl
          obtain ⟨b1, o1, rfl, hb1, he⟩ := GG.out.boolL hl k hkl
          have d0 := (HK.out.cell (p := ⟨b0, o0 + k * 3, none⟩) hb).trans hd0
          have d1 := (HK.out.cell (p := ⟨b0, o0 + k * 3 + 1, none⟩) hb).trans hd1
          have d2 := (HK.out.cell (p := ⟨b0, o0 + k * 3 + 2, none⟩) hb).trans hd2
          have e0 := (HK.out.cell (p := ⟨b1, o1 + k, none⟩) hb1).trans he
          have hz3 := HK.out.size
          have hb0 : b0 < wr.heap.size := by omega
          have hb10 : b1 < wr.heap.size := by omega
          obtain ⟨m1, m2, m3, m4⟩ := net_at HV.out k hkl
          obtain ⟨x, hx⟩ := Int.eq_ofNat_of_zero_le m1.1
          obtain ⟨y, hy⟩ := Int.eq_ofNat_of_zero_le m2.1
          have HX := hide hx
          have HY := hide hy
          have hq := HO.out.lt _ rfl
          have kk := (Below.refl _ wr).alloc (Nat.le_refl _) (.cells #[.int .i64 x, .int .i64 y, .int .i64 (at3 ls k).2.2] 60)
          have O2 := hide (HO.out.keepB kk)
          have B2 := hide (HB.out.to kk)
          have K2 := hide (HK.out.then kk)
          have L2 := hide (Blk.new wr 60 #[.int .i64 x, .int .i64 y, .int .i64 (at3 ls k).2.2])
          have hxn : x < nb := by omega
          have hyn : y < nb := by omega
          have j0 : (0 : Int) ≤ x := by omega
          have j1 : (x : Int) < nb := by omega
          have j2 : (0 : Int) ≤ y := by omega
          have j3 : (y : Int) < nb := by omega
          have q0 : (0 : Int) ≤ k := by omega
          have q1 : (k : Int) < ls.length := by omega
          rw [hx] at d0
          rw [hy] at d1
          have y1 := O2.out.cellAt x (by omega)
          rw [encB_at _ x (by rw [HS.out.len]; exact hxn)] at y1
          have y2 := O2.out.cellAt y (by omega)
          rw [encB_at _ y (by rw [HS.out.len]; exact hyn)] at y2
          have y3 := O2.out.frozenAt x
          have y4 := O2.out.frozenAt y
          clear hd0 hd1 hd2 kk HO HB HK he m1 m2 m3 m4 hx hy
          cases hon : atB on k
          · have HON := hide hon
            rw [hon] at e0
            go_wp2_with fail
            go_roundw
            case rel => exact ⟨k + 1, tn, by omega, by go_num, O2, hide (HP.out.skip fun ho => by unfold onP at ho; rw [HON.out] at ho; cases ho), HS, B2, K2⟩
            case measure => simp [intOf]; omega
          · have HON := hide hon
            rw [hon] at e0
            cases hsx : atB tn x <;> cases hsy : atB tn y
            · rw [hsx] at y1
              rw [hsy] at y2
              have HSX := hide hsx
              have HSY := hide hsy
              clear hsx hsy hon
              go_wp2_with fail
              go_roundw
              case rel => exact ⟨k + 1, tn, by omega, by go_num, O2, hide (HP.out.skip fun ho => by rw [HX.out, HY.out, Int.toNat_natCast, Int.toNat_natCast]; exact ⟨HSX.out, HSY.out⟩), HS, B2, K2⟩
              case measure => simp [intOf]; omega
            all_goals
              rw [hsx] at y1
              rw [hsy] at y2
              have HP2 := hide (HP.out.set HX.out HY.out (by rw [HS.out.len]; exact hxn) (by rw [HS.out.len]; exact hyn))
              have HS2 := hide (HS.out.set hkl HON.out HX.out HY.out hxn hyn (by simp [hsx, hsy]))
              have O3 := hide ((O2.out.stored x (.bool true)).1)
              have O4 := hide ((O3.out.stored y (.bool true)).1)
              rw [← encB_setK, ← encB_setK] at O4
              rw [← encB_setK] at O3
              have z2 := O3.out.cellAt y (by omega)
              rw [encB_at _ y (by rw [List.length_set, HS.out.len]; exact hyn)] at z2
              have z4 := O3.out.frozenAt y
              have L3 := hide (L2.out.far (p := ⟨w.heap.size + 1, x, none⟩) (by simp; omega) (.bool true))
              have B3 := hide ((B2.out.far (p := ⟨w.heap.size + 1, x, none⟩) (by simp) (.bool true)).far (p := ⟨w.heap.size + 1, y, none⟩) (by simp) (.bool true))
              have K3 := hide ((K2.out.setCell (p := ⟨w.heap.size + 1, x, none⟩) (by simp) (.bool true)).setCell (p := ⟨w.heap.size + 1, y, none⟩) (by simp) (.bool true))
              have hp1 := fun (o : Obj) (v : Value) => World.setCell_alloc_past (w := wr) o (w.heap.size + 1) x v hq.2
              have hp2 := fun (o : Obj) (v : Value) => World.setCell_alloc_past (w := wr.setCell ⟨w.heap.size + 1, x, none⟩ (.bool true)) o (w.heap.size + 1) y v (by simpa using hq.2)
              rw [hp1] at z2 z4 L3
              rw [hp1, hp2] at O4 B3 K3
              obtain ⟨l0, l1, l2⟩ := L3.out.three
              clear hsx hsy hon O2 B2 K2 hp1 hp2
              go_wp2_with fail
              go_roundw
              case rel => exact ⟨k + 1, _, by omega, by go_num, O4, HP2, HS2, B3, K3⟩
              case measure => simp [intOf]; omega
        · obtain rfl : k = ls.length := by omega
          go_wp2_with fail
          go_roundw
          case rel => exact ⟨s + 1, tn, by omega, by go_num, HO, hide (HG.out.next HV.out HP.out), HS, HB, HK⟩
          case measure => simp [intOf]; omega
    · obtain rfl : s = nb := by omega
      go_wp2_with fail
      go_ret
      exact ⟨sn, _, rfl, own_mono HO.out (by omega), seen_all HV.out hbus HG.out HS.out, HK.out⟩

end Go.Proofs.YtbebhbcjdiahcaaDoor
