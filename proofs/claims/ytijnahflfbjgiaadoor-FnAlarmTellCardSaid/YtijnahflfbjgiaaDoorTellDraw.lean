/-
  The law FnAlarmTell over drawn alarms: what is drawn, and how two lists of alarms are compared.
-/
import Derived.Test.YtijnahflfbjgiaaDoorAlDraw
import Derived.Test.YtijnahflfbjgiaaDoorAlarms
namespace Go.Proofs.YtijnahflfbjgiaaDoor
open Go.RowKit
set_option linter.unusedVariables false

/-- A drawn list of alarms and three numbers, in memory of the call's own. -/
def GotTell (w : World) (e : Ending) (w' : World) : Prop :=
  ∃ (xs : List (Int × Int × Int)) (D : Option Addr) (d : Nat) (i v t : Int), xs.length ≤ 9 ∧ e = .returned (.tuple #[.slice D xs.length d, .int .i64 i, .int .i64 v, .int .i64 t]) ∧ w'.ownsRow w.heap.size 31 3 (.slice D xs.length d) xs.length (enc3 xs) ∧ Below w.heap.size w w' ∧ -1 ≤ i ∧ i ≤ 10

set_option maxHeartbeats 1000000 in
theorem DrawAlarmTell_any (A : Option Addr) (c : Nat) (xs : List Int) (w : World) (h : Sl w w.heap.size 1 A xs.length (encU xs)) (hc : xs.length ≤ c) (hm : c ≤ maxLen) (hx : ∀ n ∈ xs, 0 ≤ n ∧ n ≤ 255) :
    Calls Tryd.prog 12 #[.slice A xs.length c] w (GotTell w) := by
  go_enter Tryd.func12, Tryd.ntmps12
  go_wp2_with fail
  refine (l20Open_any _ _ _ _ h hc hm hx).mono ?_
  rintro e w0 ⟨rfl, hr, hb⟩
  have hr0 : RdU w.heap.size w0 w.heap.size 0 := ⟨0, Nat.le_refl _, hr⟩
  have K := hide hb
  have hs := hb.size
  clear hr hb hx
  go_wp2_with fail
  refine (l20Alarms_any _ _ _ _ _ hr0 (by omega) (by omega)).mono ?_
  rintro e w1 ⟨ys, D, d, h1, h2, rfl, h3, h4, h5⟩
  have K1 := hide (K.out.trans (below_of_grown h5 (Nat.le_refl _) hr0.lt))
  have hs1 := K1.out.size
  have hl0 := hr0.lt
  have H3 := hide h3
  have H4 := h4
  clear h2 h3 h4 h5 hr0
  go_wp2_with fail
  refine (pick_u _ _ _ _ _ H4 (by omega)).mono ?_
  rintro e w2 ⟨v1, a1, a2, _, rfl, k2, o2⟩
  have a3 := a2 (by omega)
  have O2 := hide (o2.own H3.out (by omega))
  have L2 := hide (K1.out.trans (o2.below (Nat.le_refl _)))
  clear a2 o2 H3 H4
  go_wp2_with fail
  refine (pick_u _ _ _ _ _ k2 (by omega)).mono ?_
  rintro e w3 ⟨v2, b1, b2, _, rfl, k3, o3⟩
  have b3 := b2 (by omega)
  have O3 := hide (o3.own O2.out (by omega))
  have L3 := hide (L2.out.trans (o3.below (Nat.le_refl _)))
  clear b2 o3 O2 k2
  go_wp2_with fail
  refine (pick_u _ _ _ _ _ k3 (by omega)).mono ?_
  rintro e w4 ⟨v3, c1, c2, _, rfl, k4, o4⟩
  have c3 := c2 (by omega)
  have O4 := hide (o4.own O3.out (by omega))
  have L4 := hide (L3.out.trans (o4.below (Nat.le_refl _)))
  clear c2 o4 O3 k3
  go_wp2_with fail
  refine (pick_u _ _ _ _ _ k4 (by omega)).mono ?_
  rintro e w5 ⟨v4, d1, d2, _, rfl, k5, o5⟩
  have d3 := d2 (by omega)
  have O5 := hide (o5.own O4.out (by omega))
  have L5 := hide (L4.out.trans (o5.below (Nat.le_refl _)))
  clear d2 o5 O4 k4
  go_wp2_with fail
  refine (pick_u _ _ _ _ _ k5 (by omega)).mono ?_
  rintro e w6 ⟨v5, e1, e2, _, rfl, k6, o6⟩
  have e3 := e2 (by omega)
  have O6 := hide (o6.own O5.out (by omega))
  have L6 := hide (L5.out.trans (o6.below (Nat.le_refl _)))
  clear e2 o6 O5 k5
  go_wp2_with fail
  refine (pick_u _ _ _ _ _ k6 (by omega)).mono ?_
  rintro e w7 ⟨v6, f1, f2, _, rfl, k7, o7⟩
  have f3 := f2 (by omega)
  have O7 := hide (o7.own O6.out (by omega))
  have L7 := hide (L6.out.trans (o7.below (Nat.le_refl _)))
  clear f2 o7 O6 k6
  go_wp2_with fail
  (try simp only [Exit.inBlock, Exit.then])
  refine bodyPost_ret (v := .tuple #[.slice D ys.length d, .int .i64 (v1 - v2 / 11), .int .i64 (v3 + v4 / 19), .int .i64 (v5 - v6 / 19 * 61)]) (by simp [results, Tryd.results12, go_sem]) rfl ?_
  exact ⟨ys, D, d, _, _, _, h1, rfl, own_mono O7.out hs, L7.out, by omega, by omega⟩

theorem sameAl_ne (A D : Option Addr) (c d : Nat) (xs ys : List (Int × Int × Int)) (w : World) (h : xs.length ≠ ys.length) (hm : xs.length ≤ 1048576) (hm2 : ys.length ≤ 1048576) :
    Calls Tryd.prog 15 #[.slice A xs.length c, .slice D ys.length d] w fun e w' => e = .returned (.bool false) ∧ w = w' := by
  have hl1 : ((xs.length : Int) != ys.length) = true := by simp; omega
  clear h
  go_enter Tryd.func15, Tryd.ntmps15
  go_wp2_with fail
  go_ret
  exact ⟨rfl, rfl⟩
theorem sameAl_eq (A D : Option Addr) (c d : Nat) (xs : List (Int × Int × Int)) (w : World) (h : Sl w w.heap.size 3 A xs.length (enc3 xs)) (g : Sl w w.heap.size 3 D xs.length (enc3 xs)) (hm : xs.length ≤ 1048576) :
    Calls Tryd.prog 15 #[.slice A xs.length c, .slice D xs.length d] w fun e w' => e = .returned (.bool true) ∧ Below w.heap.size w w' := by
  go_enter Tryd.func15, Tryd.ntmps15
  go_wp2_with fail
  go_loopw [5] (fun i wr => ∃ k : Nat, k ≤ xs.length ∧ i = .int .i64 k ∧ Below w.heap.size w wr) (fun i _ => xs.length - (intOf i).toNat)
  case atStart => exact ⟨0, Nat.zero_le _, rfl, Below.refl _ _⟩
  case round =>
    obtain ⟨k, hk, rfl, hb⟩ := hrel
    by_cases hlt : k < xs.length
    · obtain ⟨b, off, rfl, hbb, hc, hd, he⟩ := h.three k hlt
      obtain ⟨b2, off2, rfl, hbb2, hc2, hd2, he2⟩ := g.three k hlt
      have r1 := (hb.cell (p := ⟨b, off + k * 3, none⟩) hbb).trans hc
      have r2 := (hb.cell (p := ⟨b, off + k * 3 + 1, none⟩) hbb).trans hd
      have r3 := (hb.cell (p := ⟨b, off + k * 3 + 2, none⟩) hbb).trans he
      have s1 := (hb.cell (p := ⟨b2, off2 + k * 3, none⟩) hbb2).trans hc2
      have s2 := (hb.cell (p := ⟨b2, off2 + k * 3 + 1, none⟩) hbb2).trans hd2
      have s3 := (hb.cell (p := ⟨b2, off2 + k * 3 + 2, none⟩) hbb2).trans he2
      clear hc hd he hc2 hd2 he2
      have HB := hide hb
      clear hb
      go_wp2_with fail
      go_quiet (fail)
      go_wp2_with fail
      go_roundw
      case rel => exact ⟨k + 1, by omega, by go_num, by first | exact HB.out | exact HB.out.drew | exact below_drewN HB.out _⟩
      case measure => simp [intOf]; omega
    · go_wp2_with fail
      go_ret
      exact ⟨rfl, hb⟩

end Go.Proofs.YtijnahflfbjgiaaDoor
