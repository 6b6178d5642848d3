/-
  Contracts of the laws' own functions over structs of three numbers: copying, comparing and marking. (Written by a program of mine, wip/tools/gen5.py.)
-/
import Derived.Test.YtkocagdiikaneaaPairs
namespace Go.Proofs.Ytkocagdiikaneaa
open Go.RowKit
set_option linter.unusedVariables false

def eqT (p q : Int × Int × Int) : Bool := p == q
theorem eqT_yes {p q : Int × Int × Int} (h1 : p.1 = q.1) (h2 : p.2.1 = q.2.1) (h3 : p.2.2 = q.2.2) : eqT p q = true := by simp [eqT, Prod.ext_iff, h1, h2, h3]
theorem eqT_no1 {p q : Int × Int × Int} (h1 : p.1 ≠ q.1) : eqT p q = false := by simp [eqT, Prod.ext_iff, h1]
theorem eqT_no2 {p q : Int × Int × Int} (h1 : p.2.1 ≠ q.2.1) : eqT p q = false := by simp [eqT, Prod.ext_iff, h1]
theorem eqT_no3 {p q : Int × Int × Int} (h1 : p.2.2 ≠ q.2.2) : eqT p q = false := by simp [eqT, Prod.ext_iff, h1]
theorem eqT_true {p q : Int × Int × Int} (h : eqT p q = true) : p = q := by simpa [eqT] using h
theorem eqT_false {p q : Int × Int × Int} (h : eqT p q = false) : p ≠ q := by simpa [eqT] using h

theorem infoLine : (Try.prog.info? 76).map (fun i => (i.zero, i.size, i.bytes)) = some (some (.agg #[.int .i64 0, .int .i64 0, .int .i64 0]), 3, 24) := by kernel_rfl

theorem toLine_any (p : Int × Int × Int) (w : World) :
    Calls Try.prog 47 #[.agg #[.int .i64 p.1, .int .i64 p.2.1, .int .i64 p.2.2]] w fun e w' => e = .returned (.agg #[.int .i64 p.1, .int .i64 p.2.1, .int .i64 p.2.2]) ∧ Below w.heap.size w w' := by
  go_enter Try.func47, Try.ntmps47
  go_wp2
  refine bodyPost_ret (v := .agg #[.int .i64 p.1, .int .i64 p.2.1, .int .i64 p.2.2]) (by simp [results, Try.results47, go_sem]) rfl ⟨rfl, ?_⟩
  repeat (first | exact Below.refl _ _ | (refine Below.alloc ?_ (by simp <;> omega) _))

theorem eqLine_any (p q : Int × Int × Int) (w : World) :
    Calls Try.prog 52 #[.agg #[.int .i64 p.1, .int .i64 p.2.1, .int .i64 p.2.2], .agg #[.int .i64 q.1, .int .i64 q.2.1, .int .i64 q.2.2]] w fun e w' => e = .returned (.bool (eqT p q)) ∧ Below w.heap.size w w' := by
  by_cases h1 : p.1 = q.1
  · have b1 : (p.1 != q.1) = false := by simp [h1]
    have H1 := hide h1
    clear h1
    by_cases h2 : p.2.1 = q.2.1
    · have b2 : (p.2.1 != q.2.1) = false := by simp [h2]
      have H2 := hide h2
      clear h2
      by_cases h3 : p.2.2 = q.2.2
      · have b3 : (p.2.2 != q.2.2) = false := by simp [h3]
        have H3 := hide h3
        clear h3
        go_enter Try.func52, Try.ntmps52
        go_wp2
        all_goals (try go_quiet (fail))
        all_goals go_wp2
        all_goals (try go_quiet (fail))
        all_goals go_wp2
        all_goals (try go_quiet (fail))
        all_goals go_wp2
        go_ret
        refine ⟨ret_bool (eqT_yes H1.out H2.out H3.out).symm, ?_⟩
        repeat (first | exact Below.refl _ _ | exact below_drewN ((Below.refl _ _)) _ | refine Below.drew ?_ | refine below_drewN ?_ _ | (refine Below.alloc ?_ (by simp <;> omega) _))
      · have b3 : (p.2.2 != q.2.2) = true := by simp [h3]
        have H3 := hide h3
        clear h3
        go_enter Try.func52, Try.ntmps52
        go_wp2
        all_goals (try go_quiet (fail))
        all_goals go_wp2
        all_goals (try go_quiet (fail))
        all_goals go_wp2
        all_goals (try go_quiet (fail))
        all_goals go_wp2
        go_ret
        refine ⟨ret_bool (eqT_no3 H3.out).symm, ?_⟩
        repeat (first | exact Below.refl _ _ | refine Below.drew ?_ | refine below_drewN ?_ _ | (refine Below.alloc ?_ (by simp <;> omega) _))
    · have b2 : (p.2.1 != q.2.1) = true := by simp [h2]
      have H2 := hide h2
      clear h2
      go_enter Try.func52, Try.ntmps52
      go_wp2
      all_goals (try go_quiet (fail))
      all_goals go_wp2
      all_goals (try go_quiet (fail))
      all_goals go_wp2
      go_ret
      refine ⟨ret_bool (eqT_no2 H2.out).symm, ?_⟩
      repeat (first | exact Below.refl _ _ | refine Below.drew ?_ | refine below_drewN ?_ _ | (refine Below.alloc ?_ (by simp <;> omega) _))
  · have b1 : (p.1 != q.1) = true := by simp [h1]
    have H1 := hide h1
    clear h1
    go_enter Try.func52, Try.ntmps52
    go_wp2
    all_goals (try go_quiet (fail))
    all_goals go_wp2
    go_ret
    refine ⟨ret_bool (eqT_no1 H1.out).symm, ?_⟩
    repeat (first | exact Below.refl _ _ | refine Below.drew ?_ | refine below_drewN ?_ _ | (refine Below.alloc ?_ (by simp <;> omega) _))

theorem szLineS_any (A : Option Addr) (c n : Nat) (left : Int) (w : World) (hn : n ≤ 9223372036854775807) (h0 : 0 ≤ left) (h1 : left ≤ 1048576) :
    Calls Try.prog 27 #[.slice A n c, .int .i64 left] w fun e w' => e = .returned (.int .i64 (szOf n left)) ∧ w = w' := by
  by_cases h : left < n
  all_goals
    go_enter Try.func27, Try.ntmps27
    go_wp2
    go_ret
    exact ⟨ret_int (by unfold szOf; first | rw [if_pos (by omega)] | rw [if_neg (by omega)]), rfl⟩

theorem toLineS_any (A : Option Addr) (c : Nat) (xs : List (Int × Int × Int)) (w : World) (h : Sl w w.heap.size 3 A xs.length (enc3 xs)) (hm : xs.length ≤ 1048576) :
    Calls Try.prog 31 #[.slice A xs.length c] w fun e w' => ∃ D d, e = .returned (.slice D xs.length d) ∧ w'.ownsRow w.heap.size 76 3 (.slice D xs.length d) xs.length (enc3 xs) ∧ Below w.heap.size w w' := by
  have hmk := run_make_z (P := Try.prog) 31 76 _ 3 24 Try.underlying31 infoLine rfl (by omega) xs.length xs.length (Nat.le_refl _) (by omega) (by omega)
  have HO := hide (own_made (w := w) (e := 76) (size := 3) (n := xs.length) (cs := enc3 xs) (by simp [enc3_len]) (by unfold maxLen; omega))
  go_enter Try.func31, Try.ntmps31
  go_wp2
  go_loopw [4] (fun i wr => ∃ k : Nat, k ≤ xs.length ∧ i = .int .i64 k ∧ wr.ownsRow w.heap.size 76 3 (.slice (some ⟨w.heap.size, 0, none⟩) xs.length xs.length) xs.length (part (enc3 xs) (k * 3)) ∧ Below w.heap.size w wr) (fun i _ => xs.length - (intOf i).toNat)
  case atStart => exact ⟨0, Nat.zero_le _, rfl, by simpa using HO.out, (Below.refl _ _).alloc (Nat.le_refl _) _⟩
  case round =>
    obtain ⟨k, hk, rfl, hown, hb⟩ := hrel
    clear hmk
    by_cases hlt : k < xs.length
    · obtain ⟨b, off, rfl, hbb, hc, hd, hx⟩ := h.three k hlt
      have hc' := (hb.cell (p := ⟨b, off + k * 3, none⟩) hbb).trans hc
      have hd' := (hb.cell (p := ⟨b, off + k * 3 + 1, none⟩) hbb).trans hd
      have hx' := (hb.cell (p := ⟨b, off + k * 3 + 2, none⟩) hbb).trans hx
      have HO2 := hide hown
      have HB := hide hb
      clear hown hb
      go_wp2_with fail
      refine (toLine_any _ _).mono ?_
      rintro e w1 ⟨rfl, hb1⟩
      have hown1 := HO2.out.keepB hb1
      have hf := hown1.frozenAt (k * 3)
      have hf2 := hown1.frozenAt (k * 3 + 1)
      have hf3 := hown1.frozenAt (k * 3 + 2)
      obtain ⟨u, hs⟩ := own_cell hown1 (k * 3) (by omega)
      obtain ⟨u2, hs2⟩ := own_cell hown1 (k * 3 + 1) (by omega)
      obtain ⟨u3, hs3⟩ := own_cell hown1 (k * 3 + 2) (by omega)
      have HO3 := hide hown1
      have HB1 := hide hb1
      clear hown1 hb1
      go_wp2
      go_roundw
      case rel =>
        refine ⟨k + 1, by omega, by go_num, ?_, (((HB.out.trans (HB1.out.mono HB.out.size)).setCell (Nat.le_refl _) _).setCell (Nat.le_refl _) _).setCell (Nat.le_refl _) _⟩
        rw [show (k + 1) * 3 = k * 3 + 1 + 1 + 1 from by omega, ← part_set _ _ _ (show (enc3 xs)[k * 3 + 1 + 1]? = _ from enc3_at2 xs k hlt), ← part_set _ _ _ (enc3_at1 xs k hlt), ← part_set _ _ _ (enc3_at0 xs k hlt)]
        exact (((HO3.out.stored (k * 3) _).1.stored (k * 3 + 1) _).1.stored (k * 3 + 1 + 1) _).1
      case measure => simp [intOf]; omega
    · go_wp2
      go_ret
      rw [part_all _ _ (by simp [enc3_len]; omega)] at hown
      exact ⟨_, _, rfl, hown, hb⟩

theorem eqLineS_any (A D : Option Addr) (c d : Nat) (xs ys : List (Int × Int × Int)) (w : World) (h : Sl w w.heap.size 3 A xs.length (enc3 xs)) (g : Sl w w.heap.size 3 D ys.length (enc3 ys)) (hm : xs.length ≤ 1048576) :
    Calls Try.prog 36 #[.slice A xs.length c, .slice D ys.length d] w fun e w' => e = .returned (.bool (eq3 xs ys)) ∧ Below w.heap.size w w' := by
  by_cases hl : xs.length = ys.length
  · have hl1 : ((xs.length : Int) != ys.length) = false := by simp [hl]
    have HL := hide hl
    have hl2 : xs.length ≤ ys.length := by omega
    clear hl
    go_enter Try.func36, Try.ntmps36
    go_wp2
    go_loopw [5] (fun i wr => ∃ k : Nat, k ≤ xs.length ∧ i = .int .i64 k ∧ (∀ j, j < k → at3 xs j = at3 ys j) ∧ Below w.heap.size w wr) (fun i _ => xs.length - (intOf i).toNat)
    case atStart => exact ⟨0, Nat.zero_le _, rfl, fun j hj => absurd hj (by omega), Below.refl _ _⟩
    case round =>
      obtain ⟨k, hk, rfl, hall, hb⟩ := hrel
      have HA := hide hall
      clear hall
      by_cases hlt : k < xs.length
      · obtain ⟨b, off, rfl, hbb, hc, hd, hx⟩ := h.three k hlt
        obtain ⟨b2, off2, rfl, hbb2, hc2, hd2, hx2⟩ := g.three k (by omega)
        have hc' := (hb.cell (p := ⟨b, off + k * 3, none⟩) hbb).trans hc
        have hd' := (hb.cell (p := ⟨b, off + k * 3 + 1, none⟩) hbb).trans hd
        have hx' := (hb.cell (p := ⟨b, off + k * 3 + 2, none⟩) hbb).trans hx
        have hc2' := (hb.cell (p := ⟨b2, off2 + k * 3, none⟩) hbb2).trans hc2
        have hd2' := (hb.cell (p := ⟨b2, off2 + k * 3 + 1, none⟩) hbb2).trans hd2
        have hx2' := (hb.cell (p := ⟨b2, off2 + k * 3 + 2, none⟩) hbb2).trans hx2
        clear hc hd hc2 hd2 hx hx2
        have hlt2 : k < ys.length := by omega
        have i0 : (0 : Int) ≤ k := by omega
        have i1 : (k : Int) < xs.length := by omega
        have i2 : (k : Int) < ys.length := by omega
        have HB := hide hb
        clear hb
        cases he : eqT (at3 xs k) (at3 ys k)
        · go_wp2
          go_region_held3 (fun w' => w'.cell? ⟨b, off + k * 3, none⟩ = some (.int .i64 (at3 xs k).1) ∧ w'.cell? ⟨b, off + k * 3 + 1, none⟩ = some (.int .i64 (at3 xs k).2.1) ∧ w'.cell? ⟨b, off + k * 3 + 2, none⟩ = some (.int .i64 (at3 xs k).2.2) ∧ w'.cell? ⟨b2, off2 + k * 3, none⟩ = some (.int .i64 (at3 ys k).1) ∧ w'.cell? ⟨b2, off2 + k * 3 + 1, none⟩ = some (.int .i64 (at3 ys k).2.1) ∧ w'.cell? ⟨b2, off2 + k * 3 + 2, none⟩ = some (.int .i64 (at3 ys k).2.2))
            (first | go_keep | (refine ⟨cellk hb2 ?_, cellk hb2 ?_, cellk hb2 ?_, cellk hb2 ?_, cellk hb2 ?_, cellk hb2 ?_⟩ <;> go_keep))
            (first | (go_at_call 52; refine (eqLine_any _ _ _).mono ?_; rintro e w2 ⟨rfl, hb2⟩))
          go_wp2
          go_ret
          exact ⟨ret_bool (eq3_ne_at k (eqT_false he)).symm, HB.out.drew.trans (hb2.mono HB.out.drew.size)⟩
        · have HE := hide he
          go_wp2
          go_region_held3 (fun w' => w'.cell? ⟨b, off + k * 3, none⟩ = some (.int .i64 (at3 xs k).1) ∧ w'.cell? ⟨b, off + k * 3 + 1, none⟩ = some (.int .i64 (at3 xs k).2.1) ∧ w'.cell? ⟨b, off + k * 3 + 2, none⟩ = some (.int .i64 (at3 xs k).2.2) ∧ w'.cell? ⟨b2, off2 + k * 3, none⟩ = some (.int .i64 (at3 ys k).1) ∧ w'.cell? ⟨b2, off2 + k * 3 + 1, none⟩ = some (.int .i64 (at3 ys k).2.1) ∧ w'.cell? ⟨b2, off2 + k * 3 + 2, none⟩ = some (.int .i64 (at3 ys k).2.2))
            (first | go_keep | (refine ⟨cellk hb2 ?_, cellk hb2 ?_, cellk hb2 ?_, cellk hb2 ?_, cellk hb2 ?_, cellk hb2 ?_⟩ <;> go_keep))
            (first | (go_at_call 52; refine (eqLine_any _ _ _).mono ?_; rintro e w2 ⟨rfl, hb2⟩))
          have HB2 := hide hb2
          clear hb2
          go_wp2
          go_roundw
          case rel =>
            refine ⟨k + 1, by omega, by go_num, fun j hj => ?_, HB.out.drew.trans (HB2.out.mono HB.out.drew.size)⟩
            by_cases hjk : j = k
            · subst hjk; exact eqT_true HE.out
            · exact HA.out j (by omega)
          case measure => simp [intOf]; omega
      · go_wp2
        go_ret
        refine ⟨ret_bool ?_, hb⟩
        have : xs = ys := same_of_at3 HL.out fun j hj => HA.out j (by omega)
        simp [eq3, this]
  · have hl1 : ((xs.length : Int) != ys.length) = true := by simp; omega
    have HL := hide hl
    clear hl
    go_enter Try.func36, Try.ntmps36
    go_wp2
    go_ret
    refine ⟨ret_bool ?_, Below.refl _ _⟩
    unfold eq3
    symm
    simp
    rintro rfl
    exact HL.out rfl

/-- A list of the call's own is marked: only its block is written. -/
theorem markLineS_any (base : Nat) (A : Option Addr) (n c : Nat) (cs : List Value) (w : World) (hn : n ≤ 1048576) (ho : w.ownsRow base 76 3 (.slice A n c) n cs) :
    Calls Try.prog 38 #[.slice A n c, .int .i64 1] w fun e w' => e = .returned (.int .i64 (1 + 3 * n)) ∧ w.grownBy w' (Value.slice A n c).ownBlock ∧ w'.heap.size = w.heap.size := by
  have HO0 := hide ho
  clear ho
  go_enter Try.func38, Try.ntmps38
  go_wp2_with fail
  go_loopw [1, 5] (fun q i wr => ∃ (k : Nat) (ys : List Value), k ≤ n ∧ i = .int .i64 k ∧ q = .int .i64 (1 + 3 * (k : Int)) ∧ wr.ownsRow base 76 3 (.slice A n c) n ys ∧ w.grownBy wr (Value.slice A n c).ownBlock ∧ wr.heap.size = w.heap.size) (fun _ i _ => n - (intOf i).toNat)
  case atStart => exact ⟨0, cs, Nat.zero_le _, rfl, rfl, HO0.out, World.grownBy.refl _ _, rfl⟩
  case round =>
    obtain ⟨k, ys, hk, rfl, rfl, ho, hg, hz⟩ := hrel
    have HZ := hide hz
    clear hz
    by_cases hlt : k < n
    · obtain ⟨g, cap, hv, _, _⟩ := ho.form (by omega)
      cases hv
      have hf := ho.frozenAt (k * 3)
      have hf2 := ho.frozenAt (k * 3 + 1)
      have hf3 := ho.frozenAt (k * 3 + 2)
      obtain ⟨u, hs⟩ := own_cell ho (k * 3) (by omega)
      obtain ⟨u2, hs2⟩ := own_cell ho (k * 3 + 1) (by omega)
      obtain ⟨u3, hs3⟩ := own_cell ho (k * 3 + 2) (by omega)
      have HO := hide ho
      have HG := hide hg
      clear ho hg
      go_wp2_with fail
      go_roundw
      case rel => exact ⟨k + 1, _, by omega, by go_num, vint (by omega), (((HO.out.stored (k * 3) _).1.stored (k * 3 + 1) _).1.stored (k * 3 + 2) _).1, HG.out.trans ((HO.out.stored (k * 3) _).2.trans (((HO.out.stored (k * 3) _).1.stored (k * 3 + 1) _).2.trans (((HO.out.stored (k * 3) _).1.stored (k * 3 + 1) _).1.stored (k * 3 + 2) _).2)), by simpa [World.setCell] using HZ.out⟩
      case measure => simp [intOf]; omega
    · obtain rfl : k = n := by omega
      go_wp2_with fail
      go_ret
      exact ⟨rfl, hg, HZ.out⟩

end Go.Proofs.Ytkocagdiikaneaa
