/-
  Contracts of the laws' own functions over buses: copying and comparing. (Written by a program of mine, wip/tools/gen2.py.)
-/
import Derived.Test.YtkocagdiikaneaaPairs
import Derived.Test.YtkocagdiikaneaaMarkNet
namespace Go.Proofs.Ytkocagdiikaneaa
open Go.RowKit
set_option linter.unusedVariables false

theorem infoBus : (Try.prog.info? 55).map (fun i => (i.zero, i.size, i.bytes)) = some (some (.agg #[.int .i64 0, .int .i64 0]), 2, 16) := by kernel_rfl

theorem toBus_any (p : Int × Int) (w : World) :
    Calls Try.prog 32 #[.agg #[.int .i64 p.1, .int .i64 p.2]] w fun e w' => e = .returned (.agg #[.int .i64 p.1, .int .i64 p.2]) ∧ Below w.heap.size w w' := by
  go_enter Try.func32, Try.ntmps32
  go_wp2
  refine bodyPost_ret (v := .agg #[.int .i64 p.1, .int .i64 p.2]) (by simp [results, Try.results32, go_sem]) rfl ⟨rfl, ?_⟩
  repeat (first | exact Below.refl _ _ | (refine Below.alloc ?_ (by simp <;> omega) _))

theorem eqBus_any (p q : Int × Int) (w : World) :
    Calls Try.prog 37 #[.agg #[.int .i64 p.1, .int .i64 p.2], .agg #[.int .i64 q.1, .int .i64 q.2]] w fun e w' => e = .returned (.bool (eqP p q)) ∧ Below w.heap.size w w' := by
  by_cases h1 : p.1 = q.1
  · have b1 : (p.1 != q.1) = false := by simp [h1]
    have H1 := hide h1
    clear h1
    by_cases h2 : p.2 = q.2
    · have b2 : (p.2 != q.2) = false := by simp [h2]
      have H2 := hide h2
      clear h2
      go_enter Try.func37, Try.ntmps37
      go_wp2
      all_goals (try go_quiet (fail))
      all_goals go_wp2
      all_goals (try go_quiet (fail))
      all_goals go_wp2
      go_ret
      refine ⟨ret_bool (eqP_yes H1.out H2.out).symm, ?_⟩
      repeat (first | exact Below.refl _ _ | exact below_drewN ((Below.refl _ _)) _ | refine Below.drew ?_ | refine below_drewN ?_ _ | (refine Below.alloc ?_ (by simp <;> omega) _))
    · have b2 : (p.2 != q.2) = true := by simp [h2]
      have H2 := hide h2
      clear h2
      go_enter Try.func37, Try.ntmps37
      go_wp2
      all_goals (try go_quiet (fail))
      all_goals go_wp2
      all_goals (try go_quiet (fail))
      all_goals go_wp2
      go_ret
      refine ⟨ret_bool (eqP_no2 H2.out).symm, ?_⟩
      repeat (first | exact Below.refl _ _ | refine Below.drew ?_ | refine below_drewN ?_ _ | (refine Below.alloc ?_ (by simp <;> omega) _))
  · have b1 : (p.1 != q.1) = true := by simp [h1]
    have H1 := hide h1
    clear h1
    go_enter Try.func37, Try.ntmps37
    go_wp2
    all_goals (try go_quiet (fail))
    all_goals go_wp2
    go_ret
    refine ⟨ret_bool (eqP_no1 H1.out).symm, ?_⟩
    repeat (first | exact Below.refl _ _ | refine Below.drew ?_ | refine below_drewN ?_ _ | (refine Below.alloc ?_ (by simp <;> omega) _))

theorem szBusS_any (A : Option Addr) (c n : Nat) (left : Int) (w : World) (hn : n ≤ 9223372036854775807) (h0 : 0 ≤ left) (h1 : left ≤ 1048576) :
    Calls Try.prog 7 #[.slice A n c, .int .i64 left] w fun e w' => e = .returned (.int .i64 (szOf n left)) ∧ w = w' := by
  by_cases h : left < n
  all_goals
    go_enter Try.func7, Try.ntmps7
    go_wp2
    go_ret
    exact ⟨ret_int (by unfold szOf; first | rw [if_pos (by omega)] | rw [if_neg (by omega)]), rfl⟩

theorem toBusS_any (A : Option Addr) (c : Nat) (xs : List (Int × Int)) (w : World) (h : Sl w w.heap.size 2 A xs.length (enc2 xs)) (hm : xs.length ≤ 1048576) :
    Calls Try.prog 11 #[.slice A xs.length c] w fun e w' => ∃ D d, e = .returned (.slice D xs.length d) ∧ w'.ownsRow w.heap.size 55 2 (.slice D xs.length d) xs.length (enc2 xs) ∧ Below w.heap.size w w' := by
  have hmk := run_make_z (P := Try.prog) 36 55 _ 2 16 Try.underlying36 infoBus rfl (by omega) xs.length xs.length (Nat.le_refl _) (by omega) (by omega)
  have HO := hide (own_made (w := w) (e := 55) (size := 2) (n := xs.length) (cs := enc2 xs) (by simp [enc2_len]) (by unfold maxLen; omega))
  go_enter Try.func11, Try.ntmps11
  go_wp2
  go_loopw [4] (fun i wr => ∃ k : Nat, k ≤ xs.length ∧ i = .int .i64 k ∧ wr.ownsRow w.heap.size 55 2 (.slice (some ⟨w.heap.size, 0, none⟩) xs.length xs.length) xs.length (part (enc2 xs) (k * 2)) ∧ Below w.heap.size w wr) (fun i _ => xs.length - (intOf i).toNat)
  case atStart => exact ⟨0, Nat.zero_le _, rfl, by simpa using HO.out, (Below.refl _ _).alloc (Nat.le_refl _) _⟩
  case round =>
    obtain ⟨k, hk, rfl, hown, hb⟩ := hrel
    clear hmk
    by_cases hlt : k < xs.length
    · obtain ⟨b, off, rfl, hbb, hc, hd⟩ := h.two k hlt
      have hc' := (hb.cell (p := ⟨b, off + k * 2, none⟩) hbb).trans hc
      have hd' := (hb.cell (p := ⟨b, off + k * 2 + 1, none⟩) hbb).trans hd
      have HO2 := hide hown
      have HB := hide hb
      clear hown hb
      go_wp2_with fail
      refine (toBus_any _ _).mono ?_
      rintro e w1 ⟨rfl, hb1⟩
      have hown1 := HO2.out.keepB hb1
      have hf := hown1.frozenAt (k * 2)
      have hf2 := hown1.frozenAt (k * 2 + 1)
      obtain ⟨u, hs⟩ := own_cell hown1 (k * 2) (by omega)
      obtain ⟨u2, hs2⟩ := own_cell hown1 (k * 2 + 1) (by omega)
      have HO3 := hide hown1
      have HB1 := hide hb1
      clear hown1 hb1
      go_wp2
      go_roundw
      case rel =>
        refine ⟨k + 1, by omega, by go_num, ?_, ((HB.out.trans (HB1.out.mono HB.out.size)).setCell (Nat.le_refl _) _).setCell (Nat.le_refl _) _⟩
        rw [show (k + 1) * 2 = k * 2 + 1 + 1 from by omega, ← part_set _ _ _ (enc2_at1 xs k hlt), ← part_set _ _ _ (enc2_at0 xs k hlt)]
        exact ((HO3.out.stored (k * 2) _).1.stored (k * 2 + 1) _).1
      case measure => simp [intOf]; omega
    · go_wp2
      go_ret
      rw [part_all _ _ (by simp [enc2_len]; omega)] at hown
      exact ⟨_, _, rfl, hown, hb⟩

theorem eqBusS_any (A D : Option Addr) (c d : Nat) (xs ys : List (Int × Int)) (w : World) (h : Sl w w.heap.size 2 A xs.length (enc2 xs)) (g : Sl w w.heap.size 2 D ys.length (enc2 ys)) (hm : xs.length ≤ 1048576) :
    Calls Try.prog 17 #[.slice A xs.length c, .slice D ys.length d] w fun e w' => e = .returned (.bool (eq2 xs ys)) ∧ Below w.heap.size w w' := by
  by_cases hl : xs.length = ys.length
  · have hl1 : ((xs.length : Int) != ys.length) = false := by simp [hl]
    have HL := hide hl
    have hl2 : xs.length ≤ ys.length := by omega
    clear hl
    go_enter Try.func17, Try.ntmps17
    go_wp2
    go_loopw [5] (fun i wr => ∃ k : Nat, k ≤ xs.length ∧ i = .int .i64 k ∧ (∀ j, j < k → at2 xs j = at2 ys j) ∧ Below w.heap.size w wr) (fun i _ => xs.length - (intOf i).toNat)
    case atStart => exact ⟨0, Nat.zero_le _, rfl, fun j hj => absurd hj (by omega), Below.refl _ _⟩
    case round =>
      obtain ⟨k, hk, rfl, hall, hb⟩ := hrel
      have HA := hide hall
      clear hall
      by_cases hlt : k < xs.length
      · obtain ⟨b, off, rfl, hbb, hc, hd⟩ := h.two k hlt
        obtain ⟨b2, off2, rfl, hbb2, hc2, hd2⟩ := g.two k (by omega)
        have hc' := (hb.cell (p := ⟨b, off + k * 2, none⟩) hbb).trans hc
        have hd' := (hb.cell (p := ⟨b, off + k * 2 + 1, none⟩) hbb).trans hd
        have hc2' := (hb.cell (p := ⟨b2, off2 + k * 2, none⟩) hbb2).trans hc2
        have hd2' := (hb.cell (p := ⟨b2, off2 + k * 2 + 1, none⟩) hbb2).trans hd2
        clear hc hd hc2 hd2
        have hlt2 : k < ys.length := by omega
        have i0 : (0 : Int) ≤ k := by omega
        have i1 : (k : Int) < xs.length := by omega
        have i2 : (k : Int) < ys.length := by omega
        have HB := hide hb
        clear hb
        cases he : eqP (at2 xs k) (at2 ys k)
        · go_wp2
          go_region_held3 (fun w' => w'.cell? ⟨b, off + k * 2, none⟩ = some (.int .i64 (at2 xs k).1) ∧ w'.cell? ⟨b, off + k * 2 + 1, none⟩ = some (.int .i64 (at2 xs k).2) ∧ w'.cell? ⟨b2, off2 + k * 2, none⟩ = some (.int .i64 (at2 ys k).1) ∧ w'.cell? ⟨b2, off2 + k * 2 + 1, none⟩ = some (.int .i64 (at2 ys k).2))
            (first | go_keep | (refine ⟨cellk hb2 ?_, cellk hb2 ?_, cellk hb2 ?_, cellk hb2 ?_⟩ <;> go_keep))
            (first | (go_at_call 37; refine (eqBus_any _ _ _).mono ?_; rintro e w2 ⟨rfl, hb2⟩))
          go_wp2
          go_ret
          exact ⟨ret_bool (eq2_ne_at k (eqP_false he)).symm, HB.out.drew.trans (hb2.mono HB.out.drew.size)⟩
        · have HE := hide he
          go_wp2
          go_region_held3 (fun w' => w'.cell? ⟨b, off + k * 2, none⟩ = some (.int .i64 (at2 xs k).1) ∧ w'.cell? ⟨b, off + k * 2 + 1, none⟩ = some (.int .i64 (at2 xs k).2) ∧ w'.cell? ⟨b2, off2 + k * 2, none⟩ = some (.int .i64 (at2 ys k).1) ∧ w'.cell? ⟨b2, off2 + k * 2 + 1, none⟩ = some (.int .i64 (at2 ys k).2))
            (first | go_keep | (refine ⟨cellk hb2 ?_, cellk hb2 ?_, cellk hb2 ?_, cellk hb2 ?_⟩ <;> go_keep))
            (first | (go_at_call 37; refine (eqBus_any _ _ _).mono ?_; rintro e w2 ⟨rfl, hb2⟩))
          have HB2 := hide hb2
          clear hb2
          go_wp2
          go_roundw
          case rel =>
            refine ⟨k + 1, by omega, by go_num, fun j hj => ?_, HB.out.drew.trans (HB2.out.mono HB.out.drew.size)⟩
            by_cases hjk : j = k
            · subst hjk; exact eqP_true HE.out
            · exact HA.out j (by omega)
          case measure => simp [intOf]; omega
      · go_wp2
        go_ret
        refine ⟨ret_bool ?_, hb⟩
        have : xs = ys := same_of_at2 HL.out fun j hj => HA.out j (by omega)
        simp [eq2, this]
  · have hl1 : ((xs.length : Int) != ys.length) = true := by simp; omega
    have HL := hide hl
    clear hl
    go_enter Try.func17, Try.ntmps17
    go_wp2
    go_ret
    refine ⟨ret_bool ?_, Below.refl _ _⟩
    unfold eq2
    symm
    simp
    rintro rfl
    exact HL.out rfl

/-- A list of the call's own is marked: only its block is written. -/
theorem markBusAtS_any (base : Nat) (A : Option Addr) (n c : Nat) (cs : List Value) (k0 : Nat) (w : World) (hn : n ≤ 1048576) (hk0 : k0 ≤ 100000000) (ho : w.ownsRow base 55 2 (.slice A n c) n cs) :
    Calls Try.prog 20 #[.slice A n c, .int .i64 k0] w fun e w' => e = .returned (.int .i64 ((k0 : Int) + 2 * n)) ∧ w.grownBy w' (Value.slice A n c).ownBlock ∧ w'.heap.size = w.heap.size := by
  have HO0 := hide ho
  clear ho
  go_enter Try.func20, Try.ntmps20
  go_wp2_with fail
  go_loopw [1, 5] (fun q i wr => ∃ (k : Nat) (ys : List Value), k ≤ n ∧ i = .int .i64 k ∧ q = .int .i64 ((k0 : Int) + 2 * (k : Int)) ∧ wr.ownsRow base 55 2 (.slice A n c) n ys ∧ w.grownBy wr (Value.slice A n c).ownBlock ∧ wr.heap.size = w.heap.size) (fun _ i _ => n - (intOf i).toNat)
  case atStart => exact ⟨0, cs, Nat.zero_le _, rfl, by simp, HO0.out, World.grownBy.refl _ _, rfl⟩
  case round =>
    obtain ⟨k, ys, hk, rfl, rfl, ho, hg, hz⟩ := hrel
    have HZ := hide hz
    clear hz
    by_cases hlt : k < n
    · obtain ⟨g, cap, hv, _, _⟩ := ho.form (by omega)
      cases hv
      have hf := ho.frozenAt (k * 2)
      have hf2 := ho.frozenAt (k * 2 + 1)
      obtain ⟨u, hs⟩ := own_cell ho (k * 2) (by omega)
      obtain ⟨u2, hs2⟩ := own_cell ho (k * 2 + 1) (by omega)
      have HO := hide ho
      have HG := hide hg
      clear ho hg
      go_wp2_with fail
      go_roundw
      case rel => exact ⟨k + 1, _, by omega, by go_num, vint (by omega), ((HO.out.stored (k * 2) _).1.stored (k * 2 + 1) _).1, HG.out.trans ((HO.out.stored (k * 2) _).2.trans ((HO.out.stored (k * 2) _).1.stored (k * 2 + 1) _).2), by simpa [World.setCell] using HZ.out⟩
      case measure => simp [intOf]; omega
    · obtain rfl : k = n := by omega
      go_wp2_with fail
      go_ret
      exact ⟨rfl, hg, HZ.out⟩

/-- A list of numbers is marked from k0 on: only its block is written. -/
theorem markIntAtS_any (base : Nat) (A : Option Addr) (n c : Nat) (cs : List Value) (k0 : Nat) (w : World) (hn : n ≤ 1048576) (hk0 : k0 ≤ 100000000) (ho : w.ownsRow base 3 1 (.slice A n c) n cs) :
    Calls Try.prog 21 #[.slice A n c, .int .i64 k0] w fun e w' => e = .returned (.int .i64 ((k0 : Int) + n)) ∧ w.grownBy w' (Value.slice A n c).ownBlock ∧ w'.heap.size = w.heap.size := by
  have HO0 := hide ho
  clear ho
  go_enter Try.func21, Try.ntmps21
  go_wp2_with fail
  go_loopw [1, 5] (fun q i wr => ∃ (k : Nat) (ys : List Value), k ≤ n ∧ i = .int .i64 k ∧ q = .int .i64 ((k0 : Int) + k) ∧ wr.ownsRow base 3 1 (.slice A n c) n ys ∧ w.grownBy wr (Value.slice A n c).ownBlock ∧ wr.heap.size = w.heap.size) (fun _ i _ => n - (intOf i).toNat)
  case atStart => exact ⟨0, cs, Nat.zero_le _, rfl, by simp, HO0.out, World.grownBy.refl _ _, rfl⟩
  case round =>
    obtain ⟨k, ys, hk, rfl, rfl, ho, hg, hz⟩ := hrel
    have HZ := hide hz
    clear hz
    by_cases hlt : k < n
    · obtain ⟨g, cap, hv, _, _⟩ := ho.form (by omega)
      cases hv
      have hf := ho.frozenAt k
      obtain ⟨u, hs⟩ := own_cell ho k (by omega)
      have HO := hide ho
      have HG := hide hg
      clear ho hg
      go_wp2_with fail
      go_roundw
      case rel => exact ⟨k + 1, _, by omega, by go_num, vint (by omega), (HO.out.stored k _).1, HG.out.trans (HO.out.stored k _).2, by simpa [World.setCell] using HZ.out⟩
      case measure => simp [intOf]; omega
    · obtain rfl : k = n := by omega
      go_wp2_with fail
      go_ret
      exact ⟨rfl, hg, HZ.out⟩

end Go.Proofs.Ytkocagdiikaneaa
