/-
  The laws' own small functions over lists of numbers.
-/
import Derived.Test.YtijnahflfbjgiaaDoorLeaf
namespace Go.Proofs.YtijnahflfbjgiaaDoor
open Go.RowKit
set_option linter.unusedVariables false

theorem sameInts_any (A D : Option Addr) (c d : Nat) (xs ys : List Int) (w : World) (h : Sl w w.heap.size 1 A xs.length (encI xs)) (g : Sl w w.heap.size 1 D ys.length (encI ys)) (hm : xs.length ≤ 1048576) :
    Calls Tryd.prog 21 #[.slice A xs.length c, .slice D ys.length d] w fun e w' => e = .returned (.bool (eqI xs ys)) ∧ Below w.heap.size w w' := by
  by_cases hl : xs.length = ys.length
  · have hl1 : ((xs.length : Int) != ys.length) = false := by simp [hl]
    have HL := hide hl
    have hl2 : xs.length ≤ ys.length := by omega
    clear hl
    go_enter Tryd.func21, Tryd.ntmps21
    go_wp2
    go_loopw [5] (fun i wr => ∃ k : Nat, k ≤ xs.length ∧ i = .int .i64 k ∧ (∀ j, j < k → at_ xs j = at_ ys j) ∧ Below w.heap.size w wr) (fun i _ => xs.length - (intOf i).toNat)
    case atStart => exact ⟨0, Nat.zero_le _, rfl, fun j hj => absurd hj (by omega), Below.refl _ _⟩
    case round =>
      obtain ⟨k, hk, rfl, hall, hb⟩ := hrel
      have HA := hide hall
      clear hall
      by_cases hlt : k < xs.length
      · obtain ⟨b, off, rfl, hbb, hc⟩ := h.int k hlt
        obtain ⟨b2, off2, rfl, hbb2, hc2⟩ := g.int k (by omega)
        have hc' := (hb.cell (p := ⟨b, off + k, none⟩) hbb).trans hc
        have hc2' := (hb.cell (p := ⟨b2, off2 + k, none⟩) hbb2).trans hc2
        have hlt2 : k < ys.length := by omega
        have HB := hide hb
        clear hb
        by_cases he : at_ xs k = at_ ys k
        · have he' : (at_ xs k != at_ ys k) = false := by simp [he]
          have HE := hide he
          clear he
          go_wp2
          go_quiet (fail)
          go_wp2
          go_roundw
          case rel =>
            refine ⟨k + 1, by omega, by go_num, fun j hj => ?_, ?_⟩
            · by_cases hjk : j = k
              · subst hjk; exact HE.out
              · exact HA.out j (by omega)
            · first | exact HB.out | exact HB.out.drew | exact below_drewN HB.out _
          case measure => simp [intOf]; omega
        · have he' : (at_ xs k != at_ ys k) = true := by simp [he]
          have HE := hide he
          clear he
          go_wp2
          go_quiet (fail)
          go_wp2
          go_ret
          refine ⟨ret_bool (eqI_ne_at k HE.out).symm, ?_⟩
          first | exact HB.out | exact HB.out.drew | exact below_drewN HB.out _
      · go_wp2
        go_ret
        refine ⟨ret_bool ?_, hb⟩
        have : xs = ys := same_of_at HL.out fun j hj => HA.out j (by omega)
        simp [eqI, this]
  · have hl1 : ((xs.length : Int) != ys.length) = true := by simp; omega
    have HL := hide hl
    clear hl
    go_enter Tryd.func21, Tryd.ntmps21
    go_wp2
    go_ret
    refine ⟨ret_bool ?_, Below.refl _ _⟩
    unfold eqI
    symm
    simp
    rintro rfl
    exact HL.out rfl

theorem hasInt_any (A : Option Addr) (n c : Nat) (xs : List Int) (x : Int) (w : World) (hn : xs.length = n) (h : Sl w w.heap.size 1 A xs.length (encI xs)) (hm : n ≤ 1048576) :
    Calls Tryd.prog 35 #[.slice A n c, .int .i64 x] w fun e w' => e = .returned (.bool (hasB xs x)) ∧ w = w' := by
  subst hn
  go_enter Tryd.func35, Tryd.ntmps35
  go_wp2
  go_loop [5] (fun i => ∃ k : Nat, k ≤ xs.length ∧ i = .int .i64 k ∧ ∀ j, j < k → at_ xs j ≠ x) (fun i => xs.length - (intOf i).toNat)
  case atStart => exact ⟨0, Nat.zero_le _, rfl, fun j hj => absurd hj (by omega)⟩
  case round =>
    obtain ⟨k, hk, rfl, hall⟩ := hrel
    have H := hide hall
    clear hall
    by_cases hlt : k < xs.length
    · obtain ⟨b, off, rfl, hb, hc⟩ := h.int k hlt
      by_cases he : at_ xs k = x
      · have he' : (at_ xs k == x) = true := by simp [he]
        have HE := hide he
        clear he
        go_wp2
        go_ret
        exact ⟨ret_bool (hasB_yes k hlt HE.out).symm, rfl⟩
      · have he' : (at_ xs k == x) = false := by simp [he]
        have HE := hide he
        clear he
        go_wp2
        go_round
        case rel =>
          refine ⟨k + 1, by omega, by go_num, fun j hj => ?_⟩
          by_cases hjk : j = k
          · subst hjk; exact HE.out
          · exact H.out j (by omega)
        case measure => simp [intOf]; omega
    · go_wp2
      go_ret
      exact ⟨ret_bool (hasB_no fun j hj => H.out j (by omega)).symm, rfl⟩

/-- All of a list are in another one. -/
def withinB (xs ys : List Int) : Bool := xs.all fun x => hasB ys x
theorem withinB_yes {xs ys : List Int} (h : ∀ j, j < xs.length → hasB ys (at_ xs j) = true) : withinB xs ys = true := by
  unfold withinB
  rw [List.all_eq_true]
  intro x hx
  obtain ⟨j, hj, rfl⟩ := List.getElem_of_mem hx
  have := h j hj
  rwa [at_eq xs j hj] at this
theorem withinB_no {xs ys : List Int} (k : Nat) (hk : k < xs.length) (h : hasB ys (at_ xs k) = false) : withinB xs ys = false := by
  unfold withinB
  refine all_no _ xs k hk ?_
  rwa [at_eq xs k hk] at h

theorem within_any (A D : Option Addr) (c d : Nat) (xs ys : List Int) (w : World) (h : Sl w w.heap.size 1 A xs.length (encI xs)) (g : Sl w w.heap.size 1 D ys.length (encI ys)) (hm : xs.length ≤ 1048576) (hn : ys.length ≤ 1048576) :
    Calls Tryd.prog 50 #[.slice A xs.length c, .slice D ys.length d] w fun e w' => e = .returned (.bool (withinB xs ys)) ∧ w = w' := by
  go_enter Tryd.func50, Tryd.ntmps50
  go_wp2_with fail
  go_loop [5] (fun i => ∃ k : Nat, k ≤ xs.length ∧ i = .int .i64 k ∧ ∀ j, j < k → hasB ys (at_ xs j) = true) (fun i => xs.length - (intOf i).toNat)
  case atStart => exact ⟨0, Nat.zero_le _, rfl, fun j hj => absurd hj (by omega)⟩
  case round =>
    obtain ⟨k, hk, rfl, hall⟩ := hrel
    have H := hide hall
    clear hall
    by_cases hlt : k < xs.length
    · obtain ⟨b, off, rfl, hb, hc⟩ := h.int k hlt
      go_wp2_with fail
      refine (hasInt_any _ _ _ _ _ _ rfl g hn).mono ?_
      rintro e w' ⟨rfl, rfl⟩
      cases he : hasB ys (at_ xs k)
      · have HE := hide he
        clear he
        go_wp2_with fail
        go_ret
        exact ⟨ret_bool (withinB_no k hlt HE.out).symm, rfl⟩
      · have HE := hide he
        clear he
        go_wp2_with fail
        go_round
        case rel =>
          refine ⟨k + 1, by omega, by go_num, fun j hj => ?_⟩
          by_cases hjk : j = k
          · subst hjk; exact HE.out
          · exact H.out j (by omega)
        case measure => simp [intOf]; omega
    · go_wp2_with fail
      go_ret
      exact ⟨ret_bool (withinB_yes fun j hj => H.out j (by omega)).symm, rfl⟩

end Go.Proofs.YtijnahflfbjgiaaDoor