/-
  Contracts of the small functions of this seat that only compute, and of those that copy and compare lists of numbers.
-/
import Derived.Test.YtkocagdiikaneaaRows
import Derived.Test.YtkocagdiikaneaaBase
import Derived.WalkSpells
import Derived.WalkLawsBesides
import Derived.Outline
import Derived.Deep.QuietTactic
import Derived.BigQuiet
import Derived.RegionTactic
import Derived.LoopTactic
import Derived.OwnWalk
namespace Go.Proofs.Ytkocagdiikaneaa
open Go.RowKit

theorem l1In_any (n lo hi : Int) (w : World) :
    Calls Try.prog 44 #[.int .i64 n, .int .i64 lo, .int .i64 hi] w fun e w' => e = .returned (.bool (inB n lo hi)) ∧ w = w' := by
  by_cases h1 : lo ≤ n <;> by_cases h2 : n ≤ hi
  all_goals
    go_enter Try.func44, Try.ntmps44
    go_wp2
    go_ret
    exact ⟨by simp [inB]; omega, rfl⟩

theorem powerValid_any (n : Int) (w : World) :
    Calls Try.prog 71 #[.int .i64 n] w fun e w' => e = .returned (.bool (inB n 0 999)) ∧ w = w' := by
  by_cases h1 : 0 ≤ n <;> by_cases h2 : n ≤ 999
  all_goals
    go_enter Try.func71, Try.ntmps71
    go_wp2
    go_ret
    exact ⟨by simp [inB]; omega, rfl⟩

theorem infoI : (Try.prog.info? 3).map (fun i => (i.zero, i.size, i.bytes)) = some (some (.int .i64 0), 1, 8) := by kernel_rfl

theorem own_cell {w : World} {base e size g n cap : Nat} {cs : List Value} (h : w.ownsRow base e size (.slice (some ⟨g, 0, none⟩) n cap) n cs) (j : Nat) (hj : j < n * size) : ∃ u, w.cell? ⟨g, j, none⟩ = some u := by
  rw [h.cellAt j hj]
  exact ⟨_, List.getElem?_eq_getElem (by rw [h.1]; exact hj)⟩

theorem toIntS_any (A : Option Addr) (c : Nat) (xs : List Int) (w : World) (h : Sl w w.heap.size 1 A xs.length (encI xs)) (hm : xs.length ≤ 1048576) :
    Calls Try.prog 12 #[.slice A xs.length c] w fun e w' => ∃ D d, e = .returned (.slice D xs.length d) ∧ w'.ownsRow w.heap.size 3 1 (.slice D xs.length d) xs.length (encI xs) ∧ Below w.heap.size w w' := by
  have hmk := run_make_z (P := Try.prog) 27 3 _ 1 8 Try.underlying27 infoI rfl (by omega) xs.length xs.length (Nat.le_refl _) (by omega) (by omega)
  have HO := hide (own_made (w := w) (e := 3) (size := 1) (n := xs.length) (cs := encI xs) (by simp [encI]) (by unfold maxLen; omega))
  go_enter Try.func12, Try.ntmps12
  go_wp2
  go_loopw [4] (fun i wr => ∃ k : Nat, k ≤ xs.length ∧ i = .int .i64 k ∧ wr.ownsRow w.heap.size 3 1 (.slice (some ⟨w.heap.size, 0, none⟩) xs.length xs.length) xs.length (part (encI xs) k) ∧ Below w.heap.size w wr) (fun i _ => xs.length - (intOf i).toNat)
  case atStart => exact ⟨0, Nat.zero_le _, rfl, by simpa using HO.out, (Below.refl _ _).alloc (Nat.le_refl _) _⟩
  case round =>
    obtain ⟨k, hk, rfl, hown, hb⟩ := hrel
    clear hmk
    by_cases hlt : k < xs.length
    · obtain ⟨b, off, rfl, hbb, hc⟩ := h.int k hlt
      have hc' := (hb.cell (p := ⟨b, off + k, none⟩) hbb).trans hc
      have hf := hown.frozenAt k
      obtain ⟨u, hs⟩ := own_cell hown k (by omega)
      have HO2 := hide hown
      have HB := hide hb
      clear hown hb
      go_wp2
      go_roundw
      case rel =>
        refine ⟨k + 1, by omega, by go_num, ?_, HB.out.setCell (Nat.le_refl _) _⟩
        rw [← part_set _ _ _ (encI_at xs k hlt)]
        exact (HO2.out.stored k _).1
      case measure => simp [intOf]; omega
    · go_wp2
      go_ret
      rw [part_all _ _ (by simp [encI]; omega)] at hown
      exact ⟨_, _, rfl, hown, hb⟩

theorem eqIntS_any (A D : Option Addr) (c d : Nat) (xs ys : List Int) (w : World) (h : Sl w w.heap.size 1 A xs.length (encI xs)) (g : Sl w w.heap.size 1 D ys.length (encI ys)) (hm : xs.length ≤ 1048576) :
    Calls Try.prog 14 #[.slice A xs.length c, .slice D ys.length d] w fun e w' => e = .returned (.bool (eqI xs ys)) ∧ Below w.heap.size w w' := by
  by_cases hl : xs.length = ys.length
  · have hl1 : ((xs.length : Int) != ys.length) = false := by simp [hl]
    have HL := hide hl
    have hl2 : xs.length ≤ ys.length := by omega
    clear hl
    go_enter Try.func14, Try.ntmps14
    go_wp2
    go_loopw [5] (fun i wr => ∃ k : Nat, k ≤ xs.length ∧ i = .int .i64 k ∧ (∀ j, j < k → at_ xs j = at_ ys j) ∧ Below w.heap.size w wr) (fun i _ => xs.length - (intOf i).toNat)
    case atStart => exact ⟨0, Nat.zero_le _, rfl, fun j hj => absurd hj (by omega), Below.refl _ _⟩
    case round =>
      obtain ⟨k, hk, rfl, hall, hb⟩ := hrel
      have HA := hide hall
      clear hall
      by_cases hlt : k < xs.length
      · obtain ⟨b, off, rfl, hbb, hc⟩ := h.int k hlt
        obtain ⟨b2, off2, rfl, hbb2, hc2⟩ := g.int k (by omega)
        have hc' := (hb.cell (p := ⟨b, off + k, none⟩) hbb).trans hc
        have hc2' := (hb.cell (p := ⟨b2, off2 + k, none⟩) hbb2).trans hc2
        have hlt2 : k < ys.length := by omega
        have HB := hide hb
        clear hb
        by_cases he : at_ xs k = at_ ys k
        · have he' : (at_ xs k != at_ ys k) = false := by simp [he]
          have HE := hide he
          clear he
          go_wp2
          go_quiet (fail)
          go_wp2
          go_roundw
          case rel =>
            refine ⟨k + 1, by omega, by go_num, fun j hj => ?_, ?_⟩
            · by_cases hjk : j = k
              · subst hjk; exact HE.out
              · exact HA.out j (by omega)
            · first | exact HB.out | exact HB.out.drew | exact below_drewN HB.out _
          case measure => simp [intOf]; omega
        · have he' : (at_ xs k != at_ ys k) = true := by simp [he]
          have HE := hide he
          clear he
          go_wp2
          go_quiet (fail)
          go_wp2
          go_ret
          refine ⟨ret_bool (eqI_ne_at k HE.out).symm, ?_⟩
          first | exact HB.out | exact HB.out.drew | exact below_drewN HB.out _
      · go_wp2
        go_ret
        refine ⟨ret_bool ?_, hb⟩
        have : xs = ys := same_of_at HL.out fun j hj => HA.out j (by omega)
        simp [eqI, this]
  · have hl1 : ((xs.length : Int) != ys.length) = true := by simp; omega
    have HL := hide hl
    clear hl
    go_enter Try.func14, Try.ntmps14
    go_wp2
    go_ret
    refine ⟨ret_bool ?_, Below.refl _ _⟩
    unfold eqI
    symm
    simp
    rintro rfl
    exact HL.out rfl

theorem l1Has_any (A : Option Addr) (n c : Nat) (xs : List Int) (x : Int) (w : World) (hn : xs.length = n) (h : Sl w w.heap.size 1 A xs.length (encI xs)) (hm : n ≤ 1048576) :
    Calls Try.prog 68 #[.slice A n c, .int .i64 x] w fun e w' => e = .returned (.bool (hasB xs x)) ∧ w = w' := by
  subst hn
  go_enter Try.func68, Try.ntmps68
  go_wp2
  go_loop [5] (fun i => ∃ k : Nat, k ≤ xs.length ∧ i = .int .i64 k ∧ ∀ j, j < k → at_ xs j ≠ x) (fun i => xs.length - (intOf i).toNat)
  case atStart => exact ⟨0, Nat.zero_le _, rfl, fun j hj => absurd hj (by omega)⟩
  case round =>
    obtain ⟨k, hk, rfl, hall⟩ := hrel
    have H := hide hall
    clear hall
    by_cases hlt : k < xs.length
    · obtain ⟨b, off, rfl, hb, hc⟩ := h.int k hlt
      by_cases he : at_ xs k = x
      · have he' : (at_ xs k == x) = true := by simp [he]
        have HE := hide he
        clear he
        go_wp2
        go_ret
        exact ⟨ret_bool (hasB_yes k hlt HE.out).symm, rfl⟩
      · have he' : (at_ xs k == x) = false := by simp [he]
        have HE := hide he
        clear he
        go_wp2
        go_round
        case rel =>
          refine ⟨k + 1, by omega, by go_num, fun j hj => ?_⟩
          by_cases hjk : j = k
          · subst hjk; exact HE.out
          · exact H.out j (by omega)
        case measure => simp [intOf]; omega
    · go_wp2
      go_ret
      exact ⟨ret_bool (hasB_no fun j hj => H.out j (by omega)).symm, rfl⟩

theorem slicesIndex_any (A : Option Addr) (n c : Nat) (xs : List Int) (x : Int) (w : World) (hn : xs.length = n) (h : Sl w w.heap.size 1 A xs.length (encI xs)) (hm : n ≤ 1048576) :
    Calls Try.prog 53 #[.slice A n c, .int .i64 x] w fun e w' => e = .returned (.int .i64 (idxF xs x)) ∧ w = w' := by
  subst hn
  go_enter Try.func53, Try.ntmps53
  go_wp2
  go_loop [8] (fun i => ∃ k : Nat, k ≤ xs.length ∧ i = .int .i64 k ∧ ∀ j, j < k → at_ xs j ≠ x) (fun i => xs.length - (intOf i).toNat)
  case atStart => exact ⟨0, Nat.zero_le _, rfl, fun j hj => absurd hj (by omega)⟩
  case round =>
    obtain ⟨k, hk, rfl, hall⟩ := hrel
    have H := hide hall
    clear hall
    by_cases hlt : k < xs.length
    · obtain ⟨b, off, rfl, hb, hc⟩ := h.int k hlt
      by_cases he : at_ xs k = x
      · have he' : (x == at_ xs k) = true := by simp [he]
        have he'' : (at_ xs k == x) = true := by simp [he]
        have HE := hide he
        clear he
        go_wp2
        go_ret
        exact ⟨ret_int (idxF_at k hlt HE.out H.out).symm, rfl⟩
      · have he' : (x == at_ xs k) = false := by simp; exact fun h => he h.symm
        have he'' : (at_ xs k == x) = false := by simp [he]
        have HE := hide he
        clear he
        go_wp2
        go_round
        case rel =>
          refine ⟨k + 1, by omega, by go_num, fun j hj => ?_⟩
          by_cases hjk : j = k
          · subst hjk; exact HE.out
          · exact H.out j (by omega)
        case measure => simp [intOf]; omega
    · go_wp2
      go_ret
      exact ⟨ret_int (idxF_none fun j hj => H.out j (by omega)).symm, rfl⟩

end Go.Proofs.Ytkocagdiikaneaa
