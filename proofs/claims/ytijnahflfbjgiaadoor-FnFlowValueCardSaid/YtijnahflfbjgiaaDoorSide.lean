/-
  The law's own helpers over sides: which buses a number tells; whether a list ascends.
-/
import Derived.Test.YtijnahflfbjgiaaDoorCutLaw
import Derived.Test.YtijnahflfbjgiaaDoorHelp
namespace Go.Proofs.YtijnahflfbjgiaaDoor
open Go.RowKit
set_option linter.unusedVariables false

def bitB (N i : Nat) : Bool := decide (N / 2 ^ i % 2 = 1)
theorem bit_facts (N i : Nat) : ((((N : Int) / 2 ^ i).tmod 2 == 1) = bitB N i) ∧ ((((N : Int) / 2 ^ i) % 2 == 1) = bitB N i) ∧ ((((N : Int) / 2 ^ i).tmod 2 == 0) = !bitB N i) ∧ ((((N : Int) / 2 ^ i) % 2 == 0) = !bitB N i) := by
  have e : ((N : Int) / 2 ^ i) = ((N / 2 ^ i : Nat) : Int) := by simp
  rw [e]
  unfold bitB
  generalize N / 2 ^ i = m
  rw [Int.tmod_eq_emod_of_nonneg (by omega)]
  by_cases h : m % 2 = 1
  · have h1 : (m : Int) % 2 = 1 := by omega
    simp [h, h1]
  · have h0 : m % 2 = 0 := by omega
    have h1 : (m : Int) % 2 = 0 := by omega
    simp [h0, h1]
/-- The buses that a number tells. -/
def sideL (N n : Nat) : List Int := selL (bitB N) n

theorem sideOf_any (N n : Nat) (hn : n ≤ 8) (hN : N ≤ 100000) (w : World) :
    Calls Tryd.prog 40 #[.int .i64 N, .int .i64 n] w (MadeInts (fun r => r = sideL N n) w) := by
  have N0 := hide (World.ownsRow_lit (base := w.heap.size) (e := 3) (size := 1) w #[] 0 (Nat.le_refl _) (Nat.zero_le _) rfl)
  have B0 := hide ((Below.refl w.heap.size w).alloc (Nat.le_refl _) (.cells #[] 3))
  go_enter Tryd.func40, Tryd.ntmps40
  go_wp2_with fail
  go_loopw [5, 6] (fun out k wr => ∃ (i : Nat) (D : Option Addr) (d : Nat), i ≤ n ∧ k = .int .i64 i ∧ out = .slice D (sideL N i).length d ∧ wr.ownsRow w.heap.size 3 1 (.slice D (sideL N i).length d) (sideL N i).length (encI (sideL N i)) ∧ Below w.heap.size w wr) (fun _ k _ => n - (intOf k).toNat)
  case atStart => exact ⟨0, _, _, Nat.zero_le _, rfl, rfl, N0.out, B0.out⟩
  case round =>
    obtain ⟨i, D, d, hi, rfl, rfl, ho, hb⟩ := hrel
    have HO := hide ho
    have HB := hide hb
    have hs := hb.size
    have hl := selL_len (bitB N) i
    clear ho hb
    by_cases hlt : i < n
    · obtain ⟨f1, f2, f3, f4⟩ := bit_facts N i
      have i0 : (0 : Int) ≤ i := by omega
      have i1 : (i : Int) ≤ 64 := by omega
      cases hbt : bitB N i
      · have HS := hide (selL_no (p := bitB N) hbt)
        rw [hbt] at f1 f2 f3 f4
        clear hbt
        go_wp2_with fail
        go_roundw
        case rel => exact ⟨i + 1, D, d, by omega, by go_num, by unfold sideL; rw [HS.out], by unfold sideL; rw [HS.out]; exact HO.out, HB.out⟩
        case measure => simp [intOf]; omega
      · have HS := hide (selL_yes (p := bitB N) hbt)
        rw [hbt] at f1 f2 f3 f4
        clear hbt
        go_wp2_with (at_builtin; refine app_int wr rfl (.tmp 18) (.tmp 20) rfl w.heap.size D (sideL N i).length d (sideL N i) (i : Int) rfl HO.out wr.heap.size rfl rfl hs (by unfold sideL; omega) ?_; intro D2 d2 w3 ho3 hg3; have HO3 := hide ho3; have HB3 := hide (HB.out.trans (grown_below HO.out hg3 hs)); clear ho3 hg3)
        go_roundw
        case rel => exact ⟨i + 1, D2, d2, by omega, by go_num, by unfold sideL; rw [HS.out, List.length_append]; rfl, by unfold sideL; rw [HS.out, List.length_append]; exact HO3.out, HB3.out⟩
        case measure => simp [intOf]; omega
    · obtain rfl : i = n := by omega
      go_wp2_with fail
      go_ret
      exact ⟨_, D, d, rfl, rfl, HO.out, HB.out⟩

theorem ascend_any (A : Option Addr) (c : Nat) (xs : List Int) (w : World) (h : Sl w w.heap.size 1 A xs.length (encI xs)) (hm : xs.length ≤ 1048576) (hp : xs.Pairwise (· < ·)) :
    Calls Tryd.prog 51 #[.slice A xs.length c] w fun e w' => e = .returned (.bool true) ∧ Below w.heap.size w w' := by
  have HP : Hid (∀ k, k + 1 < xs.length → at_ xs k < at_ xs (k + 1)) := hide fun k hk => by
    rw [at_eq xs k (by omega), at_eq xs (k + 1) hk]
    exact List.pairwise_iff_getElem.1 hp k (k + 1) (by omega) hk (by omega)
  clear hp
  go_enter Tryd.func51, Tryd.ntmps51
  go_wp2_with fail
  go_loopw [3] (fun i wr => ∃ k m : Nat, 1 ≤ k ∧ (k ≤ xs.length ∨ k = 1) ∧ i = .int .i64 k ∧ wr = w.drewN m) (fun i _ => xs.length - (intOf i).toNat)
  case atStart => exact ⟨1, 0, Nat.le_refl _, .inr rfl, rfl, rfl⟩
  case round =>
    obtain ⟨k, m, hk1, hk, rfl, rfl⟩ := hrel
    by_cases hlt : k < xs.length
    · obtain ⟨j, rfl⟩ : ∃ j, k = j + 1 := ⟨k - 1, by omega⟩
      obtain ⟨b, off, rfl, hb, hc⟩ := h.int (j + 1) hlt
      have hd := h.int_at' j (by omega)
      have hlt2 := HP.out j hlt
      have e1 : IntKind.i64.wrap (((j + 1 : Nat) : Int) - 1) = (j : Int) := by rw [IntWalk.i64_in _ (by omega)]; omega
      have e2 : (((j + 1 : Nat) : Int) - 1) = (j : Int) := by omega
      have e3 : ¬ at_ xs (j + 1) ≤ at_ xs j := by omega
      have j0 : (0 : Int) ≤ j := by omega
      have j1 : (j : Int) < xs.length := by omega
      have j2 : ((j : Int) + 1) < xs.length := by omega
      have j3 : (0 : Int) ≤ (j : Int) + 1 := by omega
      go_wp2_with fail
      go_quiet (fail)
      go_wp2_with fail
      go_roundw
      case rel => exact ⟨j + 2, _, by omega, .inl (by omega), by go_num, rfl⟩
      case measure => simp [intOf]; omega
    · go_wp2_with fail
      go_ret
      exact ⟨rfl, below_drewN (Below.refl _ _) m⟩

end Go.Proofs.YtijnahflfbjgiaaDoor
