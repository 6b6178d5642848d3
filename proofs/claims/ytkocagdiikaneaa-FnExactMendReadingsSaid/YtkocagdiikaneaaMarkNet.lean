/-
  Contracts of the laws' own functions that mark lists of Bools and networks.
-/
import Derived.Test.YtkocagdiikaneaaNets
import Derived.Test.YtkocagdiikaneaaTriples
namespace Go.Proofs.Ytkocagdiikaneaa
open Go.RowKit
set_option linter.unusedVariables false

theorem markBoolS_any (base : Nat) (A : Option Addr) (n c : Nat) (cs : List Value) (k0 : Nat) (w : World) (hn : n ≤ 1048576) (hk0 : k0 ≤ 100000000) (ho : w.ownsRow base 4 1 (.slice A n c) n cs) :
    Calls Try.prog 19 #[.slice A n c, .int .i64 k0] w fun e w' => e = .returned (.int .i64 ((k0 : Int) + n)) ∧ w.grownBy w' (Value.slice A n c).ownBlock ∧ w'.heap.size = w.heap.size := by
  have HO0 := hide ho
  clear ho
  go_enter Try.func19, Try.ntmps19
  go_wp2_with fail
  go_loopw [1, 5] (fun q i wr => ∃ (k : Nat) (ys : List Value), k ≤ n ∧ i = .int .i64 k ∧ q = .int .i64 ((k0 : Int) + k) ∧ wr.ownsRow base 4 1 (.slice A n c) n ys ∧ w.grownBy wr (Value.slice A n c).ownBlock ∧ wr.heap.size = w.heap.size) (fun _ i _ => n - (intOf i).toNat)
  case atStart => exact ⟨0, cs, Nat.zero_le _, rfl, by simp, HO0.out, World.grownBy.refl _ _, rfl⟩
  case round =>
    obtain ⟨k, ys, hk, rfl, rfl, ho, hg, hz⟩ := hrel
    have HZ := hide hz
    clear hz
    by_cases hlt : k < n
    · obtain ⟨g, cap, hv, _, _⟩ := ho.form (by omega)
      cases hv
      have hf := ho.frozenAt k
      obtain ⟨u, hs⟩ := own_cell ho k (by omega)
      have HO := hide ho
      have HG := hide hg
      clear ho hg
      go_wp2_with fail
      go_roundw
      case rel => exact ⟨k + 1, _, by omega, by go_num, vint (by omega), (HO.out.stored k _).1, HG.out.trans (HO.out.stored k _).2, by simpa [World.setCell] using HZ.out⟩
      case measure => simp [intOf]; omega
    · obtain rfl : k = n := by omega
      go_wp2_with fail
      go_ret
      exact ⟨rfl, hg, HZ.out⟩

theorem markNet_any (b : Int) (base : Nat) (A : Option Addr) (n c : Nat) (cs : List Value) (w : World) (hn : n ≤ 1048576) (ho : w.ownsRow base 76 3 (.slice A n c) n cs) :
    Calls Try.prog 18 #[.agg #[.int .i64 b, .slice A n c], .int .i64 1] w fun e w' => e = .returned (.int .i64 (1 + 3 * n)) ∧ w.grownBy w' (Value.slice A n c).ownBlock := by
  have bw := (Below.refl _ w).alloc (Nat.le_refl _) (.cells #[.int .i64 b, .slice A n c] 33)
  have HO := hide (ho.alloc (.cells #[.int .i64 b, .slice A n c] 33))
  have HBW := hide bw
  clear ho bw
  go_enter Try.func18, Try.ntmps18
  go_wp2_with fail
  refine (markLineS_any _ _ _ _ _ _ hn HO.out).mono ?_
  rintro e w1 ⟨rfl, hg1, hz1⟩
  have HG := hide hg1
  clear hg1
  go_wp2_with fail
  go_ret
  exact ⟨rfl, (World.grownBy.refl w _ |>.trans ⟨HBW.out.os, HBW.out.tape, HBW.out.output, HBW.out.size, fun i hi _ => HBW.out.block i hi⟩).trans HG.out⟩

end Go.Proofs.Ytkocagdiikaneaa
