/-
  'out = append(out, k)' on a list of numbers that the call itself has made: one law for the walk. And: marking and reading the marks of a list of numbers.
-/
import Derived.Test.YtkocagdiikaneaaLeaf
import Derived.Maps.AppendAt
namespace Go.Proofs.Ytkocagdiikaneaa
open Go.RowKit
set_option linter.unusedVariables false

theorem encI_snoc (xs : List Int) (k : Int) : encI (xs ++ [k]) = encI xs ++ [.int .i64 k] := by simp [encI]

theorem app_int {ops : Array Oper} {rest : List Oper} {o : Oper} {a : Act} {Q : Exit → Act → World → Prop} (wr : World) (hgd : o.guard = none) (s x : Operand)
    (ho : o.op = .call { callee := .builtin .append, args := #[s, x], argTypes := #[27, 27] })
    (base : Nat) (A : Option Addr) (n c : Nat) (ord : List Int) (k : Int) (hs : a.eval s = .slice A n c) (hown : wr.ownsRow base 3 1 (.slice A n c) n (encI ord)) (H : Nat) (hH : wr.heap.size = H) (hx : a.eval x = .slice (some ⟨H, 0, none⟩) 1 1)
    (hb : base ≤ wr.heap.size) (hn : n ≤ 1048576)
    (h : ∀ D d w', w'.ownsRow base 3 1 (.slice D (n + 1) d) (n + 1) (encI (ord ++ [k])) → wr.grownBy w' (Value.slice A n c).ownBlock → wpList Try.prog ops Q rest (a.put o.dst (.slice D (n + 1) d)) w') :
    wpList Try.prog ops Q (o :: rest) a (wr.alloc (.cells #[.int .i64 k] 3)) := by
  subst hH
  obtain ⟨i0, hi, hz0, hz1, hz2⟩ := info_parts infoI
  refine wpList_append_own_at _ hgd s x 27 ho base 3 i0 (.int .i64 0) 1 8 Try.underlying27 hi hz0 hz1 hz2 rfl (by decide) (.slice A n c) n (encI ord) hs (hown.alloc _) ⟨wr.heap.size, 0, none⟩ 1 1 [.int .i64 k] hx rfl (cell_one_new _ _ _) (by simp [Value.oneCell']) (by unfold maxLen; omega) (by omega) (by simp; omega) ?_
  intro v' w' ho' hg _ _
  obtain ⟨D, d, rfl, _, _⟩ := own_slice ho'
  refine h D d w' (by rw [encI_snoc]; exact ho') ?_
  exact ⟨hg.os, hg.tape, hg.output, Nat.le_trans (by simp) hg.size, fun i hi' hne => (hg.block i (by simp; omega) hne).trans (Below.heap_alloc wr _ i hi')⟩

/-- Blocks that lie below those of the call's own stay while a list of the call's own grows. -/
theorem grown_below {wr w' : World} {base e size n : Nat} {v : Value} {cs : List Value} (ho : wr.ownsRow base e size v n cs) (hg : wr.grownBy w' v.ownBlock) (hb : base ≤ wr.heap.size) : Below base wr w' :=
  ⟨hg.os, hg.tape, hg.output, hg.size, fun i hi => hg.block i (by omega) (fun he => by have := (ho.lt i he.symm).1; omega)⟩

/-- The numbers k, k + 1, .. -/
def iota (k : Int) (n : Nat) : List Int := (List.range n).map fun (j : Nat) => k + (j : Int)
theorem iota_len (k : Int) (n : Nat) : (iota k n).length = n := by simp [iota]
theorem iota_at (k : Int) (n j : Nat) (h : j < n) : at_ (iota k n) j = k + j := by simp [at_, iota, h]

/-- A list of the call's own is marked: only its block is written. -/
theorem markIntS_any (base : Nat) (A : Option Addr) (n c : Nat) (xs : List Int) (w : World) (hn : n ≤ 1048576) (ho : w.ownsRow base 3 1 (.slice A n c) n (encI xs)) :
    Calls Try.prog 21 #[.slice A n c, .int .i64 1] w fun e w' => e = .returned (.int .i64 (1 + n)) ∧ w'.ownsRow base 3 1 (.slice A n c) n (encI (iota 1 n)) ∧ w.grownBy w' (Value.slice A n c).ownBlock ∧ w'.heap.size = w.heap.size := by
  have hxl : xs.length = n := by have := ho.1; simpa [encI] using this
  have HXL := hide hxl
  clear hxl
  have HO0 := hide ho
  clear ho
  go_enter Try.func21, Try.ntmps21
  go_wp2_with fail
  go_loopw [1, 5] (fun q i wr => ∃ (k : Nat) (ys : List Int), k ≤ n ∧ i = .int .i64 k ∧ q = .int .i64 (1 + (k : Int)) ∧ (∀ j, j < k → at_ ys j = 1 + j) ∧ wr.ownsRow base 3 1 (.slice A n c) n (encI ys) ∧ w.grownBy wr (Value.slice A n c).ownBlock ∧ wr.heap.size = w.heap.size) (fun _ i _ => n - (intOf i).toNat)
  case atStart => exact ⟨0, xs, Nat.zero_le _, rfl, rfl, fun j hj => absurd hj (by omega), HO0.out, World.grownBy.refl _ _, rfl⟩
  case round =>
    obtain ⟨k, ys, hk, rfl, rfl, hall, ho, hg, hz⟩ := hrel
    have H := hide hall
    have HZ := hide hz
    clear hall hz
    by_cases hlt : k < n
    · obtain ⟨g, cap, hv, _, _⟩ := ho.form (by omega)
      cases hv
      have hf := ho.frozenAt k
      obtain ⟨u, hs⟩ := own_cell ho k (by omega)
      have HO := hide ho
      have HG := hide hg
      clear ho hg
      go_wp2_with fail
      go_roundw
      case rel =>
        refine ⟨k + 1, ys.set k (1 + k), by omega, by go_num, vint (by omega), fun j hj => ?_, ?_, ?_, ?_⟩
        · have hyl : ys.length = n := by have := HO.out.1; simpa [encI] using this
          by_cases hjk : j = k
          · subst hjk
            simp [at_, hyl, hlt]
          · have := H.out j (by omega)
            simpa [at_, Ne.symm hjk] using this
        · have := (HO.out.stored k (.int .i64 (1 + k))).1
          rw [show encI (ys.set k (1 + k)) = (encI ys).set k (.int .i64 (1 + k)) by simp [encI, List.map_set]]
          exact this
        · have := (HO.out.stored k (.int .i64 (1 + k))).2
          exact HG.out.trans this
        · simpa [World.setCell] using HZ.out
      case measure => simp [intOf]; omega
    · obtain rfl : k = n := by omega
      have he : ys = iota 1 k := by
        have hyl : ys.length = k := by have := ho.1; simpa [encI] using this
        exact same_of_at (by rw [hyl, iota_len]) fun j hj => by rw [iota_at 1 k j (by omega)]; exact H.out j (by omega)
      have HE := hide he
      clear he
      go_wp2_with fail
      go_ret
      exact ⟨rfl, by rw [← HE.out]; exact ho, hg, HZ.out⟩

/-- The marks are still there. -/
theorem heldIntS_any (A : Option Addr) (n c : Nat) (w : World) (hn : n ≤ 1048576) (h : Sl w w.heap.size 1 A n (encI (iota 1 n))) :
    Calls Try.prog 22 #[.slice A n c, .int .i64 1] w fun e w' => e = .returned (.int .i64 (1 + n)) ∧ Below w.heap.size w w' := by
  have h2 : Sl w w.heap.size 1 A (iota 1 n).length (encI (iota 1 n)) := by rw [iota_len]; exact h
  clear h
  go_enter Try.func22, Try.ntmps22
  go_wp2_with fail
  go_loopw [1, 5] (fun q i wr => ∃ k : Nat, k ≤ n ∧ i = .int .i64 k ∧ q = .int .i64 (1 + (k : Int)) ∧ Below w.heap.size w wr) (fun _ i _ => n - (intOf i).toNat)
  case atStart => exact ⟨0, Nat.zero_le _, rfl, rfl, Below.refl _ _⟩
  case round =>
    obtain ⟨k, hk, rfl, rfl, hbl⟩ := hrel
    by_cases hlt : k < n
    · obtain ⟨b, off, rfl, hb, hc⟩ := h2.int k (by rw [iota_len]; exact hlt)
      rw [iota_at 1 n k hlt] at hc
      have hc' := (hbl.cell (p := ⟨b, off + k, none⟩) hb).trans hc
      have i0 : (0 : Int) ≤ k := by omega
      have i1 : (k : Int) < n := by omega
      have HB := hide hbl
      clear hc hbl
      go_wp2_with fail
      all_goals (try go_quiet (fail))
      all_goals go_wp2_with fail
      go_roundw
      case rel => exact ⟨k + 1, by omega, by go_num, vint (by omega), by first | exact HB.out | exact below_drewN HB.out _⟩
      case measure => simp [intOf]; omega
    · obtain rfl : k = n := by omega
      go_wp2_with fail
      go_ret
      exact ⟨rfl, hbl⟩

/-- A list of numbers that the call has made. -/
def MadeInts (R : List Int → Prop) (w : World) (e : Ending) (w' : World) : Prop :=
  ∃ ord D d, R ord ∧ e = .returned (.slice D ord.length d) ∧ w'.ownsRow w.heap.size 3 1 (.slice D ord.length d) ord.length (encI ord) ∧ Below w.heap.size w w'

end Go.Proofs.Ytkocagdiikaneaa
