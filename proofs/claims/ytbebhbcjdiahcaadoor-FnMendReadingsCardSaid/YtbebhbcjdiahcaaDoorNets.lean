/-
  Contracts of the laws' own functions over networks and states: copying, comparing, sizes. The rows of false marks that make gives.
-/
import Derived.Test.YtbebhbcjdiahcaaDoorTriples
import Derived.Test.YtbebhbcjdiahcaaDoorNet
namespace Go.Proofs.YtbebhbcjdiahcaaDoor
open Go.RowKit
set_option linter.unusedVariables false

/-! ### a row of marks that is made and then filled -/
def frow (m : Nat) : Array Value := Array.replicate m (.bool false)
theorem madeCells_false (m : Nat) : madeCells #[.bool false] m = frow m := by
  apply Array.ext
  · simp [madeCells, frow]
  · intro i h1 h2
    simp only [madeCells, Array.getElem_map, frow, Array.getElem_replicate, Array.getElem_range]
    have : i % 1 < 1 := Nat.mod_lt _ (by omega)
    simp [Nat.mod_one]
theorem run_make_f {P : Program} (t e : TypeId) (ht : P.underlying t = some (.slice e)) (hinfo : (P.info? e).map (fun i => (i.zero, i.size, i.bytes)) = some (some (.bool false), 1, 1))
    (n c : Nat) (hnc : n ≤ c) (hbytes : 1 * c ≤ 281474976710656) (h63 : c ≤ 9223372036854775807) (w : World) :
    (Instr.makeSlice t (.int .i64 (n : Int)) (.int .i64 (c : Int))).run P w = .ok (.slice (some ⟨w.heap.size, 0, none⟩) n c) (w.alloc (.cells (frow c) e)) := by
  obtain ⟨i, hi, hzz⟩ := Option.map_eq_some_iff.1 hinfo
  simp only [Prod.mk.injEq] at hzz
  obtain ⟨hzo, hz1, hz2⟩ := hzz
  have hb' : (i.bytes : Int) * (c : Int) ≤ 281474976710656 := by rw [hz2]; omega
  have hr := run_make (P := P) w t e i (.bool false) ht hi hzo .i64 .i64 n c (by omega) (by omega) hb' (by omega)
  simp only [Int.toNat_natCast, hz1, Nat.mul_one] at hr
  rw [show (Value.bool false).cells = #[.bool false] from rfl, madeCells_false] at hr
  exact hr
def partF (cs : List Value) (k : Nat) : List Value := cs.take k ++ List.replicate (cs.length - k) (.bool false)
theorem partF_zero (cs : List Value) : partF cs 0 = (frow cs.length).toList := by simp [partF, frow]
theorem partF_all (cs : List Value) (k : Nat) (hk : cs.length ≤ k) : partF cs k = cs := by simp [partF, List.take_of_length_le hk, Nat.sub_eq_zero_of_le hk]
theorem partF_set (cs : List Value) (k : Nat) (u : Value) (h : cs[k]? = some u) : (partF cs k).set k u = partF cs (k + 1) := by
  have hk : k < cs.length := by
    rcases Nat.lt_or_ge k cs.length with h1 | h1
    · exact h1
    · rw [List.getElem?_eq_none h1] at h; cases h
  have hu : cs[k] = u := by rw [List.getElem?_eq_getElem hk] at h; exact Option.some.inj h
  unfold partF
  rw [List.set_append]
  have hl : (cs.take k).length = k := by simp; omega
  rw [hl, if_neg (by omega), Nat.sub_self, List.take_succ_eq_append_getElem hk, hu, List.append_assoc]
  congr 1
  rw [show cs.length - k = (cs.length - (k + 1)) + 1 from by omega, List.replicate_succ]
  rfl
theorem own_madeF {w : World} {e : TypeId} {n : Nat} {cs : List Value} (hl : cs.length = n) (hm : n ≤ maxLen) :
    (w.alloc (.cells (frow n) e)).ownsRow w.heap.size e 1 (.slice (some ⟨w.heap.size, 0, none⟩) n n) n (partF cs 0) := by
  rw [partF_zero, hl]
  exact World.ownsRow_lit w _ n (Nat.le_refl _) hm (by simp [frow])

theorem infoB : (Tryd.prog.info? 4).map (fun i => (i.zero, i.size, i.bytes)) = some (some (.bool false), 1, 1) := by kernel_rfl

/-- A network that the call has made. -/
def MadeNet (b : Int) (ls : List (Int × Int × Int)) (w : World) (e : Ending) (w' : World) : Prop :=
  ∃ D d, e = .returned (.agg #[.int .i64 b, .slice D ls.length d]) ∧ w'.ownsRow w.heap.size 60 3 (.slice D ls.length d) ls.length (enc3 ls) ∧ Below w.heap.size w w'

end Go.Proofs.YtbebhbcjdiahcaaDoor
