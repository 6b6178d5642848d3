/-
  The law FnTapsValid over drawn loads: the walk.
-/
import Derived.Test.YtijnahflfbjgiaaDoorPhases
import Derived.Test.YtijnahflfbjgiaaDoorTaps
import Derived.Test.YtijnahflfbjgiaaDoorNet
namespace Go.Proofs.YtijnahflfbjgiaaDoor
open Go.RowKit
set_option linter.unusedVariables false

/-- A list behind its first k elements. -/
theorem Sl.from_ {w : World} {B size b off n : Nat} {cs : List Value} (h : Sl w B size (some ⟨b, off, none⟩) n cs) (k : Nat) (hk : k ≤ n) : Sl w B size (some ⟨b, off + k * size, none⟩) (n - k) (cs.drop (k * size)) := by
  refine ⟨by rw [List.length_drop, h.1, Nat.sub_mul], fun hn => ?_⟩
  obtain ⟨b', off', e, hb, hc⟩ := h.2 (by omega)
  injection e with e
  injection e with e1 e2
  subst e1 e2
  refine ⟨b, off + k * size, rfl, hb, fun j u hu => ?_⟩
  rw [List.getElem?_drop] at hu
  have := hc _ _ hu
  rwa [← Nat.add_assoc] at this
theorem encI_drop (xs : List Int) (k : Nat) : encI (xs.drop k) = (encI xs).drop k := by simp [encI, List.map_drop]
theorem Sl.dropI {w : World} {B b off : Nat} {xs : List Int} (h : Sl w B 1 (some ⟨b, off, none⟩) xs.length (encI xs)) (k : Nat) (hk : k ≤ xs.length) : Sl w B 1 (some ⟨b, off + k, none⟩) (xs.drop k).length (encI (xs.drop k)) := by
  have := h.from_ k hk
  rw [Nat.mul_one] at this
  rw [List.length_drop, encI_drop]
  exact this

/-- A drawn list, in memory of the call's own. -/
def GotI (L : Nat) (lo hi : Int) (w : World) (e : Ending) (w' : World) : Prop :=
  ∃ xs D d, xs.length ≤ L ∧ (∀ n ∈ xs, lo ≤ n ∧ n ≤ hi) ∧ e = .returned (.slice D xs.length d) ∧ w'.ownsRow w.heap.size 3 1 (.slice D xs.length d) xs.length (encI xs) ∧ Below w.heap.size w w'

theorem taps_more (xs : List Int) : tapsB (xs ++ [-1]) = false := by
  simp [tapsB, inB]
theorem taps_less {xs : List Int} (h : tapsB xs = true) (k : Nat) : tapsB (xs.drop k) = true := by
  simp only [tapsB, Bool.and_eq_true, decide_eq_true_eq, List.all_eq_true] at h ⊢
  refine ⟨by rw [List.length_drop]; omega, fun x hx => h.2 x (List.mem_of_mem_drop hx)⟩

theorem own_cap {w : World} {base : Nat} {e : TypeId} {size n c : Nat} {A : Option Addr} {cs : List Value} (h : w.ownsRow base e size (.slice A n c) n cs) : n ≤ c := by
  obtain ⟨A', c', he, h1, _⟩ := own_slice h
  injection he with _ _ h3
  omega
theorem Sl.nil (w : World) (B : Nat) (size : Nat) (A : Option Addr) (xs : List Int) (h : xs.length = 0) : Sl w B size A xs.length (encI xs) := by
  have : xs = [] := List.eq_nil_of_length_eq_zero h
  subst this
  exact ⟨by simp [encI], fun hn => absurd hn (by simp)⟩

theorem taps_cases (xs : List Int) : tapsB xs = false ∨ (tapsB xs = true ∧ xs = []) ∨ (tapsB xs = true ∧ ¬ xs = []) := by
  cases tapsB xs
  · exact .inl rfl
  · by_cases h : xs = []
    · exact .inr (.inl ⟨rfl, h⟩)
    · exact .inr (.inr ⟨rfl, h⟩)

end Go.Proofs.YtijnahflfbjgiaaDoor
