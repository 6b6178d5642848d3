/-
  The laws FnBandsValid and FnPriceAt over drawn bands: the walks.
-/
import Derived.Test.YtjecbapmdgnglaaDoorBands
import Derived.Test.YtjecbapmdgnglaaDoorBandDraw
import Derived.Test.YtjecbapmdgnglaaDoorFnPairs
namespace Go.Proofs.YtjecbapmdgnglaaDoor
open Go.RowKit
set_option linter.unusedVariables false

theorem enc2_take (xs : List (Int × Int)) (k : Nat) : enc2 (xs.take k) = (enc2 xs).take (k * 2) := by
  induction k generalizing xs with
  | zero => simp [enc2]
  | succ k ih =>
    cases xs with
    | nil => simp [enc2]
    | cons a t =>
      rw [show (k + 1) * 2 = k * 2 + 2 by omega]
      simpa [enc2] using ih t
theorem Sl.take2 {w : World} {B : Nat} {A : Option Addr} {xs : List (Int × Int)} (h : Sl w B 2 A xs.length (enc2 xs)) (k : Nat) (hk : k ≤ xs.length) : Sl w B 2 A (xs.take k).length (enc2 (xs.take k)) := by
  refine ⟨by rw [enc2_len], fun hn => ?_⟩
  have hl : (xs.take k).length = k := by simp; omega
  obtain ⟨b, off, e, hb, hc⟩ := h.2 (by omega)
  refine ⟨b, off, e, hb, fun j u hu => hc j u ?_⟩
  rw [enc2_take, List.getElem?_take] at hu
  split at hu
  · exact hu
  · cases hu
theorem at2_take (xs : List (Int × Int)) (k j : Nat) (h : j < k) : at2 (xs.take k) j = at2 xs j := by simp [at2, h]
theorem at2_drop (xs : List (Int × Int)) (k j : Nat) : at2 (xs.drop k) j = at2 xs (k + j) := by simp [at2]
theorem bands_take {xs : List (Int × Int)} (h : bandsB xs = true) (k : Nat) (h1 : 1 ≤ k) (hk : k ≤ xs.length) : bandsB (xs.take k) = true := by
  obtain ⟨g1, g2, g3, g4⟩ := bandsB_ok h
  have hl : (xs.take k).length = k := by simp; omega
  refine bandsB_yes (by omega) (by omega) (by rw [at2_take _ _ _ (by omega)]; exact g3) fun j hj => ?_
  have := g4 j (by omega)
  unfold bandOk at this ⊢
  rw [at2_take _ _ _ (by omega), at2_take _ _ _ (by omega)]
  exact this
theorem bands_drop {xs : List (Int × Int)} (h : bandsB xs = true) (h2 : 2 ≤ xs.length) : bandsB (xs.drop 1) = false := by
  obtain ⟨g1, g2, g3, g4⟩ := bandsB_ok h
  refine bandsB_from ?_
  rw [at2_drop]
  have := bandOk_in (g4 1 (by omega))
  simp at this ⊢
  omega
theorem bands_two (xs : List (Int × Int)) : bandsB xs = false ∨ (bandsB xs = true ∧ xs.length < 2) ∨ (bandsB xs = true ∧ 2 ≤ xs.length) := by
  cases bandsB xs
  · exact .inl rfl
  · rcases Nat.lt_or_ge xs.length 2 with h | h
    · exact .inr (.inl ⟨rfl, h⟩)
    · exact .inr (.inr ⟨rfl, h⟩)

end Go.Proofs.YtjecbapmdgnglaaDoor
