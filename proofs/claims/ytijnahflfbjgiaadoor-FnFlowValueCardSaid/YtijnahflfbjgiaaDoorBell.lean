/-
  Chapter 34: how far buses are away, by rounds over all lines; plain definitions and lemmas, no function of the program.
-/
import Derived.Test.YtijnahflfbjgiaaDoorFlow
namespace Go.Proofs.YtijnahflfbjgiaaDoor
open Go.RowKit
set_option linter.unusedVariables false

/-- What holds after s rounds and k lines of the next one. -/
structure Bell (ls : List (Int × Int × Int)) (os : List Bool) (fl : List Int) (to : Int) (nb s k : Nat) (far : List Int) : Prop where
  len : far.length = nb
  bnd : ∀ j, j < nb → 0 ≤ at_ far j ∧ at_ far j ≤ 99
  src : at_ far to.toNat = 0
  snd : ∀ u : Nat, u < nb → at_ far u < 99 → Rch (Res ls os fl) to (at_ far u).toNat u
  cmp : ∀ (u : Nat) (t : Nat), u < nb → t ≤ s → Rch (Res ls os fl) to t u → at_ far u ≤ t
  prt : ∀ (j : Nat) (u v : Nat), j < k → u < nb → v < nb → otherF (at3 ls j) u = v → 0 < roomF ls os fl j u → ∀ t : Nat, t ≤ s → Rch (Res ls os fl) to t v → at_ far u ≤ t + 1

section
variable {ls : List (Int × Int × Int)} {os : List Bool} {fl : List Int} {to : Int} {nb s k : Nat} {far : List Int}

def nines (n : Nat) : List Int := List.replicate n 99
theorem nines_at (n j : Nat) (h : j < n) : at_ (nines n) j = 99 := by simp [at_, nines, h]
theorem Bell.start (h0 : 0 ≤ to) (h1 : to < nb) : Bell ls os fl to nb 0 0 ((nines nb).set to.toNat 0) := by
  have hl : to.toNat < (nines nb).length := by simp [nines]; omega
  have e0 : at_ ((nines nb).set to.toNat 0) to.toNat = 0 := at_set_eq _ _ _ hl
  have en : ∀ j, j < nb → j ≠ to.toNat → at_ ((nines nb).set to.toNat 0) j = 99 := fun j hj hne => by rw [at_set_ne _ _ _ _ (Ne.symm hne), nines_at _ _ hj]
  refine ⟨by simp [nines], fun j hj => ?_, e0, fun u hu hlt => ?_, fun u t hu ht hr => ?_, fun j u v hj => by omega⟩
  · by_cases hj2 : j = to.toNat
    · subst hj2; omega
    · rw [en j hj hj2]; omega
  · by_cases hu2 : u = to.toNat
    · subst hu2
      rw [e0]
      show ((to.toNat : Nat) : Int) = to
      omega
    · rw [en u hu hu2] at hlt; omega
  · obtain rfl : t = 0 := by omega
    have : (u : Int) = to := hr
    obtain rfl : u = to.toNat := by omega
    omega
/-- A line is looked at in one direction. -/
theorem Bell.relax (h : Bell ls os fl to nb s k far) (j : Nat) (hj : j < ls.length) (u v : Nat) (hu : u < nb) (hv : v < nb) (ho : otherF (at3 ls j) u = v) (hr : 0 < roomF ls os fl j u) (h0 : 0 ≤ to) (h1 : to < nb) :
    Bell ls os fl to nb s k (far.set u (min (at_ far u) (at_ far v + 1))) ∧ ∀ t : Nat, t ≤ s → Rch (Res ls os fl) to t v → at_ (far.set u (min (at_ far u) (at_ far v + 1))) u ≤ t + 1 := by
  have e0 : at_ (far.set u (min (at_ far u) (at_ far v + 1))) u = min (at_ far u) (at_ far v + 1) := at_set_eq _ _ _ (by rw [h.len]; exact hu)
  have en : ∀ x, x ≠ u → at_ (far.set u (min (at_ far u) (at_ far v + 1))) x = at_ far x := fun x hx => at_set_ne _ _ _ _ (Ne.symm hx)
  have le : ∀ x, x < nb → at_ (far.set u (min (at_ far u) (at_ far v + 1))) x ≤ at_ far x := fun x hx => by
    by_cases hxu : x = u
    · subst hxu; rw [e0]; omega
    · rw [en x hxu]; exact Int.le_refl _
  have bu := h.bnd u hu
  have bv := h.bnd v hv
  refine ⟨⟨by simp [h.len], fun x hx => ?_, ?_, fun x hx hlt => ?_, fun x t hx ht hrc => ?_, fun i x y hi hx hy hoi hri t ht hrc => ?_⟩, fun t ht hrc => ?_⟩
  · by_cases hxu : x = u
    · subst hxu; rw [e0]; omega
    · rw [en x hxu]; exact h.bnd x hx
  · by_cases hxu : to.toNat = u
    · rw [hxu, e0]
      have := h.src
      rw [hxu] at this
      omega
    · rw [en _ hxu]; exact h.src
  · by_cases hxu : x = u
    · subst hxu
      rw [e0] at hlt ⊢
      by_cases hc : at_ far x ≤ at_ far v + 1
      · rw [show min (at_ far x) (at_ far v + 1) = at_ far x by omega] at hlt ⊢
        exact h.snd x hx hlt
      · rw [show min (at_ far x) (at_ far v + 1) = at_ far v + 1 by omega] at hlt ⊢
        have hrv := h.snd v hv (by omega)
        rw [show (at_ far v + 1).toNat = (at_ far v).toNat + 1 by omega]
        exact .inr ⟨(v : Int), ⟨j, hj, by omega, ho, hr⟩, hrv⟩
    · rw [en x hxu] at hlt ⊢; exact h.snd x hx hlt
  · exact Int.le_trans (le x hx) (h.cmp x t hx ht hrc)
  · exact Int.le_trans (le x hx) (h.prt i x y hi hx hy hoi hri t ht hrc)
  · rw [e0]
    have := h.cmp v t hv ht hrc
    omega
theorem Bell.line (h : Bell ls os fl to nb s k far) (hp : ∀ (u v : Nat), u < nb → v < nb → otherF (at3 ls k) u = v → 0 < roomF ls os fl k u → ∀ t : Nat, t ≤ s → Rch (Res ls os fl) to t v → at_ far u ≤ t + 1) : Bell ls os fl to nb s (k + 1) far := by
  refine ⟨h.len, h.bnd, h.src, h.snd, h.cmp, fun j u v hj hu hv ho hr t ht hrc => ?_⟩
  by_cases hjk : j = k
  · subst hjk; exact hp u v hu hv ho hr t ht hrc
  · exact h.prt j u v (by omega) hu hv ho hr t ht hrc
theorem Bell.round (h : Bell ls os fl to nb s ls.length far) (hE : ∀ u v, Res ls os fl u v → (0 ≤ u ∧ u < nb) ∧ (0 ≤ v ∧ v < nb)) : Bell ls os fl to nb (s + 1) 0 far := by
  refine ⟨h.len, h.bnd, h.src, h.snd, fun u t hu ht hr => ?_, fun j u v hj => by omega⟩
  by_cases hts : t ≤ s
  · exact h.cmp u t hu hts hr
  · obtain rfl : t = s + 1 := by omega
    rcases hr with hr | ⟨v, hv1, hv2⟩
    · have := h.cmp u s hu (Nat.le_refl _) hr; omega
    · have hvr := (hE _ _ hv1).2
      obtain ⟨j, hj, _, ho, hrm⟩ := hv1
      obtain ⟨nv, rfl⟩ := Int.eq_ofNat_of_zero_le hvr.1
      have := h.prt j u nv hj hu (by omega) ho hrm s (Nat.le_refl _) hv2
      omega
/-- How far away, with 99 for 'not at all'. -/
def f99 (far : List Int) (u : Int) : Int := if at_ far u.toNat < 99 then at_ far u.toNat else -1
theorem Bell.far_ (h : Bell ls os fl to nb nb 0 far) (hE : ∀ u v, Res ls os fl u v → (0 ≤ u ∧ u < nb) ∧ (0 ≤ v ∧ v < nb)) (h0 : 0 ≤ to) (h1 : to < nb) (hn : nb ≤ 8) : Far (Res ls os fl) to nb (f99 far) := by
  intro u a c
  obtain ⟨nu, rfl⟩ := Int.eq_ofNat_of_zero_le a
  have hu : nu < nb := by omega
  have hb := h.bnd nu hu
  unfold f99
  simp only [Int.toNat_natCast]
  have key : ∀ d : Nat, Rch (Res ls os fl) to d nu → at_ far nu ≤ d ∧ at_ far nu ≤ nb := fun d hr => by
    have h2 := hr.enough nb ⟨h0, h1⟩ (fun u v huv => (hE u v huv).1)
    have h3 := h.cmp nu (nb - 1) hu (by omega) h2
    by_cases hd : d ≤ nb
    · have := h.cmp nu d hu hd hr; omega
    · omega
  split
  · rename_i hlt
    refine ⟨by omega, fun d => ⟨fun hr => by have := key d hr; omega, fun hx => ?_⟩⟩
    exact (h.snd nu hu hlt).up d (by omega)
  · rename_i hlt
    exact ⟨by omega, fun d => ⟨fun hr => by have := key d hr; omega, fun hx => by omega⟩⟩
end

/-- How far all buses are away, in a list, with 99 for 'not at all'. -/
def Far99 (ls : List (Int × Int × Int)) (os : List Bool) (fl : List Int) (to : Int) (nb : Nat) (r : List Int) : Prop := r.length = nb ∧ Far (Res ls os fl) to nb (f99 r) ∧ ∀ j, j < nb → 0 ≤ at_ r j ∧ at_ r j ≤ 99

end Go.Proofs.YtijnahflfbjgiaaDoor
