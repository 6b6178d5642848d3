/-
  Chapter 34: a search in breadth: what holds at each of its steps, and that in the end it tells how far all buses are away. Plain definitions and lemmas, no function of the program.
-/
import Derived.Test.YtijnahflfbjgiaaDoorFlow
import Derived.Test.YtijnahflfbjgiaaDoorSort
namespace Go.Proofs.YtijnahflfbjgiaaDoor
open Go.RowKit
set_option linter.unusedVariables false

/-- A step of the search. -/
def Mv (ls : List (Int × Int × Int)) (may : Nat → Int → Bool) (v u : Int) : Prop := ∃ k, k < ls.length ∧ 0 ≤ u ∧ otherF (at3 ls k) v = u ∧ may k v = true

/-- What holds when some buses are done and others wait. -/
structure Bfs (ls : List (Int × Int × Int)) (may : Nat → Int → Bool) (nb : Nat) (src : Int) (far done queue : List Int) : Prop where
  len : far.length = nb
  nod : (done ++ queue).Nodup
  mem : ∀ u : Int, 0 ≤ u → u < nb → (0 ≤ at_ far u.toNat ↔ u ∈ done ++ queue)
  rng : ∀ u ∈ done ++ queue, 0 ≤ u ∧ u < nb
  low : ∀ j, j < nb → -1 ≤ at_ far j
  sr0 : at_ far src.toNat = 0
  sr1 : src ∈ done ++ queue
  mono : (done ++ queue).Pairwise fun x y => at_ far x.toNat ≤ at_ far y.toNat
  head : ∀ h t, queue = h :: t → ∀ x ∈ done ++ queue, at_ far x.toNat ≤ at_ far h.toNat + 1
  clo : ∀ v ∈ done, ∀ u, Mv ls may v u → u ∈ done ++ queue ∧ at_ far u.toNat ≤ at_ far v.toNat + 1
  par : ∀ u ∈ done ++ queue, u = src ∨ ∃ v, Mv ls may v u ∧ v ∈ done ++ queue ∧ at_ far u.toNat = at_ far v.toNat + 1
  hi : ∀ u ∈ done ++ queue, at_ far u.toNat < ((done ++ queue).length : Int)

section
variable {ls : List (Int × Int × Int)} {may : Nat → Int → Bool} {nb : Nat} {src : Int} {far done queue : List Int}

theorem Bfs.cnt (h : Bfs ls may nb src far done queue) : (done ++ queue).length ≤ nb := nodup_len nb _ h.nod h.rng
theorem Bfs.small (h : Bfs ls may nb src far done queue) (j : Nat) (hj : j < nb) : -1 ≤ at_ far j ∧ at_ far j < nb := by
  have h1 := h.low j hj
  by_cases h2 : 0 ≤ at_ far j
  · have h3 := (h.mem j (by omega) (by omega)).1 (by simpa using h2)
    have h4 := h.hi _ h3
    have h5 := h.cnt
    simp only [Int.toNat_natCast] at h4
    omega
  · omega
def mones (n : Nat) : List Int := List.replicate n (-1)
theorem mones_at (n j : Nat) (h : j < n) : at_ (mones n) j = -1 := by simp [at_, mones, h]
theorem Bfs.start (h0 : 0 ≤ src) (h1 : src < nb) : Bfs ls may nb src ((mones nb).set src.toNat 0) [] [src] := by
  have hl : src.toNat < (mones nb).length := by simp [mones]; omega
  have e0 : at_ ((mones nb).set src.toNat 0) src.toNat = 0 := at_set_eq _ _ _ hl
  have en : ∀ j, j < nb → j ≠ src.toNat → at_ ((mones nb).set src.toNat 0) j = -1 := fun j hj hne => by rw [at_set_ne _ _ _ _ (Ne.symm hne), mones_at _ _ hj]
  refine ⟨by simp [mones], by simp, fun u a c => ?_, fun u hu => ?_, fun j hj => ?_, e0, by simp, by simp, fun h t he x hx => ?_, by simp, fun u hu => .inl (by simpa using hu), fun u hu => ?_⟩
  · by_cases hu : u = src
    · subst hu; simp [e0]
    · rw [en u.toNat (by omega) (by omega)]
      simp [hu]
  · have : u = src := by simpa using hu
    omega
  · by_cases hj2 : j = src.toNat
    · subst hj2; omega
    · rw [en j hj hj2]; omega
  · have hx : x = src := by simpa using hx
    have hh : h = src := by simp at he; exact he.1.symm
    rw [hx, hh]; omega
  · have hu : u = src := by simpa using hu
    rw [hu, e0]; simp
/-- A bus is found. -/
theorem Bfs.push {v : Int} {rest : List Int} (h : Bfs ls may nb src far done (v :: rest)) (k : Nat) (hk : k < ls.length) (u : Int) (hu : otherF (at3 ls k) v = u) (h0 : 0 ≤ u) (h1 : u < nb) (hf : at_ far u.toNat < 0) (hm : may k v = true) :
    Bfs ls may nb src (far.set u.toNat (at_ far v.toNat + 1)) done (v :: (rest ++ [u])) := by
  have happ : done ++ v :: (rest ++ [u]) = (done ++ v :: rest) ++ [u] := by simp
  have hnot : u ∉ done ++ v :: rest := fun hm => by have := (h.mem u h0 h1).2 hm; omega
  have hv : v ∈ done ++ v :: rest := by simp
  have hvr := h.rng v hv
  have hvf := (h.mem v hvr.1 hvr.2).2 hv
  have e0 : at_ (far.set u.toNat (at_ far v.toNat + 1)) u.toNat = at_ far v.toNat + 1 := at_set_eq _ _ _ (by rw [h.len]; omega)
  have en : ∀ x ∈ done ++ v :: rest, at_ (far.set u.toNat (at_ far v.toNat + 1)) x.toNat = at_ far x.toNat := fun x hx => by
    refine at_set_ne _ _ _ _ fun he => ?_
    have := h.rng x hx
    obtain rfl : x = u := by omega
    exact hnot hx
  have ej : ∀ j, j ≠ u.toNat → at_ (far.set u.toNat (at_ far v.toNat + 1)) j = at_ far j := fun j hj => at_set_ne _ _ _ _ (Ne.symm hj)
  have hmv : Mv ls may v u := ⟨k, hk, h0, hu, hm⟩
  refine ⟨by simp [h.len], ?_, fun x a c => ?_, fun x hx => ?_, fun j hj => ?_, ?_, ?_, ?_, ?_, ?_, ?_, ?_⟩
  · rw [happ, List.nodup_append]
    exact ⟨h.nod, by simp, fun a ha b hb => by simp at hb; subst hb; rintro rfl; exact hnot ha⟩
  · rw [happ]
    by_cases hx : x = u
    · subst hx
      rw [e0]
      simp
      omega
    · rw [ej x.toNat (by omega), h.mem x a c]
      simp [hx]
  · rw [happ] at hx
    rcases List.mem_append.1 hx with hx | hx
    · exact h.rng x hx
    · simp at hx; omega
  · by_cases hj2 : j = u.toNat
    · subst hj2; rw [e0]; omega
    · rw [ej j hj2]; exact h.low j hj
  · rw [en src h.sr1]; exact h.sr0
  · rw [happ]; exact List.mem_append_left _ h.sr1
  · rw [happ, List.pairwise_append]
    refine ⟨h.mono.imp_of_mem fun ha hb hab => by rw [en _ ha, en _ hb]; exact hab, by simp, fun a ha b hb => ?_⟩
    simp at hb
    subst hb
    rw [en a ha, e0]
    exact h.head v rest rfl a ha
  · intro x t he y hy
    obtain ⟨rfl, -⟩ : v = x ∧ _ := by simpa using he
    rw [happ] at hy
    rw [en v hv]
    rcases List.mem_append.1 hy with hy | hy
    · rw [en y hy]; exact h.head v rest rfl y hy
    · simp at hy; subst hy; rw [e0]; omega
  · intro x hx y hy
    have := h.clo x hx y hy
    rw [happ, en y this.1, en x (List.mem_append_left _ hx)]
    exact ⟨List.mem_append_left _ this.1, this.2⟩
  · intro x hx
    rw [happ] at hx ⊢
    rcases List.mem_append.1 hx with hx | hx
    · rcases h.par x hx with h2 | ⟨y, h2, h3, h4⟩
      · exact .inl h2
      · exact .inr ⟨y, h2, List.mem_append_left _ h3, by rw [en x hx, en y h3]; exact h4⟩
    · simp at hx
      subst hx
      exact .inr ⟨v, hmv, List.mem_append_left _ hv, by rw [e0, en v hv]⟩
  · intro x hx
    rw [happ] at hx ⊢
    have hlen : ((done ++ v :: rest ++ [u]).length : Int) = (done ++ v :: rest).length + 1 := by simp; omega
    rcases List.mem_append.1 hx with hx | hx
    · rw [en x hx]; have := h.hi x hx; omega
    · simp at hx
      subst hx
      rw [e0]; have := h.hi v hv; omega
/-- What the lines before one have found, seen from the first bus that waits. -/
def Seen (ls : List (Int × Int × Int)) (may : Nat → Int → Bool) (far done : List Int) (v : Int) (rest : List Int) (k : Nat) : Prop :=
  ∀ j, j < k → 0 ≤ otherF (at3 ls j) v → may j v = true → otherF (at3 ls j) v ∈ done ++ v :: rest
theorem Seen.zero (far done : List Int) (v : Int) (rest : List Int) : Seen ls may far done v rest 0 := fun j hj => absurd hj (by omega)
theorem Seen.push {v : Int} {rest : List Int} {k : Nat} (h : Seen ls may far done v rest k) (u : Int) (hu : otherF (at3 ls k) v = u) (far' : List Int) : Seen ls may far' done v (rest ++ [u]) (k + 1) := by
  intro j hj h0 hm
  by_cases hjk : j = k
  · subst hjk; rw [hu]; simp
  · have := h j (by omega) h0 hm
    simp only [List.mem_append, List.mem_cons] at this ⊢
    rcases this with h1 | h1 | h1
    · exact .inl h1
    · exact .inr (.inl h1)
    · exact .inr (.inr (.inl h1))
theorem Seen.skip {v : Int} {rest : List Int} {k : Nat} (hb : Bfs ls may nb src far done (v :: rest)) (h : Seen ls may far done v rest k) (hs : 0 ≤ otherF (at3 ls k) v → may k v = true → otherF (at3 ls k) v < nb ∧ 0 ≤ at_ far (otherF (at3 ls k) v).toNat) : Seen ls may far done v rest (k + 1) := by
  intro j hj h0 hm
  by_cases hjk : j = k
  · subst hjk
    exact (hb.mem _ h0 (hs h0 hm).1).1 (hs h0 hm).2
  · exact h j (by omega) h0 hm
/-- A bus is done. -/
theorem Bfs.pop {v : Int} {rest : List Int} (h : Bfs ls may nb src far done (v :: rest)) (hs : Seen ls may far done v rest ls.length) : Bfs ls may nb src far (done ++ [v]) rest := by
  have happ : (done ++ [v]) ++ rest = done ++ v :: rest := by simp
  refine ⟨h.len, by rw [happ]; exact h.nod, by rw [happ]; exact h.mem, by rw [happ]; exact h.rng, h.low, h.sr0, by rw [happ]; exact h.sr1, by rw [happ]; exact h.mono, ?_, ?_, by rw [happ]; exact h.par, by rw [happ]; exact h.hi⟩
  · intro x t he y hy
    rw [happ] at hy
    have h1 := h.head v rest rfl y hy
    have h2 : at_ far v.toNat ≤ at_ far x.toNat := by
      have := (List.pairwise_append.1 h.mono).2.1
      rw [he] at this
      exact (List.pairwise_cons.1 this).1 x (by simp)
    omega
  · intro x hx y hy
    rw [happ]
    rcases List.mem_append.1 hx with hx | hx
    · exact h.clo x hx y hy
    · have hx : x = v := by simpa using hx
      subst hx
      obtain ⟨k, hk, h0, ho, hm⟩ := hy
      have := hs k hk (by omega) hm
      rw [ho] at this
      exact ⟨this, h.head x rest rfl y this⟩
/-- In the end it tells how far all buses are away. -/
theorem Bfs.ends (h : Bfs ls may nb src far done []) (hr : ∀ v u, Mv ls may v u → (0 ≤ v ∧ v < nb) ∧ (0 ≤ u ∧ u < nb)) : Far (fun u v => Mv ls may v u) src nb (fun u => at_ far u.toNat) := by
  have hs := h.rng _ h.sr1
  refine Far.local (fun u v huv => by have := hr v u huv; exact ⟨this.2, this.1⟩) hs (fun u a c => h.low u.toNat (by omega)) h.sr0 ?_ ?_
  · intro u v huv hv
    have hvr := (hr v u huv).1
    have hv2 : v ∈ done := by simpa using (h.mem v hvr.1 hvr.2).1 hv
    have hc := h.clo v hv2 u huv
    have hur := (hr v u huv).2
    exact ⟨(h.mem u hur.1 hur.2).2 hc.1, hc.2⟩
  · intro u a c hu
    rcases h.par u ((h.mem u a c).1 hu) with h2 | ⟨v, h2, h3, h4⟩
    · exact .inl h2
    · have hvr := (hr v u h2).1
      exact .inr ⟨v, h2, (h.mem v hvr.1 hvr.2).2 h3, h4⟩
end

end Go.Proofs.YtijnahflfbjgiaaDoor
