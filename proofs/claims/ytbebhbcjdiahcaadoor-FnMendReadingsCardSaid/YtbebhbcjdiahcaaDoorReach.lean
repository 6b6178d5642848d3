/-
  Ways over a few buses: what is reached within so many steps, and that as many steps as there are buses suffice. Plain definitions and lemmas, no function of the program.
-/
import Derived.Test.YtbebhbcjdiahcaaDoorBase
namespace Go.Proofs.YtbebhbcjdiahcaaDoor
open Go.RowKit
set_option linter.unusedVariables false

/-- From u one comes to t within s steps. -/
def Rch (E : Int → Int → Prop) (t : Int) : Nat → Int → Prop
  | 0, u => u = t
  | s + 1, u => Rch E t s u ∨ ∃ v, E u v ∧ Rch E t s v
theorem Rch.up {E : Int → Int → Prop} {t u : Int} {s : Nat} (h : Rch E t s u) (s' : Nat) (hs : s ≤ s') : Rch E t s' u := by
  induction s' with
  | zero => obtain rfl : s = 0 := by omega
            exact h
  | succ s' ih =>
    by_cases he : s = s' + 1
    · subst he; exact h
    · exact .inl (ih (by omega))
theorem Rch.self (E : Int → Int → Prop) (t : Int) (s : Nat) : Rch E t s t := (show Rch E t 0 t from rfl).up s (Nat.zero_le _)
theorem Rch.mono {E E' : Int → Int → Prop} {t : Int} (hE : ∀ u v, E u v → E' u v) : ∀ {s : Nat} {u : Int}, Rch E t s u → Rch E' t s u
  | 0, u, h => h
  | s + 1, u, .inl h => .inl (Rch.mono hE h)
  | s + 1, u, .inr ⟨v, h1, h2⟩ => .inr ⟨v, hE _ _ h1, Rch.mono hE h2⟩
/-- Reached at all. -/
def Rea (E : Int → Int → Prop) (t u : Int) : Prop := ∃ s, Rch E t s u
theorem Rea.refl (E : Int → Int → Prop) (t : Int) : Rea E t t := ⟨0, rfl⟩
theorem Rea.step {E : Int → Int → Prop} {t u v : Int} (h : E u v) (k : Rea E t v) : Rea E t u := by
  obtain ⟨s, hs⟩ := k
  exact ⟨s + 1, .inr ⟨v, h, hs⟩⟩
theorem Rch.trans {E : Int → Int → Prop} {t m : Int} {a : Nat} (h : Rch E t a m) : ∀ {b : Nat} {u : Int}, Rch E m b u → Rea E t u
  | 0, u, k => by rw [show u = m from k]; exact ⟨a, h⟩
  | b + 1, u, .inl k => Rch.trans h k
  | b + 1, u, .inr ⟨v, h1, h2⟩ => (Rch.trans h h2).step h1
theorem Rea.trans {E : Int → Int → Prop} {t m u : Int} (h : Rea E t m) (k : Rea E m u) : Rea E t u := by
  obtain ⟨a, ha⟩ := h
  obtain ⟨b, hb⟩ := k
  exact ha.trans hb
theorem Rea.mono {E E' : Int → Int → Prop} {t u : Int} (hE : ∀ u v, E u v → E' u v) (h : Rea E t u) : Rea E' t u := by
  obtain ⟨s, hs⟩ := h
  exact ⟨s, hs.mono hE⟩
theorem Rch.back {E : Int → Int → Prop} {t : Int} : ∀ {s : Nat} {u : Int}, Rch E t s u → Rea (fun x y => E y x) u t
  | 0, u, h => by rw [show u = t from h]; exact Rea.refl _ _
  | s + 1, u, .inl h => Rch.back h
  | s + 1, u, .inr ⟨v, h1, h2⟩ => Rea.trans (Rea.step (E := fun x y => E y x) (u := v) (v := u) h1 (Rea.refl _ _)) (Rch.back h2)
/-- The other way round. -/
theorem Rea.back {E : Int → Int → Prop} {t u : Int} (h : Rea E t u) : Rea (fun x y => E y x) u t := by
  obtain ⟨s, hs⟩ := h
  exact hs.back
theorem Rea.sym {E : Int → Int → Prop} (hE : ∀ u v, E u v → E v u) {t u : Int} (h : Rea E t u) : Rea E u t := h.back.mono fun _ _ h => hE _ _ h
/-- What is closed under the steps backwards holds all that is reached. -/
theorem Rea.all {E : Int → Int → Prop} {t : Int} (P : Int → Prop) (h0 : P t) (hs : ∀ u v, E u v → P v → P u) {u : Int} (h : Rea E t u) : P u := by
  obtain ⟨s, hs'⟩ := h
  induction s generalizing u with
  | zero => rw [show u = t from hs']; exact h0
  | succ s ih =>
    rcases hs' with h1 | ⟨v, h1, h2⟩
    · exact ih h1
    · exact hs _ _ h1 (ih h2)

/-! ### so many steps suffice -/
theorem countP_lt {α : Type} {p q : α → Bool} : ∀ (l : List α), (∀ x ∈ l, p x = true → q x = true) → (∃ x ∈ l, q x = true ∧ p x = false) → l.countP p + 1 ≤ l.countP q
  | [], _, ⟨x, hx, _⟩ => by simp at hx
  | a :: l, h, ⟨x, hx, hq, hp⟩ => by
    have hm : l.countP p ≤ l.countP q := List.countP_mono_left fun y hy hpy => h y (by simp [hy]) hpy
    rw [List.countP_cons, List.countP_cons]
    have ha := h a (by simp)
    rcases List.mem_cons.1 hx with rfl | hx
    · simp only [hq, hp]
      simp
      omega
    · have ih := countP_lt l (fun y hy => h y (by simp [hy])) ⟨x, hx, hq, hp⟩
      cases hpa : p a
      · simp only [Bool.false_eq_true, if_false]
        split <;> omega
      · simp only [ha hpa, if_true]
        omega
theorem Rch.stay {E : Int → Int → Prop} {t : Int} {s : Nat} (h : ∀ u, Rch E t (s + 1) u → Rch E t s u) : ∀ s' u, Rch E t s' u → Rch E t s u := by
  intro s'
  induction s' with
  | zero => intro u hu; exact hu.up s (Nat.zero_le _)
  | succ s' ih =>
    intro u hu
    rcases hu with hu | ⟨v, h1, h2⟩
    · exact ih u hu
    · exact h u (.inr ⟨v, h1, ih v h2⟩)
def nums (n : Nat) : List Int := (List.range n).map fun (j : Nat) => (j : Int)
theorem nums_mem (n : Nat) (x : Int) : x ∈ nums n ↔ 0 ≤ x ∧ x < n := by
  simp only [nums, List.mem_map, List.mem_range]
  constructor
  · rintro ⟨j, hj, rfl⟩; omega
  · rintro ⟨h1, h2⟩; exact ⟨x.toNat, by omega, by omega⟩
open Classical in
theorem Rch.enough {E : Int → Int → Prop} {t : Int} (n : Nat) (ht : 0 ≤ t ∧ t < n) (hE : ∀ u v, E u v → 0 ≤ u ∧ u < n) {s : Nat} {u : Int} (h : Rch E t s u) : Rch E t (n - 1) u := by
  have hin : ∀ s u, Rch E t s u → 0 ≤ u ∧ u < n := by
    intro s
    induction s with
    | zero => intro u hu; rw [show u = t from hu]; exact ht
    | succ s ih =>
      intro u hu
      rcases hu with hu | ⟨v, h1, _⟩
      · exact ih u hu
      · exact hE _ _ h1
  let c : Nat → Nat := fun s => (nums n).countP fun x => decide (Rch E t s x)
  have key : ∀ s, (∃ s0, s0 ≤ s ∧ ∀ u, Rch E t (s0 + 1) u → Rch E t s0 u) ∨ s + 1 ≤ c s := by
    intro s
    induction s with
    | zero =>
      right
      show 0 + 1 ≤ (nums n).countP fun x => decide (Rch E t 0 x)
      have : 0 < (nums n).countP fun x => decide (Rch E t 0 x) := List.countP_pos_iff.2 ⟨t, (nums_mem n t).2 ht, by simp [Rch]⟩
      omega
    | succ s ih =>
      rcases ih with ⟨s0, h0, h1⟩ | ih
      · exact .inl ⟨s0, by omega, h1⟩
      · by_cases hst : ∀ u, Rch E t (s + 1) u → Rch E t s u
        · exact .inl ⟨s, by omega, hst⟩
        · right
          obtain ⟨u, hu⟩ := Classical.not_forall.1 hst
          have hu1 : Rch E t (s + 1) u := Classical.byContradiction fun hn => hu fun hx => absurd hx hn
          have hu2 : ¬ Rch E t s u := fun hn => hu fun _ => hn
          have := countP_lt (p := fun x => decide (Rch E t s x)) (q := fun x => decide (Rch E t (s + 1) x)) (nums n) (fun x _ hx => by simp at hx ⊢; exact .inl hx) ⟨u, (nums_mem n u).2 (hin _ _ hu1), by simpa using hu1, by simpa using hu2⟩
          have e1 : c (s + 1) = (nums n).countP fun x => decide (Rch E t (s + 1) x) := rfl
          have e2 : c s = (nums n).countP fun x => decide (Rch E t s x) := rfl
          omega
  rcases key (n - 1) with ⟨s0, h0, h1⟩ | hk
  · exact (Rch.stay h1 s u h).up _ h0
  · have hlen : (nums n).length = n := by simp [nums]
    have hc : c (n - 1) = (nums n).length := by
      have : c (n - 1) ≤ (nums n).length := List.countP_le_length
      omega
    have := List.countP_eq_length.1 hc u ((nums_mem n u).2 (hin _ _ h))
    simpa using this
theorem Rea.enough {E : Int → Int → Prop} {t : Int} (n : Nat) (ht : 0 ≤ t ∧ t < n) (hE : ∀ u v, E u v → 0 ≤ u ∧ u < n) {u : Int} (h : Rea E t u) : Rch E t (n - 1) u := by
  obtain ⟨s, hs⟩ := h
  exact hs.enough n ht hE

/-! ### how far away -/
/-- For each bus how many steps it is away, -1 if it is not reached. -/
def Far (E : Int → Int → Prop) (t : Int) (n : Nat) (f : Int → Int) : Prop := ∀ u : Int, 0 ≤ u → u < n → -1 ≤ f u ∧ ∀ d : Nat, Rch E t d u ↔ 0 ≤ f u ∧ f u ≤ d
theorem Far.unique {E : Int → Int → Prop} {t : Int} {n : Nat} {f g : Int → Int} (hf : Far E t n f) (hg : Far E t n g) (u : Int) (h0 : 0 ≤ u) (h1 : u < n) : f u = g u := by
  obtain ⟨a1, a2⟩ := hf u h0 h1
  obtain ⟨b1, b2⟩ := hg u h0 h1
  by_cases h : 0 ≤ f u
  · have x1 := (b2 (f u).toNat).1 ((a2 (f u).toNat).2 ⟨h, by omega⟩)
    have x2 := (a2 (g u).toNat).1 ((b2 (g u).toNat).2 ⟨x1.1, by omega⟩)
    omega
  · by_cases h' : 0 ≤ g u
    · have x1 := (a2 (g u).toNat).1 ((b2 (g u).toNat).2 ⟨h', by omega⟩)
      omega
    · omega
/-- What tells how far away buses are, step by step. -/
theorem Far.local {E : Int → Int → Prop} {t : Int} {n : Nat} {f : Int → Int} (hE : ∀ u v, E u v → (0 ≤ u ∧ u < n) ∧ (0 ≤ v ∧ v < n)) (ht : 0 ≤ t ∧ t < n) (h1 : ∀ u : Int, 0 ≤ u → u < n → -1 ≤ f u) (h0 : f t = 0)
    (h2 : ∀ u v, E u v → 0 ≤ f v → 0 ≤ f u ∧ f u ≤ f v + 1) (h3 : ∀ u : Int, 0 ≤ u → u < n → 0 ≤ f u → u = t ∨ ∃ v, E u v ∧ 0 ≤ f v ∧ f u = f v + 1) : Far E t n f := by
  have s1 : ∀ d : Nat, ∀ u : Int, 0 ≤ u → u < n → f u = d → Rch E t d u := by
    intro d
    induction d with
    | zero =>
      intro u a b hu
      rcases h3 u a b (by omega) with h | ⟨v, _, hv, he⟩
      · exact h
      · omega
    | succ d ih =>
      intro u a b hu
      rcases h3 u a b (by omega) with h | ⟨v, hv1, hv, he⟩
      · rw [h]; exact Rch.self _ _ _
      · exact .inr ⟨v, hv1, ih v (hE _ _ hv1).2.1 (hE _ _ hv1).2.2 (by omega)⟩
  have s2 : ∀ d : Nat, ∀ u, Rch E t d u → 0 ≤ f u ∧ f u ≤ d := by
    intro d
    induction d with
    | zero => intro u hu; rw [show u = t from hu, h0]; omega
    | succ d ih =>
      intro u hu
      rcases hu with hu | ⟨v, hv1, hv2⟩
      · have := ih u hu; omega
      · have := ih v hv2
        have := h2 u v hv1 this.1
        omega
  intro u a b
  refine ⟨h1 u a b, fun d => ⟨s2 d u, fun ⟨x1, x2⟩ => ?_⟩⟩
  have := s1 (f u).toNat u a b (by omega)
  exact this.up d (by omega)
theorem Far.at {E : Int → Int → Prop} {t : Int} {n : Nat} {f : Int → Int} (hf : Far E t n f) (ht : 0 ≤ t ∧ t < n) : f t = 0 := by
  have := ((hf t ht.1 ht.2).2 0).1 rfl
  omega
theorem Far.zero {E : Int → Int → Prop} {t : Int} {n : Nat} {f : Int → Int} (hf : Far E t n f) {u : Int} (h0 : 0 ≤ u) (h1 : u < n) (h : f u = 0) : u = t := ((hf u h0 h1).2 0).2 (by omega)
/-- A step does not come nearer by more than one. -/
theorem Far.step {E : Int → Int → Prop} {t : Int} {n : Nat} {f : Int → Int} (hf : Far E t n f) {u v : Int} (hu : 0 ≤ u ∧ u < n) (hv : 0 ≤ v ∧ v < n) (hE : E u v) (h : 0 ≤ f v) : 0 ≤ f u ∧ f u ≤ f v + 1 := by
  have h1 := ((hf v hv.1 hv.2).2 (f v).toNat).2 ⟨h, by omega⟩
  have h2 := ((hf u hu.1 hu.2).2 ((f v).toNat + 1)).1 (.inr ⟨v, hE, h1⟩)
  omega
/-- There is a step that comes nearer. -/
theorem Far.nearer {E : Int → Int → Prop} {t : Int} {n : Nat} {f : Int → Int} (hf : Far E t n f) (hE : ∀ u v, E u v → (0 ≤ u ∧ u < n) ∧ (0 ≤ v ∧ v < n)) {u : Int} (h0 : 0 ≤ u) (h1 : u < n) (h : 0 < f u) : ∃ v, E u v ∧ f v = f u - 1 := by
  obtain ⟨d, hd⟩ : ∃ d : Nat, f u = d + 1 := ⟨(f u).toNat - 1, by omega⟩
  have hr := ((hf u h0 h1).2 (d + 1)).2 ⟨by omega, by omega⟩
  rcases hr with hr | ⟨v, hv1, hv2⟩
  · have := ((hf u h0 h1).2 d).1 hr
    omega
  · have hvr := (hE _ _ hv1).2
    have := ((hf v hvr.1 hvr.2).2 d).1 hv2
    have h4 := hf.step ⟨h0, h1⟩ hvr hv1 this.1
    exact ⟨v, hv1, by omega⟩
theorem Far.lt {E : Int → Int → Prop} {t : Int} {n : Nat} {f : Int → Int} (hf : Far E t n f) (ht : 0 ≤ t ∧ t < n) (hE : ∀ u v, E u v → 0 ≤ u ∧ u < n) {u : Int} (h0 : 0 ≤ u) (h1 : u < n) : f u < n := by
  by_cases h : 0 ≤ f u
  · have := ((hf u h0 h1).2 (f u).toNat).2 ⟨h, by omega⟩
    have := ((hf u h0 h1).2 (n - 1)).1 (this.enough n ht hE)
    omega
  · omega
theorem Far.reach {E : Int → Int → Prop} {t : Int} {n : Nat} {f : Int → Int} (hf : Far E t n f) {u : Int} (h0 : 0 ≤ u) (h1 : u < n) : 0 ≤ f u ↔ Rea E t u := by
  constructor
  · intro h; exact ⟨(f u).toNat, ((hf u h0 h1).2 _).2 ⟨h, by omega⟩⟩
  · rintro ⟨s, hs⟩; exact (((hf u h0 h1).2 s).1 hs).1

end Go.Proofs.YtbebhbcjdiahcaaDoor
