/-
  Islands of lines, cycles, and the lines through which buses are fed. Plain definitions and lemmas, no function of the program.
-/
import Derived.Test.YtbebhbcjdiahcaaDoorReach
namespace Go.Proofs.YtbebhbcjdiahcaaDoor
open Go.RowKit
set_option linter.unusedVariables false

section
variable {ls : List (Int × Int × Int)}
/-- A line of those in S joins u and v. -/
def EdgeP (ls : List (Int × Int × Int)) (S : Nat → Prop) (u v : Int) : Prop := ∃ k, k < ls.length ∧ S k ∧ (((at3 ls k).1 = u ∧ (at3 ls k).2.1 = v) ∨ ((at3 ls k).1 = v ∧ (at3 ls k).2.1 = u))
/-- x and y are in one island by the lines in S. -/
def Con (ls : List (Int × Int × Int)) (S : Nat → Prop) (x y : Int) : Prop := Rea (EdgeP ls S) x y
theorem EdgeP.sym {S : Nat → Prop} {u v : Int} (h : EdgeP ls S u v) : EdgeP ls S v u := by
  obtain ⟨k, h1, h2, h3⟩ := h
  exact ⟨k, h1, h2, h3.elim (fun h => .inr h) (fun h => .inl h)⟩
theorem EdgeP.mono {S T : Nat → Prop} (hST : ∀ k, k < ls.length → S k → T k) {u v : Int} (h : EdgeP ls S u v) : EdgeP ls T u v := by
  obtain ⟨k, h1, h2, h3⟩ := h
  exact ⟨k, h1, hST k h1 h2, h3⟩
theorem Con.refl (S : Nat → Prop) (x : Int) : Con ls S x x := Rea.refl _ _
theorem Con.sym {S : Nat → Prop} {x y : Int} (h : Con ls S x y) : Con ls S y x := Rea.sym (fun _ _ h => EdgeP.sym h) h
theorem Con.trans {S : Nat → Prop} {x y z : Int} (h : Con ls S x y) (k : Con ls S y z) : Con ls S x z := Rea.trans h k
theorem Con.mono {S T : Nat → Prop} (hST : ∀ k, k < ls.length → S k → T k) {x y : Int} (h : Con ls S x y) : Con ls T x y := Rea.mono (fun _ _ h => EdgeP.mono hST h) h
theorem Con.edge {S : Nat → Prop} {u v : Int} (h : EdgeP ls S u v) : Con ls S v u := Rea.step h (Rea.refl _ _)
theorem Con.line {S : Nat → Prop} {k : Nat} (hk : k < ls.length) (hS : S k) : Con ls S (at3 ls k).1 (at3 ls k).2.1 := Con.edge ⟨k, hk, hS, .inr ⟨rfl, rfl⟩⟩
/-- With one line more. -/
theorem Con.plus {S T : Nat → Prop} {k : Nat} (hT : ∀ j, j < ls.length → T j → S j ∨ j = k) {x y : Int} (h : Con ls T x y) :
    Con ls S x y ∨ (Con ls S x (at3 ls k).1 ∧ Con ls S (at3 ls k).2.1 y) ∨ (Con ls S x (at3 ls k).2.1 ∧ Con ls S (at3 ls k).1 y) := by
  refine Rea.all (E := EdgeP ls T) (t := x) (fun u => Con ls S x u ∨ (Con ls S x (at3 ls k).1 ∧ Con ls S (at3 ls k).2.1 u) ∨ (Con ls S x (at3 ls k).2.1 ∧ Con ls S (at3 ls k).1 u)) (.inl (Con.refl _ _)) ?_ h
  rintro u v ⟨j, hj, hTj, he⟩ hP
  rcases hT j hj hTj with hS | rfl
  · have e : Con ls S v u := Con.edge ⟨j, hj, hS, he⟩
    rcases hP with h | ⟨h1, h2⟩ | ⟨h1, h2⟩
    · exact .inl (h.trans e)
    · exact .inr (.inl ⟨h1, h2.trans e⟩)
    · exact .inr (.inr ⟨h1, h2.trans e⟩)
  · rcases he with ⟨rfl, rfl⟩ | ⟨rfl, rfl⟩
    · rcases hP with h | ⟨h1, h2⟩ | ⟨h1, h2⟩
      · exact .inr (.inr ⟨h, Con.refl _ _⟩)
      · exact .inl h1
      · exact .inr (.inr ⟨h1, Con.refl _ _⟩)
    · rcases hP with h | ⟨h1, h2⟩ | ⟨h1, h2⟩
      · exact .inr (.inl ⟨h, Con.refl _ _⟩)
      · exact .inr (.inl ⟨h1, Con.refl _ _⟩)
      · exact .inl h1

/-! ### cycles -/
/-- Some line that is on joins two buses that are in one island also without it. -/
def Cyc (ls : List (Int × Int × Int)) (O : Nat → Prop) : Prop := ∃ k, k < ls.length ∧ O k ∧ Con ls (fun j => O j ∧ j ≠ k) (at3 ls k).1 (at3 ls k).2.1
/-- .. that are in one island by the lines before it. -/
def CycE (ls : List (Int × Int × Int)) (O : Nat → Prop) : Prop := ∃ k, k < ls.length ∧ O k ∧ Con ls (fun j => O j ∧ j < k) (at3 ls k).1 (at3 ls k).2.1
theorem no_cyc {O : Nat → Prop} (h : ∀ k, k < ls.length → O k → ¬ Con ls (fun j => O j ∧ j < k) (at3 ls k).1 (at3 ls k).2.1) :
    ∀ m, m ≤ ls.length → ∀ k, k < m → O k → ¬ Con ls (fun j => (O j ∧ j < m) ∧ j ≠ k) (at3 ls k).1 (at3 ls k).2.1
  | 0, _, k, hk, _ => by omega
  | m + 1, hm, k, hk, hO => by
    intro hc
    by_cases hkm : k = m
    · subst hkm
      exact h k (by omega) hO (hc.mono fun j _ hj => ⟨hj.1.1, by omega⟩)
    · by_cases hOm : O m
      · have hkl : k < m := by omega
        have ih := no_cyc h m (by omega) k hkl hO
        have hbad : ∀ {x y : Int}, Con ls (fun j => (O j ∧ j < m) ∧ j ≠ k) x y → Con ls (fun j => O j ∧ j < m) x y := fun h => h.mono fun j _ hj => hj.1
        have hline : Con ls (fun j => O j ∧ j < m) (at3 ls k).1 (at3 ls k).2.1 := Con.line (S := fun j => O j ∧ j < m) (by omega) ⟨hO, hkl⟩
        rcases Con.plus (S := fun j => (O j ∧ j < m) ∧ j ≠ k) (k := m) (fun j _ hj => by by_cases hjm : j = m; exact .inr hjm; exact .inl ⟨⟨hj.1.1, by omega⟩, hj.2⟩) hc with h1 | ⟨h1, h2⟩ | ⟨h1, h2⟩
        · exact ih h1
        · exact h m (by omega) hOm (((hbad h1).sym.trans hline).trans (hbad h2).sym)
        · exact h m (by omega) hOm (((hbad h2).trans hline.sym).trans (hbad h1))
      · exact no_cyc h m (by omega) k (by omega) hO (hc.mono fun j _ hj => ⟨⟨hj.1.1, by by_cases hjm : j = m; exact absurd (hjm ▸ hj.1.1) hOm; omega⟩, hj.2⟩)
theorem cyc_iff (O : Nat → Prop) : Cyc ls O ↔ CycE ls O := by
  constructor
  · rintro ⟨k, hk, hO, hc⟩
    exact Classical.byContradiction fun hn => no_cyc (ls := ls) (O := O) (fun j hj hOj hcj => hn ⟨j, hj, hOj, hcj⟩) ls.length (Nat.le_refl _) k hk hO (hc.mono fun j hj hx => ⟨⟨hx.1, hj⟩, hx.2⟩)
  · rintro ⟨k, hk, hO, hc⟩
    exact ⟨k, hk, hO, hc.mono fun j _ hj => ⟨hj.1, by omega⟩⟩

/-! ### the line through which a bus is fed -/
/-- The line k ends at x, and its other end is fed without it. -/
def Par (ls : List (Int × Int × Int)) (O : Nat → Prop) (F : Int → Prop) (k : Nat) (x : Int) : Prop :=
  k < ls.length ∧ O k ∧ ∃ o f, (((at3 ls k).1 = x ∧ (at3 ls k).2.1 = o) ∨ ((at3 ls k).1 = o ∧ (at3 ls k).2.1 = x)) ∧ F f ∧ Con ls (fun j => O j ∧ j ≠ k) o f
theorem Par.unique {O : Nat → Prop} {F : Int → Prop} (hc : ¬ Cyc ls O) (hF : ∀ f g, F f → F g → Con ls O f g → f = g) {x : Int} {k k' : Nat} (h : Par ls O F k x) (h' : Par ls O F k' x) : k = k' := by
  obtain ⟨hk, hO, o, f, he, hf, hco⟩ := h
  obtain ⟨hk', hO', o', f', he', hf', hco'⟩ := h'
  refine Classical.byContradiction fun hne => ?_
  -- both are fed by one feed
  have e1 : ∀ {S : Nat → Prop}, S k → Con ls S x o := fun hS => Con.edge (by rcases he with ⟨h1, h2⟩ | ⟨h1, h2⟩; exact ⟨k, hk, hS, .inr ⟨h1, h2⟩⟩; exact ⟨k, hk, hS, .inl ⟨h1, h2⟩⟩)
  have e2 : ∀ {S : Nat → Prop}, S k' → Con ls S x o' := fun hS => Con.edge (by rcases he' with ⟨h1, h2⟩ | ⟨h1, h2⟩; exact ⟨k', hk', hS, .inr ⟨h1, h2⟩⟩; exact ⟨k', hk', hS, .inl ⟨h1, h2⟩⟩)
  have n1 : ¬ Con ls (fun j => O j ∧ j ≠ k) x o := fun h => hc ⟨k, hk, hO, by rcases he with ⟨h1, h2⟩ | ⟨h1, h2⟩; rw [h1, h2]; exact h; rw [h1, h2]; exact h.sym⟩
  have n2 : ¬ Con ls (fun j => O j ∧ j ≠ k') x o' := fun h => hc ⟨k', hk', hO', by rcases he' with ⟨h1, h2⟩ | ⟨h1, h2⟩; rw [h1, h2]; exact h; rw [h1, h2]; exact h.sym⟩
  have hff : f = f' := by
    refine hF f f' hf hf' ?_
    have c1 : Con ls O o f := hco.mono fun j _ hj => hj.1
    have c2 : Con ls O o' f' := hco'.mono fun j _ hj => hj.1
    exact ((c1.sym.trans (e1 hO).sym).trans (e2 hO')).trans c2
  subst hff
  -- from o' to the feed one must pass k
  rcases Con.plus (S := fun j => (O j ∧ j ≠ k) ∧ j ≠ k') (k := k) (fun j _ hj => by by_cases hjk : j = k; exact .inr hjk; exact .inl ⟨⟨hj.1, hjk⟩, hj.2⟩) hco' with h1 | ⟨h1, h2⟩ | ⟨h1, h2⟩
  · have c1 : Con ls (fun j => O j ∧ j ≠ k) o' f := h1.mono fun j _ hj => hj.1
    exact n1 (((e2 (S := fun j => O j ∧ j ≠ k) ⟨hO', fun h => hne h.symm⟩).trans c1).trans hco.sym)
  · rcases he with ⟨q1, q2⟩ | ⟨q1, q2⟩
    · rw [q1] at h1
      exact n2 ((h1.mono fun j _ hj => ⟨hj.1.1, hj.2⟩ : Con ls (fun j => O j ∧ j ≠ k') o' x).sym)
    · rw [q1] at h1
      have c1 : Con ls (fun j => O j ∧ j ≠ k) o' o := h1.mono fun j _ hj => hj.1
      exact n1 ((e2 (S := fun j => O j ∧ j ≠ k) ⟨hO', fun h => hne h.symm⟩).trans c1)
  · rcases he with ⟨q1, q2⟩ | ⟨q1, q2⟩
    · rw [q2] at h1
      have c1 : Con ls (fun j => O j ∧ j ≠ k) o' o := h1.mono fun j _ hj => hj.1
      exact n1 ((e2 (S := fun j => O j ∧ j ≠ k) ⟨hO', fun h => hne h.symm⟩).trans c1)
    · rw [q2] at h1
      exact n2 ((h1.mono fun j _ hj => ⟨hj.1.1, hj.2⟩ : Con ls (fun j => O j ∧ j ≠ k') o' x).sym)
/-- A line feeds one bus at most. -/
theorem Par.one {O : Nat → Prop} {F : Int → Prop} (hc : ¬ Cyc ls O) (hF : ∀ f g, F f → F g → Con ls O f g → f = g) {x y : Int} {k : Nat} (h : Par ls O F k x) (h' : Par ls O F k y) : x = y := by
  obtain ⟨hk, hO, o, f, he, hf, hco⟩ := h
  obtain ⟨_, _, o', f', he', hf', hco'⟩ := h'
  refine Classical.byContradiction fun hne => ?_
  have hoo : o' = x ∧ o = y := by
    rcases he with ⟨q1, q2⟩ | ⟨q1, q2⟩ <;> rcases he' with ⟨p1, p2⟩ | ⟨p1, p2⟩
    · exact absurd (q1.symm.trans p1) hne
    · exact ⟨p1.symm.trans q1, q2.symm.trans p2⟩
    · exact ⟨p2.symm.trans q2, q1.symm.trans p1⟩
    · exact absurd (q2.symm.trans p2) hne
  obtain ⟨rfl, rfl⟩ := hoo
  have hl : Con ls O o' o := Con.edge (by rcases he with ⟨h1, h2⟩ | ⟨h1, h2⟩; exact ⟨k, hk, hO, .inr ⟨h1, h2⟩⟩; exact ⟨k, hk, hO, .inl ⟨h1, h2⟩⟩)
  have hff : f = f' := hF f f' hf hf' (((hco.mono fun j _ hj => hj.1 : Con ls O o f).sym.trans hl.sym).trans (hco'.mono fun j _ hj => hj.1 : Con ls O o' f'))
  subst hff
  have c : Con ls (fun j => O j ∧ j ≠ k) o' o := hco'.trans hco.sym
  exact hc ⟨k, hk, hO, by rcases he with ⟨h1, h2⟩ | ⟨h1, h2⟩; rw [h1, h2]; exact c; rw [h1, h2]; exact c.sym⟩
end

end Go.Proofs.YtbebhbcjdiahcaaDoor
