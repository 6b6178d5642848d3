/-
  Sets of buses kept in a list: roots, what shortening a way and joining do to them. Plain definitions and lemmas, no function of the program.
-/
import Derived.Test.YtbebhbcjdiahcaaDoorForest
namespace Go.Proofs.YtbebhbcjdiahcaaDoor
open Go.RowKit
set_option linter.unusedVariables false

/-- No bus stands above its own number. -/
def UF (us : List Int) : Prop := ∀ x, x < us.length → 0 ≤ at_ us x ∧ at_ us x ≤ x
def rootN (us : List Int) : Nat → Nat → Nat
  | 0, x => x
  | s + 1, x => if at_ us x = x then x else rootN us s (at_ us x).toNat
/-- The root of a bus. -/
def root (us : List Int) (x : Nat) : Nat := rootN us x x
theorem UF.lt {us : List Int} (h : UF us) {x : Nat} (hx : x < us.length) (hn : ¬ at_ us x = x) : (at_ us x).toNat < x ∧ (((at_ us x).toNat : Nat) : Int) = at_ us x := by
  have := h x hx
  omega
theorem rootN_same {us : List Int} (h : UF us) : ∀ x, x < us.length → ∀ s t, x ≤ s → x ≤ t → rootN us s x = rootN us t x := by
  intro x
  induction x using Nat.strongRecOn with
  | _ x ih =>
    intro hx s t hs ht
    by_cases he : at_ us x = x
    · cases s <;> cases t <;> simp [rootN, he]
    · obtain ⟨h1, h2⟩ := h.lt hx he
      obtain ⟨s', rfl⟩ : ∃ s', s = s' + 1 := ⟨s - 1, by omega⟩
      obtain ⟨t', rfl⟩ : ∃ t', t = t' + 1 := ⟨t - 1, by omega⟩
      simp only [rootN, he, if_false]
      exact ih _ h1 (by omega) s' t' (by omega) (by omega)
theorem root_fix {us : List Int} {x : Nat} (he : at_ us x = x) : root us x = x := by
  unfold root
  cases x with
  | zero => rfl
  | succ x => simp only [rootN]; rw [if_pos he]
theorem root_step {us : List Int} (h : UF us) {x : Nat} (hx : x < us.length) (he : ¬ at_ us x = x) : root us x = root us (at_ us x).toNat := by
  obtain ⟨h1, h2⟩ := h.lt hx he
  unfold root
  obtain ⟨x', rfl⟩ : ∃ x', x = x' + 1 := ⟨x - 1, by omega⟩
  have e : rootN us (x' + 1) (x' + 1) = rootN us x' (at_ us (x' + 1)).toNat := by simp only [rootN]; rw [if_neg he]
  rw [e]
  exact rootN_same h _ (by omega) _ _ (by omega) (Nat.le_refl _)
theorem root_is {us : List Int} (h : UF us) : ∀ x, x < us.length → root us x ≤ x ∧ at_ us (root us x) = root us x := by
  intro x
  induction x using Nat.strongRecOn with
  | _ x ih =>
    intro hx
    by_cases he : at_ us x = x
    · rw [root_fix he]; exact ⟨Nat.le_refl _, he⟩
    · obtain ⟨h1, h2⟩ := h.lt hx he
      rw [root_step h hx he]
      have := ih _ h1 (by omega)
      exact ⟨by omega, this.2⟩
theorem at_setN (us : List Int) (x y : Nat) (v : Int) (hx : x < us.length) : at_ (us.set x v) y = if y = x then v else at_ us y := by
  by_cases h : y = x
  · subst h; rw [if_pos rfl]; simp [at_, hx]
  · rw [if_neg h]; simp [at_, List.getElem?_set_ne (Ne.symm h)]
/-- A way shortened by a step. -/
theorem halve {us : List Int} (h : UF us) {x p : Nat} (hx : x < us.length) (hp : at_ us x = p) : UF (us.set x (at_ us p)) ∧ ∀ y, y < us.length → root (us.set x (at_ us p)) y = root us y := by
  have hx1 := h x hx
  have hp1 : p < us.length := by omega
  have hp2 := h p hp1
  have hu : UF (us.set x (at_ us p)) := by
    intro y hy
    rw [List.length_set] at hy
    rw [at_setN us x y _ hx]
    split
    · omega
    · exact h y hy
  refine ⟨hu, ?_⟩
  intro y
  induction y using Nat.strongRecOn with
  | _ y ih =>
    intro hy
    have hy' : y < (us.set x (at_ us p)).length := by rw [List.length_set]; exact hy
    have ea := at_setN us x y (at_ us p) hx
    by_cases hyx : y = x
    · subst hyx
      rw [if_pos rfl] at ea
      by_cases hpx : at_ us y = y
      · -- a root stays one
        have e : p = y := by omega
        subst e
        rw [root_fix hpx, root_fix (by rw [ea, hpx])]
      · have e1 : root us y = root us p := by rw [root_step h hy hpx, hp]; rfl
        by_cases hpp : at_ us p = p
        · have e2 : ¬ at_ (us.set y (at_ us p)) y = y := by rw [ea]; omega
          rw [root_step hu hy' e2, ea, e1]
          rw [show (at_ us p).toNat = p by omega]
          exact ih p (by omega) hp1
        · obtain ⟨h1, h2⟩ := h.lt hp1 hpp
          have e2 : ¬ at_ (us.set y (at_ us p)) y = y := by rw [ea]; omega
          rw [root_step hu hy' e2, ea, e1, root_step h hp1 hpp]
          exact ih _ (by omega) (by omega)
    · rw [if_neg hyx] at ea
      by_cases he : at_ us y = y
      · rw [root_fix he, root_fix (by rw [ea, he])]
      · obtain ⟨h1, h2⟩ := h.lt hy he
        rw [root_step h hy he, root_step hu hy' (by rw [ea]; exact he), ea]
        exact ih _ h1 (by omega)
/-- Two roots joined. -/
theorem joined {us : List Int} (h : UF us) {a b : Nat} (hb : b < us.length) (hab : a ≤ b) (ha : at_ us a = a) (hbb : at_ us b = b) : UF (us.set b a) ∧ ∀ y, y < us.length → root (us.set b a) y = if root us y = b then a else root us y := by
  have hu : UF (us.set b a) := by
    intro y hy
    rw [List.length_set] at hy
    rw [at_setN us b y _ hb]
    split
    · omega
    · exact h y hy
  refine ⟨hu, ?_⟩
  intro y
  induction y using Nat.strongRecOn with
  | _ y ih =>
    intro hy
    have hy' : y < (us.set b (a : Int)).length := by rw [List.length_set]; exact hy
    have ea := at_setN us b y a hb
    by_cases hyb : y = b
    · subst hyb
      rw [if_pos rfl] at ea
      rw [root_fix hbb, if_pos rfl]
      by_cases hay : a = y
      · subst hay; exact root_fix ea
      · rw [root_step hu hy' (by rw [ea]; omega), ea, Int.toNat_natCast]
        have ea' := at_setN us y a a hb
        rw [if_neg hay] at ea'
        exact root_fix (ea'.trans ha)
    · rw [if_neg hyb] at ea
      by_cases he : at_ us y = y
      · rw [root_fix he, root_fix (by rw [ea, he]), if_neg hyb]
      · obtain ⟨h1, h2⟩ := h.lt hy he
        rw [root_step h hy he, root_step hu hy' (by rw [ea]; exact he), ea]
        exact ih _ h1 (by omega)

/-! ### roots tell islands -/
/-- The roots of the buses tell their islands by the lines in S. -/
def UC (ls : List (Int × Int × Int)) (n : Nat) (us : List Int) (S : Nat → Prop) : Prop := us.length = n ∧ UF us ∧ ∀ x y : Nat, x < n → y < n → (root us x = root us y ↔ Con ls S x y)
theorem UC.roots {ls : List (Int × Int × Int)} {n : Nat} {us us' : List Int} {S : Nat → Prop} (h : UC ls n us S) (hu : UF us') (hl : us'.length = us.length) (hr : ∀ y, y < us.length → root us' y = root us y) : UC ls n us' S :=
  ⟨hl.trans h.1, hu, fun x y hx hy => by rw [hr x (by rw [h.1]; exact hx), hr y (by rw [h.1]; exact hy)]; exact h.2.2 x y hx hy⟩
theorem UC.same {ls : List (Int × Int × Int)} {n : Nat} {us : List Int} {S T : Nat → Prop} (h : UC ls n us S) (hS : ∀ k, k < ls.length → (S k ↔ T k)) : UC ls n us T :=
  ⟨h.1, h.2.1, fun x y hx hy => (h.2.2 x y hx hy).trans ⟨fun h => h.mono fun k hk => (hS k hk).1, fun h => h.mono fun k hk => (hS k hk).2⟩⟩
/-- Buses 0 .. n - 1, each alone. -/
def singles (n : Nat) : List Int := (List.range n).map fun (j : Nat) => (j : Int)
theorem singles_at (n x : Nat) (h : x < n) : at_ (singles n) x = x := by simp [at_, singles, h]
theorem UC.start (ls : List (Int × Int × Int)) (n : Nat) : UC ls n (singles n) (fun _ => False) := by
  have hl : (singles n).length = n := by simp [singles]
  refine ⟨hl, fun x hx => ?_, fun x y hx hy => ?_⟩
  · rw [singles_at n x (by omega)]; omega
  · rw [root_fix (singles_at n x hx), root_fix (singles_at n y hy)]
    constructor
    · rintro rfl; exact Con.refl _ _
    · intro h
      have := Rea.all (E := EdgeP ls fun _ => False) (t := (x : Int)) (fun u => u = x) rfl (fun u v he _ => by obtain ⟨_, _, hf, _⟩ := he; exact hf.elim) h
      omega
theorem UC.join {ls : List (Int × Int × Int)} {n : Nat} {us us' : List Int} {S : Nat → Prop} (h : UC ls n us S) {k A B : Nat} (hk : k < ls.length) (hA : (at3 ls k).1 = A) (hB : (at3 ls k).2.1 = B) (hAn : A < n) (hBn : B < n)
    (hl : us'.length = us.length) (hu : UF us') (hr : ∀ y, y < us.length → root us' y = if root us y = max (root us A) (root us B) then min (root us A) (root us B) else root us y) : UC ls n us' (fun j => S j ∨ j = k) := by
  obtain ⟨h1, h2, h3⟩ := h
  refine ⟨hl.trans h1, hu, fun x y hx hy => ?_⟩
  rw [hr x (by omega), hr y (by omega)]
  have hline : Con ls (fun j => S j ∨ j = k) A B := by
    have := Con.line (ls := ls) (S := fun j => S j ∨ j = k) hk (.inr rfl)
    rw [hA, hB] at this
    exact this
  have hmono : ∀ {p q : Int}, Con ls S p q → Con ls (fun j => S j ∨ j = k) p q := fun h => h.mono fun j _ hj => .inl hj
  have xA := h3 x A hx hAn
  have xB := h3 x B hx hBn
  have yA := h3 y A hy hAn
  have yB := h3 y B hy hBn
  constructor
  · intro he
    by_cases hxy : root us x = root us y
    · exact hmono ((h3 x y hx hy).1 hxy)
    · have hcase : (root us x = root us A ∧ root us y = root us B) ∨ (root us x = root us B ∧ root us y = root us A) := by
        revert he
        split <;> split <;> omega
      rcases hcase with ⟨p1, p2⟩ | ⟨p1, p2⟩
      · exact ((hmono (xA.1 p1)).trans hline).trans (hmono (yB.1 p2)).sym
      · exact ((hmono (xB.1 p1)).trans hline.sym).trans (hmono (yA.1 p2)).sym
  · intro hc
    rcases Con.plus (S := S) (k := k) (fun j _ hj => hj) hc with p | ⟨p1, p2⟩ | ⟨p1, p2⟩
    · rw [(h3 x y hx hy).2 p]
    · rw [hA] at p1
      rw [hB] at p2
      have q1 := xA.2 p1
      have q2 := yB.2 p2.sym
      rw [q1, q2]
      split <;> split <;> omega
    · rw [hB] at p1
      rw [hA] at p2
      have q1 := xB.2 p1
      have q2 := yA.2 p2.sym
      rw [q1, q2]
      split <;> split <;> omega

end Go.Proofs.YtbebhbcjdiahcaaDoor
