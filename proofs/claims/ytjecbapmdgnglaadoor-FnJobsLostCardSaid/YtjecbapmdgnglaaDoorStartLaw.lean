/-
  Chapter 33, what the laws say of plants, in plain words: the order that StartOrder tells is possible, nothing else can be started behind it, and whatever can be started is in it.
-/
import Derived.Test.YtjecbapmdgnglaaDoorPower
namespace Go.Proofs.YtjecbapmdgnglaaDoor
open Go.RowKit
set_option linter.unusedVariables false

theorem at_app (xs ys : List Int) (k : Nat) (h : k < xs.length) : at_ (xs ++ ys) k = at_ xs k := by simp [at_, List.getElem?_append_left h]
theorem at_len (xs : List Int) (x : Int) : at_ (xs ++ [x]) xs.length = x := by simp [at_]
theorem runF_app (xs : List (Int × Int)) (ord ys : List Int) (k : Nat) (hk : k ≤ ord.length) : runF xs (ord ++ ys) k = runF xs ord k := by
  induction k with
  | zero => rfl
  | succ k ih =>
    have a1 := at_app ord ys k (by omega)
    have a2 : (ord ++ ys).take k = ord.take k := List.take_append_of_le_length (by omega)
    unfold runF
    rw [ih (by omega)]
    simp only [stepOk, a1, a2]
    rfl
theorem runF_take (xs : List (Int × Int)) (ord : List Int) (k : Nat) (hk : k ≤ ord.length) : runF xs (ord.take k) k = runF xs ord k := by
  have h := runF_app xs (ord.take k) (ord.drop k) k (by simp; omega)
  rw [List.take_append_drop] at h
  exact h.symm
theorem so_run {xs : List (Int × Int)} (m : Nat) : runF xs (soSt xs m).1 (soSt xs m).1.length = some (soSt xs m).2.2 ∧ ∀ j : Nat, j < (soSt xs m).2.1 → (j : Int) ∈ (soSt xs m).1 ∨ (soSt xs m).2.2 < (at2 xs j).1 := by
  induction m with
  | zero => exact ⟨rfl, fun j hj => absurd hj (by simp [soSt])⟩
  | succ m ih =>
    rcases hs : soSt xs m with ⟨ord, k, p⟩
    rw [hs] at ih
    obtain ⟨i1, i2⟩ := ih
    simp only at i1 i2
    by_cases hk : k < xs.length
    · cases h1 : hasB ord k
      · by_cases h2 : (at2 xs k).1 ≤ p
        · rw [so_yes hs hk h1 h2]
          refine ⟨?_, fun j hj => absurd hj (by simp)⟩
          have hs2 : stepOk xs (ord ++ [(k : Int)]) ord.length p = true := by
            unfold stepOk
            rw [at_len, List.take_left, inB_mk (by omega) (by omega), h1]
            simp [h2]
          have hr : runF xs (ord ++ [(k : Int)]) ord.length = some p := by rw [runF_app _ _ _ _ (Nat.le_refl _)]; exact i1
          have := runF_succ (m := k) hr (at_len ord k) hs2
          simpa using this
        · rw [so_no hs hk (.inr (by omega))]
          refine ⟨i1, fun j hj => ?_⟩
          simp only at hj ⊢
          by_cases e : j = k
          · subst e; right; omega
          · exact i2 j (by omega)
      · rw [so_no hs hk (.inl h1)]
        refine ⟨i1, fun j hj => ?_⟩
        simp only at hj ⊢
        by_cases e : j = k
        · subst e; left; simpa [hasB] using h1
        · exact i2 j (by omega)
    · have : soSt xs (m + 1) = (ord, k, p) := by simp [soSt, hs, soStep, hk]
      rw [this]
      exact ⟨i1, i2⟩
/-- What is known of the order in the end. -/
theorem so_end {xs : List (Int × Int)} (hv : plantB xs = true) {ord : List Int} (h : SoEnd xs ord) : ∃ p, startB xs ord = some p ∧ (0 ≤ p ∧ p ≤ 7992) ∧ ord.Nodup ∧ (∀ x ∈ ord, 0 ≤ x ∧ x < xs.length) ∧ ∀ j : Nat, j < xs.length → (j : Int) ∈ ord ∨ p < (at2 xs j).1 := by
  obtain ⟨m, p, hm⟩ := h
  have h1 := so_run (xs := xs) m
  have h2 := so_inv hv m
  have h3 := so_facts hv hm
  rw [hm] at h1 h2
  exact ⟨p, by simp only [startB, hv, if_true]; exact h1.1, by omega, h2.1, h2.2.1, h1.2⟩

/-- The sum of a function over a list. -/
def sumF (f : Int → Int) : List Int → Int
  | [] => 0
  | a :: t => f a + sumF f t
theorem sumF_app (f : Int → Int) (a b : List Int) : sumF f (a ++ b) = sumF f a + sumF f b := by
  induction a with
  | nil => simp [sumF]
  | cons x t ih => simp only [List.cons_append, sumF, ih]; omega
theorem sumF_nonneg (f : Int → Int) (l : List Int) (h : ∀ x ∈ l, 0 ≤ f x) : 0 ≤ sumF f l := by
  induction l with
  | nil => simp [sumF]
  | cons x t ih =>
    have := ih fun y hy => h y (List.mem_cons_of_mem _ hy)
    have := h x List.mem_cons_self
    simp only [sumF]; omega
theorem sumF_erase (f : Int → Int) (l : List Int) (x : Int) (h : x ∈ l) : sumF f l = f x + sumF f (l.erase x) := by
  induction l with
  | nil => cases h
  | cons a t ih =>
    by_cases e : a = x
    · subst e; simp [sumF]
    · have hm : x ∈ t := by
        rcases List.mem_cons.1 h with h1 | h1
        · exact absurd h1.symm e
        · exact h1
      have := ih hm
      rw [List.erase_cons_tail (by simpa using e)]
      simp only [sumF]
      omega
theorem sumF_sub (f : Int → Int) (l m : List Int) (hd : l.Nodup) (hs : ∀ x ∈ l, x ∈ m) (h : ∀ x ∈ m, 0 ≤ f x) : sumF f l ≤ sumF f m := by
  induction l generalizing m with
  | nil => simpa [sumF] using sumF_nonneg f m h
  | cons a t ih =>
    obtain ⟨h1, h2⟩ := List.nodup_cons.1 hd
    have hm := hs a List.mem_cons_self
    rw [sumF_erase f m a hm]
    have := ih (m.erase a) h2 (fun x hx => by
      have hxa : x ≠ a := fun e => h1 (e ▸ hx)
      exact (List.mem_erase_of_ne hxa).2 (hs x (List.mem_cons_of_mem _ hx))) (fun x hx => h x (List.mem_of_mem_erase hx))
    simp only [sumF]
    omega

def givs (xs : List (Int × Int)) (i : Int) : Int := (at2 xs i.toNat).2
/-- What holds of the first plants of a possible order. -/
theorem runF_facts {xs : List (Int × Int)} {ord : List Int} (k : Nat) (hk : k ≤ ord.length) (q : Int) (h : runF xs ord k = some q) : q = sumF (givs xs) (ord.take k) ∧ (ord.take k).Nodup ∧ (∀ x ∈ ord.take k, 0 ≤ x ∧ x < xs.length) := by
  induction k generalizing q with
  | zero => simp [runF] at h; simp [sumF, h]
  | succ k ih =>
    simp only [runF, Option.bind_eq_some_iff] at h
    obtain ⟨p, hp, h⟩ := h
    obtain ⟨i1, i2, i3⟩ := ih (by omega) p hp
    have ht : ord.take (k + 1) = ord.take k ++ [at_ ord k] := by rw [List.take_succ_eq_append_getElem (by omega), at_eq ord k (by omega)]
    cases hs : stepOk xs ord k p
    · simp [hs] at h
    · simp only [hs, if_true, Option.some.injEq] at h
      simp only [stepOk, Bool.and_eq_true, Bool.not_eq_true', decide_eq_true_eq] at hs
      have hin := inB_true hs.1.1
      have hnm : at_ ord k ∉ ord.take k := by have := hs.1.2; simpa [hasB] using this
      rw [ht]
      refine ⟨?_, ?_, ?_⟩
      · rw [sumF_app, ← i1, ← h]
        simp [sumF, givs]
      · rw [List.nodup_append]
        exact ⟨i2, by simp, fun a ha b hb => by simp at hb; subst hb; exact fun e => hnm (by rw [← e]; exact ha)⟩
      · intro x hx
        rcases List.mem_append.1 hx with g | g
        · exact i3 x g
        · simp at g; subst g; omega
theorem givs_in {xs : List (Int × Int)} (hv : plantB xs = true) (x : Int) (h : 0 ≤ x ∧ x < xs.length) : 0 ≤ givs xs x ∧ givs xs x ≤ 999 := (plant_at hv x.toNat (by omega)).2
theorem runF_before {xs : List (Int × Int)} {ord : List Int} {k n : Nat} (hk : k ≤ n) {x : Int} (h : runF xs ord n = some x) : ∃ q, runF xs ord k = some q := by
  cases hq : runF xs ord k with
  | some q => exact ⟨q, rfl⟩
  | none =>
    have := runF_none k (n - k) hq
    rw [show k + (n - k) = n by omega, h] at this
    cases this
theorem startB_run {xs : List (Int × Int)} {ord : List Int} {x : Int} (h : startB xs ord = some x) : plantB xs = true ∧ runF xs ord ord.length = some x := by
  unfold startB at h
  split at h
  · next hv => exact ⟨hv, h⟩
  · cases h
theorem start_within {xs : List (Int × Int)} {ord so : List Int} {x : Int} (h : startB xs ord = some x) (hs : SoEnd xs so) : ∀ y ∈ ord, y ∈ so := by
  obtain ⟨hv, hr⟩ := startB_run h
  obtain ⟨p, e1, _, e2, e3, e4⟩ := so_end hv hs
  have hr2 := (startB_run e1).2
  have hp := (runF_facts so.length (Nat.le_refl _) p hr2).1
  rw [List.take_length] at hp
  have key : ∀ k, k ≤ ord.length → ∀ y ∈ ord.take k, y ∈ so := by
    intro k
    induction k with
    | zero => intro _ y hy; simp at hy
    | succ k ih =>
      intro hk y hy
      have hi := ih (by omega)
      have ht : ord.take (k + 1) = ord.take k ++ [at_ ord k] := by rw [List.take_succ_eq_append_getElem (by omega), at_eq ord k (by omega)]
      rw [ht] at hy
      rcases List.mem_append.1 hy with g | g
      · exact hi y g
      · simp at g
        subst g
        obtain ⟨q, hq⟩ := runF_before (k := k) (by omega) hr
        obtain ⟨q2, hq2⟩ := runF_before (k := k + 1) (by omega) hr
        obtain ⟨f1, f2, f3⟩ := runF_facts k (by omega) q hq
        have hle := sumF_sub (givs xs) (ord.take k) so f2 hi (fun z hz => (givs_in hv z (e3 z hz)).1)
        simp only [runF, hq, Option.bind_some] at hq2
        cases hst : stepOk xs ord k q
        · simp [hst] at hq2
        · simp only [stepOk, Bool.and_eq_true, Bool.not_eq_true', decide_eq_true_eq] at hst
          have hin := inB_true hst.1.1
          have hn := hst.2
          obtain ⟨j, hj⟩ := Int.eq_ofNat_of_zero_le hin.1
          rw [hj] at hn ⊢
          simp only [Int.toNat_natCast] at hn
          rcases e4 j (by omega) with g | g
          · exact g
          · omega
  intro y hy
  exact key ord.length (Nat.le_refl _) y (by rwa [List.take_length])
theorem start_take {xs : List (Int × Int)} {ord : List Int} {x : Int} (h : startB xs ord = some x) (k : Nat) (hk : k ≤ ord.length) : ∃ y, startB xs (ord.take k) = some y ∧ 0 ≤ y ∧ y ≤ x := by
  obtain ⟨hv, hr⟩ := startB_run h
  obtain ⟨q, hq⟩ := runF_before (k := k) hk hr
  have hl : (ord.take k).length = k := by simp; omega
  refine ⟨q, ?_, (runF_in hv k q hq).1, ?_⟩
  · simp only [startB, hv, if_true, hl]
    rw [runF_take _ _ _ hk, hq]
  · obtain ⟨f1, f2, f3⟩ := runF_facts k hk q hq
    obtain ⟨g1, g2, g3⟩ := runF_facts ord.length (Nat.le_refl _) x hr
    rw [List.take_length] at g1 g2 g3
    rw [f1, g1]
    exact sumF_sub _ _ _ f2 (fun z hz => List.mem_of_mem_take hz) (fun z hz => (givs_in hv z (g3 z hz)).1)
/-- Without its last plant an order gives less by what this gives. -/
theorem start_last {xs : List (Int × Int)} {ord : List Int} {x : Int} (h : startB xs ord = some x) (n m : Nat) (hn : n + 1 = ord.length) (hm : at_ ord n = m) : startB xs (ord.take n) = some (x - (at2 xs m).2) ∧ m < xs.length ∧ (0 ≤ x ∧ x ≤ 7992) := by
  obtain ⟨hv, hr⟩ := startB_run h
  have hb := runF_in hv _ _ hr
  obtain ⟨f1, f2, f3⟩ := runF_facts ord.length (Nat.le_refl _) x hr
  rw [List.take_length] at f2 f3
  have hl8 := plant_len hv
  have hln := nodup_len xs.length ord f2 f3
  have hmi := f3 _ (mem_at n (by omega))
  obtain ⟨q, hq⟩ := runF_before (k := n) (by omega) hr
  have hl : (ord.take n).length = n := by simp; omega
  refine ⟨?_, by omega, by omega⟩
  simp only [startB, hv, if_true, hl]
  rw [runF_take _ _ _ (by omega), hq]
  rw [← hn] at hr
  simp only [runF, hq, Option.bind_some] at hr
  cases hst : stepOk xs ord n q
  · simp [hst] at hr
  · simp only [hst, if_true, Option.some.injEq] at hr
    rw [hm, Int.toNat_natCast] at hr
    rw [← hr]
    simp
theorem at2_app (xs : List (Int × Int)) (q : Int × Int) (k : Nat) (h : k < xs.length) : at2 (xs ++ [q]) k = at2 xs k := by simp [at2, List.getElem?_append_left h]
theorem runF_more {xs : List (Int × Int)} {q : Int × Int} {ord : List Int} (k : Nat) (p : Int) (h : runF xs ord k = some p) : runF (xs ++ [q]) ord k = some p := by
  induction k generalizing p with
  | zero => simpa [runF] using h
  | succ k ih =>
    simp only [runF, Option.bind_eq_some_iff] at h
    obtain ⟨r, hr, h⟩ := h
    simp only [runF, ih r hr, Option.bind_some]
    cases hs : stepOk xs ord k r
    · simp [hs] at h
    · simp only [hs, if_true, Option.some.injEq] at h
      have hs' := hs
      simp only [stepOk, Bool.and_eq_true, Bool.not_eq_true', decide_eq_true_eq] at hs'
      have hin := inB_true hs'.1.1
      have ha := at2_app xs q (at_ ord k).toNat (by omega)
      have : stepOk (xs ++ [q]) ord k r = true := by
        unfold stepOk
        rw [ha, inB_mk hin.1 (by simp; omega), hs'.1.2]
        simp [hs'.2]
      rw [this, ha]
      simp [h]
theorem plant_snoc {xs : List (Int × Int)} {q : Int × Int} (hv : plantB xs = true) (h8 : ¬ xs.length = 8) (h1 : 0 ≤ q.1 ∧ q.1 ≤ 999) (h2 : 0 ≤ q.2 ∧ q.2 ≤ 999) : plantB (xs ++ [q]) = true := by
  have := plant_len hv
  simp only [plantB, Bool.and_eq_true, decide_eq_true_eq, List.all_eq_true] at hv ⊢
  refine ⟨by simp; omega, fun x hx => ?_⟩
  rcases List.mem_append.1 hx with g | g
  · exact hv.2 x g
  · simp at g; subst g; exact ⟨inB_mk h1.1 h1.2, inB_mk h2.1 h2.2⟩
theorem pow_more {xs : List (Int × Int)} {q : Int × Int} {so so2 : List Int} (hv : plantB xs = true) (h8 : ¬ xs.length = 8) (h1 : 0 ≤ q.1 ∧ q.1 ≤ 999) (h2 : 0 ≤ q.2 ∧ q.2 ≤ 999) (hs : SoB xs so) (hs2 : SoB (xs ++ [q]) so2) : powOf xs so ≤ powOf (xs ++ [q]) so2 ∧ powOf (xs ++ [q]) so2 ≤ 7992 := by
  have hv2 := plant_snoc (q := q) hv h8 h1 h2
  obtain ⟨p, e1, _, _⟩ := so_end hv (hs.1 hv)
  obtain ⟨p2, d1, d0, d2, d3, _⟩ := so_end hv2 (hs2.1 hv2)
  have r1 : startB (xs ++ [q]) so = some p := by
    simp only [startB, hv2, if_true]
    exact runF_more _ _ (startB_run e1).2
  have hw := start_within r1 (hs2.1 hv2)
  obtain ⟨f1, f2, f3⟩ := runF_facts so.length (Nat.le_refl _) p (startB_run r1).2
  obtain ⟨g1, g2, g3⟩ := runF_facts so2.length (Nat.le_refl _) p2 (startB_run d1).2
  rw [List.take_length] at f1 f2 g1
  have := sumF_sub (givs (xs ++ [q])) so so2 f2 hw (fun z hz => (givs_in hv2 z (d3 z hz)).1)
  simp only [powOf, e1, d1, Option.getD_some]
  omega

end Go.Proofs.YtjecbapmdgnglaaDoor
