/-
  Plain: insertion sort as the library does it, and that a list that is sorted by a strict order that is total is the only one of its members. No function of the program.
-/
import Derived.Test.YtbebhbcjdiahcaaDoorAppend
namespace Go.Proofs.YtbebhbcjdiahcaaDoor
open Go.RowKit
set_option linter.unusedVariables false

/-- Two neighbours exchanged. -/
def swapL (l : List Int) (j : Nat) : List Int := (l.set j (at_ l (j - 1))).set (j - 1) (at_ l j)
/-- The inner loop, from place j on. -/
def inn (lt : Int → Int → Bool) : List Int → Nat → List Int
  | l, 0 => l
  | l, j + 1 => if lt (at_ l (j + 1)) (at_ l j) then inn lt (swapL l (j + 1)) j else l
/-- The outer loop, k rounds. -/
def srt (lt : Int → Int → Bool) (l : List Int) : Nat → List Int
  | 0 => l
  | k + 1 => inn lt (srt lt l k) (k + 1)

theorem swapL_len (l : List Int) (j : Nat) : (swapL l j).length = l.length := by simp [swapL]
theorem inn_len (lt : Int → Int → Bool) (l : List Int) (j : Nat) : (inn lt l j).length = l.length := by
  induction j generalizing l with
  | zero => rfl
  | succ j ih =>
    unfold inn
    split
    · rw [ih, swapL_len]
    · rfl
theorem srt_len (lt : Int → Int → Bool) (l : List Int) (k : Nat) : (srt lt l k).length = l.length := by
  induction k with
  | zero => rfl
  | succ k ih => unfold srt; rw [inn_len, ih]
theorem inn_yes {lt : Int → Int → Bool} {l : List Int} {j : Nat} (h : lt (at_ l (j + 1)) (at_ l j) = true) : inn lt l (j + 1) = inn lt (swapL l (j + 1)) j := by
  rw [inn, if_pos h]
theorem inn_no {lt : Int → Int → Bool} {l : List Int} {j : Nat} (h : lt (at_ l (j + 1)) (at_ l j) = false) : inn lt l (j + 1) = l := by
  rw [inn, if_neg (by simp [h])]

/-- Neighbours exchanged, in the form of lists. -/
theorem swapL_append (p : List Int) (y x : Int) (r : List Int) : swapL (p ++ y :: x :: r) (p.length + 1) = p ++ x :: y :: r := by
  have h1 : at_ (p ++ y :: x :: r) (p.length + 1) = x := by simp [at_]
  have h2 : at_ (p ++ y :: x :: r) (p.length + 1 - 1) = y := by simp [at_]
  unfold swapL
  rw [h1, h2]
  simp
/-- What the inner loop does: x goes left past all that it is less than. -/
theorem inn_ins (lt : Int → Int → Bool) (p q : List Int) (x : Int) (r : List Int) (hq : ∀ y ∈ q, lt x y = true) :
    ∃ p1 p2, p = p1 ++ p2 ∧ (∀ y ∈ p2, lt x y = true) ∧ (∀ y, p1.getLast? = some y → lt x y = false) ∧ inn lt (p ++ x :: (q ++ r)) p.length = p1 ++ x :: (p2 ++ q ++ r) := by
  induction hn : p.length generalizing p q with
  | zero =>
    obtain rfl : p = [] := List.eq_nil_of_length_eq_zero hn
    exact ⟨[], [], rfl, by simp, by simp, by simp [inn]⟩
  | succ n ih =>
    obtain ⟨p', y, rfl⟩ : ∃ p' y, p = p' ++ [y] := ⟨p.dropLast, p.getLast (by intro h; simp [h] at hn), (List.dropLast_concat_getLast _).symm⟩
    have hn' : p'.length = n := by simpa using hn
    have e1 : (p' ++ [y]) ++ x :: (q ++ r) = p' ++ y :: x :: (q ++ r) := by simp
    rw [e1]
    subst hn'
    have h1 : at_ (p' ++ y :: x :: (q ++ r)) (p'.length + 1) = x := by simp [at_]
    have h2 : at_ (p' ++ y :: x :: (q ++ r)) p'.length = y := by simp [at_]
    cases hl : lt x y
    · refine ⟨p' ++ [y], [], by simp, by simp, by simp [hl], ?_⟩
      rw [inn_no (by rw [h1, h2]; exact hl)]
      simp
    · obtain ⟨p1, p2, hp, g1, g2, g3⟩ := ih p' (y :: q) (by simpa [hl] using hq) rfl
      refine ⟨p1, p2 ++ [y], by rw [hp]; simp, ?_, g2, ?_⟩
      · intro z hz
        simp at hz
        rcases hz with hz | rfl
        · exact g1 z hz
        · exact hl
      · rw [inn_yes (by rw [h1, h2]; exact hl), swapL_append]
        have e2 : p' ++ x :: y :: (q ++ r) = p' ++ x :: ((y :: q) ++ r) := by simp
        rw [e2, g3]
        simp

/-- Sorted by R: every earlier one is before every later one. -/
theorem sorted_ins {R : Int → Int → Prop} {lt : Int → Int → Bool} (tr : ∀ a b c, R a b → R b c → R a c) (p1 p2 : List Int) (x : Int)
    (hs : (p1 ++ p2).Pairwise R) (h2 : ∀ y ∈ p2, R x y) (h1 : ∀ y, p1.getLast? = some y → R y x) : (p1 ++ x :: p2).Pairwise R := by
  rw [List.pairwise_append] at hs ⊢
  obtain ⟨a1, a2, a3⟩ := hs
  refine ⟨a1, List.pairwise_cons.2 ⟨h2, a2⟩, fun a ha b hb => ?_⟩
  simp at hb
  rcases hb with rfl | hb
  · cases hl : p1.getLast? with
    | none => simp at hl; subst hl; simp at ha
    | some z =>
      have hz := h1 z hl
      obtain ⟨p', rfl⟩ : ∃ p', p1 = p' ++ [z] := by
        obtain ⟨hne, he⟩ := List.getLast?_eq_some_iff.1 hl
        exact ⟨_, he⟩
      simp at ha
      rcases ha with ha | rfl
      · rw [List.pairwise_append] at a1
        exact tr _ _ _ (a1.2.2 a ha z (by simp)) hz
      · exact hz
  · exact a3 a ha b hb

/-- The first k + 1 of an insertion sort are sorted, the rest is as it was, and all is there. -/
theorem srt_sorted {R : Int → Int → Prop} {lt : Int → Int → Bool} (tr : ∀ a b c, R a b → R b c → R a c) (l : List Int)
    (hR : ∀ i j, i < j → j < l.length → (lt (at_ l j) (at_ l i) = true → R (at_ l j) (at_ l i)) ∧ (lt (at_ l j) (at_ l i) = false → R (at_ l i) (at_ l j))) (k : Nat) (hk : k < l.length) :
    ∃ s, s.Perm (l.take (k + 1)) ∧ s.Pairwise R ∧ srt lt l k = s ++ l.drop (k + 1) := by
  induction k with
  | zero =>
    refine ⟨l.take 1, List.Perm.refl _, ?_, ?_⟩
    · cases l with
      | nil => simp
      | cons a t => simp
    · show l = _
      rw [List.take_append_drop]
  | succ k ih =>
    obtain ⟨s, hp, hs, he⟩ := ih (by omega)
    have hl : s.length = k + 1 := by rw [hp.length_eq]; simp; omega
    have hd : l.drop (k + 1) = at_ l (k + 1) :: l.drop (k + 2) := by rw [List.drop_eq_getElem_cons hk, at_eq l (k + 1) hk]
    have hmem : ∀ y ∈ s, ∃ i, i < k + 1 ∧ y = at_ l i := fun y hy => by
      have := hp.mem_iff.1 hy
      obtain ⟨i, hi, rfl⟩ := List.getElem_of_mem this
      simp at hi
      exact ⟨i, by omega, by rw [at_eq l i (by omega)]; simp⟩
    obtain ⟨p1, p2, hpp, g1, g2, g3⟩ := inn_ins lt s [] (at_ l (k + 1)) (l.drop (k + 2)) (by simp)
    refine ⟨p1 ++ at_ l (k + 1) :: p2, ?_, ?_, ?_⟩
    · have e1 : l.take (k + 2) = l.take (k + 1) ++ [at_ l (k + 1)] := by rw [List.take_succ_eq_append_getElem hk, at_eq l (k + 1) hk]
      rw [e1]
      refine List.perm_middle.trans ?_
      rw [← hpp]
      exact (hp.cons _).trans (List.perm_append_singleton _ _).symm
    · refine sorted_ins (lt := lt) tr p1 p2 _ (by rw [← hpp]; exact hs) (fun y hy => ?_) (fun y hy => ?_)
      · obtain ⟨i, hi, rfl⟩ := hmem y (by rw [hpp]; simp [hy])
        exact (hR i (k + 1) (by omega) hk).1 (g1 _ hy)
      · have hy' : y ∈ p1 := List.mem_of_getLast? hy
        obtain ⟨i, hi, rfl⟩ := hmem y (by rw [hpp]; simp [hy'])
        exact (hR i (k + 1) (by omega) hk).2 (g2 _ hy)
    · show inn lt (srt lt l k) (k + 1) = _
      have := g3
      simp only [List.nil_append, List.append_nil] at this
      rw [hl] at this
      rw [he, hd, this]
      simp

/-- Two sorted lists with the same members are one. -/
theorem sorted_unique {R : Int → Int → Prop} (asy : ∀ a b, R a b → R b a → False) : ∀ (l1 l2 : List Int), (∀ x, x ∈ l1 ↔ x ∈ l2) → l1.Pairwise R → l2.Pairwise R → l1 = l2
  | [], l2, hp, _, _ => by
    cases l2 with
    | nil => rfl
    | cons b u => exact absurd ((hp b).2 (by simp)) (by simp)
  | a :: t, l2, hp, h1, h2 => by
    cases l2 with
    | nil => exact absurd ((hp a).1 (by simp)) (by simp)
    | cons b u =>
      have h1' := List.pairwise_cons.1 h1
      have h2' := List.pairwise_cons.1 h2
      have hab : a = b := by
        by_cases e : a = b
        · exact e
        · exfalso
          have ha : a ∈ u := by
            have := (hp a).1 (by simp)
            simp at this
            exact this.resolve_left e
          have hb : b ∈ t := by
            have := (hp b).2 (by simp)
            simp at this
            exact this.resolve_left (Ne.symm e)
          exact asy a b (h1'.1 b hb) (h2'.1 a ha)
      subst hab
      have hat : a ∉ t := fun h => asy a a (h1'.1 a h) (h1'.1 a h)
      have hau : a ∉ u := fun h => asy a a (h2'.1 a h) (h2'.1 a h)
      rw [sorted_unique asy t u (fun x => ?_) h1'.2 h2'.2]
      have := hp x
      simp at this
      constructor
      · intro hx
        rcases this.1 (.inr hx) with rfl | h
        · exact absurd hx hat
        · exact h
      · intro hx
        rcases this.2 (.inr hx) with rfl | h
        · exact absurd hx hau
        · exact h

/-- The places 0, 1, .. -/
def idxs (n : Nat) : List Int := (List.range n).map fun (j : Nat) => (j : Int)
theorem idxs_len (n : Nat) : (idxs n).length = n := by simp [idxs]
theorem idxs_at (n j : Nat) (h : j < n) : at_ (idxs n) j = j := by simp [at_, idxs, h]
theorem idxs_mem (n : Nat) (x : Int) : x ∈ idxs n ↔ 0 ≤ x ∧ x < n := by
  simp [idxs]
  constructor
  · rintro ⟨a, h, rfl⟩; omega
  · rintro ⟨h1, h2⟩; exact ⟨x.toNat, by omega, by omega⟩

theorem idxs_nodup (n : Nat) : (idxs n).Nodup := by
  induction n with
  | zero => simp [idxs]
  | succ n ih =>
    have : idxs (n + 1) = idxs n ++ [(n : Int)] := by simp [idxs, List.range_succ]
    rw [this, List.nodup_append]
    refine ⟨ih, by simp, fun a ha b hb => ?_⟩
    simp at hb
    subst hb
    have := (idxs_mem n a).1 ha
    omega
theorem sub_len : ∀ (l m : List Int), l.Nodup → (∀ x ∈ l, x ∈ m) → l.length ≤ m.length
  | [], m, _, _ => by simp
  | a :: t, m, hd, h => by
    have ha : a ∈ m := h a (by simp)
    have hd' := List.nodup_cons.1 hd
    have := sub_len t (m.erase a) hd'.2 (fun x hx => (List.mem_erase_of_ne (fun e => hd'.1 (by rw [← e]; exact hx))).2 (h x (by simp [hx])))
    rw [List.length_erase_of_mem ha] at this
    have : 0 < m.length := List.length_pos_of_mem ha
    simp
    omega

theorem nodup_len (n : Nat) (l : List Int) (hd : l.Nodup) (h : ∀ x ∈ l, 0 ≤ x ∧ x < n) : l.length ≤ n := by
  induction n generalizing l with
  | zero =>
    cases l with
    | nil => simp
    | cons a t => have := h a (by simp); omega
  | succ n ih =>
    by_cases hm : (n : Int) ∈ l
    · have h1 := ih (l.erase n) (hd.erase _) (fun x hx => by
        have h2 := (hd.mem_erase_iff).1 hx
        have h3 := h x h2.2
        have h4 : x ≠ n := h2.1
        omega)
      rw [List.length_erase_of_mem hm] at h1
      omega
    · have h1 := ih l hd (fun x hx => by
        have h3 := h x hx
        have h4 : x ≠ n := fun e => hm (by rw [← e]; exact hx)
        omega)
      omega
theorem nodup_full (n : Nat) (l : List Int) (hd : l.Nodup) (h : ∀ x ∈ l, 0 ≤ x ∧ x < n) (hl : l.length = n) (x : Int) (hx : 0 ≤ x ∧ x < n) : x ∈ l := by
  by_cases hm : x ∈ l
  · exact hm
  · exfalso
    have := nodup_len n (x :: l) (List.nodup_cons.2 ⟨hm, hd⟩) (fun y hy => by
      simp at hy
      rcases hy with rfl | hy
      · exact hx
      · exact h y hy)
    simp at this
    omega

/-! ### selection: each time the first one before which no other one comes -/
/-- The best one of the first j that are not in a list. -/
def bestF (lt : Int → Int → Bool) (out : List Int) : Nat → Int
  | 0 => -1
  | j + 1 => if !hasB out j && (decide (bestF lt out j < 0) || lt j (bestF lt out j)) then j else bestF lt out j
def selF (lt : Int → Int → Bool) (n : Nat) : Nat → List Int
  | 0 => []
  | k + 1 => selF lt n k ++ [bestF lt (selF lt n k) n]
/-- Before: by lt, or by place. -/
def Rel (lt : Int → Int → Bool) (n : Nat) (a b : Int) : Prop := (0 ≤ a ∧ a < n) ∧ (0 ≤ b ∧ b < n) ∧ (lt a b = true ∨ (lt b a = false ∧ a < b))

theorem best_inv {lt : Int → Int → Bool} {n : Nat} (tr : ∀ a b c, Rel lt n a b → Rel lt n b c → Rel lt n a c) (out : List Int) (j : Nat) (hj : j ≤ n) :
    (bestF lt out j = -1 ∧ ∀ i : Nat, i < j → (i : Int) ∈ out) ∨ (0 ≤ bestF lt out j ∧ bestF lt out j < j ∧ bestF lt out j ∉ out ∧ ∀ i : Nat, i < j → (i : Int) ∉ out → (i : Int) ≠ bestF lt out j → Rel lt n (bestF lt out j) i) := by
  induction j with
  | zero => exact .inl ⟨rfl, fun i hi => absurd hi (by omega)⟩
  | succ j ih =>
    have ih := ih (by omega)
    have hu : bestF lt out (j + 1) = if !hasB out j && (decide (bestF lt out j < 0) || lt j (bestF lt out j)) then (j : Int) else bestF lt out j := rfl
    cases hh : hasB out j
    · have hnm : (j : Int) ∉ out := by simpa [hasB] using hh
      rcases ih with ⟨h1, h2⟩ | ⟨h1, h2, h3, h4⟩
      · right
        rw [hu, hh, h1]
        simp only [Bool.not_false, Bool.true_and]
        refine ⟨by simp, by simp; omega, by simpa using hnm, fun i hi hni hne => ?_⟩
        simp at hne
        exact absurd (h2 i (by omega)) hni
      · right
        have hneg : decide (bestF lt out j < 0) = false := by simp; omega
        cases hl : lt j (bestF lt out j)
        · have e : bestF lt out (j + 1) = bestF lt out j := by rw [hu, hh, hneg, hl]; simp
          rw [e]
          refine ⟨h1, by omega, h3, fun i hi hni hne => ?_⟩
          by_cases hij : i = j
          · subst hij
            exact ⟨⟨h1, by omega⟩, ⟨by omega, by omega⟩, .inr ⟨hl, by omega⟩⟩
          · exact h4 i (by omega) hni hne
        · have e : bestF lt out (j + 1) = j := by rw [hu, hh, hneg, hl]; simp
          rw [e]
          have hjb : Rel lt n j (bestF lt out j) := ⟨⟨by omega, by omega⟩, ⟨h1, by omega⟩, .inl hl⟩
          refine ⟨by omega, by omega, hnm, fun i hi hni hne => ?_⟩
          by_cases hib : (i : Int) = bestF lt out j
          · rw [hib]; exact hjb
          · exact tr _ _ _ hjb (h4 i (by omega) hni hib)
    · have hm : (j : Int) ∈ out := by simpa [hasB] using hh
      have e : bestF lt out (j + 1) = bestF lt out j := by rw [hu, hh]; simp
      rw [e]
      rcases ih with ⟨h1, h2⟩ | ⟨h1, h2, h3, h4⟩
      · left
        refine ⟨h1, fun i hi => ?_⟩
        by_cases hij : i = j
        · subst hij; exact hm
        · exact h2 i (by omega)
      · right
        refine ⟨h1, by omega, h3, fun i hi hni hne => ?_⟩
        by_cases hij : i = j
        · subst hij; exact absurd hm hni
        · exact h4 i (by omega) hni hne

theorem sel_inv {lt : Int → Int → Bool} {n : Nat} (tr : ∀ a b c, Rel lt n a b → Rel lt n b c → Rel lt n a c) (k : Nat) (hk : k ≤ n) :
    (selF lt n k).length = k ∧ (selF lt n k).Nodup ∧ (∀ x ∈ selF lt n k, 0 ≤ x ∧ x < n) ∧ (selF lt n k).Pairwise (Rel lt n) ∧ ∀ x ∈ selF lt n k, ∀ y : Int, 0 ≤ y ∧ y < n → y ∉ selF lt n k → Rel lt n x y := by
  induction k with
  | zero => simp [selF]
  | succ k ih =>
    obtain ⟨i1, i2, i3, i4, i5⟩ := ih (by omega)
    have hb := best_inv tr (selF lt n k) n (Nat.le_refl _)
    rcases hb with ⟨h1, h2⟩ | ⟨h1, h2, h3, h4⟩
    · exfalso
      have := sub_len (idxs n) (selF lt n k) (idxs_nodup n) (fun x hx => by
        obtain ⟨a, b⟩ := (idxs_mem n x).1 hx
        have := h2 x.toNat (by omega)
        rwa [show ((x.toNat : Nat) : Int) = x from by omega] at this)
      rw [idxs_len, i1] at this
      omega
    · have hu : selF lt n (k + 1) = selF lt n k ++ [bestF lt (selF lt n k) n] := rfl
      rw [hu]
      refine ⟨by simp [i1], ?_, ?_, ?_, ?_⟩
      · rw [List.nodup_append]
        exact ⟨i2, by simp, fun a ha b hb => by simp at hb; subst hb; exact fun e => h3 (by rw [← e]; exact ha)⟩
      · intro x hx
        simp at hx
        rcases hx with hx | rfl
        · exact i3 x hx
        · omega
      · rw [List.pairwise_append]
        exact ⟨i4, by simp, fun a ha b hb => by simp at hb; subst hb; exact i5 a ha _ ⟨h1, by omega⟩ h3⟩
      · intro x hx y hy hny
        simp at hx hny
        rcases hx with hx | rfl
        · exact i5 x hx y hy hny.1
        · have := h4 y.toNat (by omega) (by rw [show ((y.toNat : Nat) : Int) = y from by omega]; exact hny.1) (by rw [show ((y.toNat : Nat) : Int) = y from by omega]; exact hny.2)
          rw [show ((y.toNat : Nat) : Int) = y from by omega] at this
          exact this

/-- Insertion sort and selection come to the same list. -/
theorem srt_eq_sel {lt : Int → Int → Bool} {n : Nat} (tr : ∀ a b c, Rel lt n a b → Rel lt n b c → Rel lt n a c) (asy : ∀ a b, Rel lt n a b → Rel lt n b a → False) : srt lt (idxs n) (n - 1) = selF lt n n := by
  obtain ⟨j1, j2, j3, j4, _⟩ := sel_inv tr n (Nat.le_refl _)
  cases n with
  | zero => simp [srt, idxs, selF]
  | succ n =>
    obtain ⟨s, hp, hs, he⟩ := srt_sorted (R := Rel lt (n + 1)) (lt := lt) tr (idxs (n + 1)) (fun i j hij hj => by
      rw [idxs_len] at hj
      rw [idxs_at _ i (by omega), idxs_at _ j hj]
      exact ⟨fun h => ⟨⟨by omega, by omega⟩, ⟨by omega, by omega⟩, .inl h⟩, fun h => ⟨⟨by omega, by omega⟩, ⟨by omega, by omega⟩, .inr ⟨h, by omega⟩⟩⟩) n (by rw [idxs_len]; omega)
    have hd : (idxs (n + 1)).drop (n + 1) = [] := by rw [List.drop_eq_nil_iff, idxs_len]; exact Nat.le_refl _
    have ht : (idxs (n + 1)).take (n + 1) = idxs (n + 1) := List.take_of_length_le (by rw [idxs_len]; exact Nat.le_refl _)
    rw [hd, List.append_nil] at he
    rw [ht] at hp
    show srt lt (idxs (n + 1)) n = _
    rw [he]
    refine sorted_unique asy _ _ (fun x => ?_) hs j4
    rw [hp.mem_iff, idxs_mem]
    exact ⟨fun hx => nodup_full (n + 1) _ j2 j3 j1 x hx, fun hx => j3 x hx⟩

end Go.Proofs.YtbebhbcjdiahcaaDoor
