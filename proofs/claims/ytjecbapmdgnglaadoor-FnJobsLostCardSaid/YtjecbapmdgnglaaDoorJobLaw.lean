/-
  Chapter 35, what the laws say of jobs, in plain words: the best order has each job once, no order loses less, and exchanging two neighbours changes what is lost by a product.
-/
import Derived.Test.YtjecbapmdgnglaaDoorBestJobsSpec
import Derived.Test.YtjecbapmdgnglaaDoorStartLaw
namespace Go.Proofs.YtjecbapmdgnglaaDoor
open Go.RowKit
set_option linter.unusedVariables false

/-- What is lost by a list of jobs (time, load) that begins at a time. -/
def lostT (t : Int) : List (Int × Int) → Int
  | [] => 0
  | p :: r => p.2 * (t + p.1) + lostT (t + p.1) r
def timeT : List (Int × Int) → Int
  | [] => 0
  | p :: r => p.1 + timeT r
theorem lostT_app (t : Int) (a b : List (Int × Int)) : lostT t (a ++ b) = lostT t a + lostT (t + timeT a) b := by
  induction a generalizing t with
  | nil => simp [lostT, timeT]
  | cons p r ih => simp only [List.cons_append, lostT, timeT, ih]; rw [show t + p.1 + timeT r = t + (p.1 + timeT r) by omega]; omega
theorem timeT_app (a b : List (Int × Int)) : timeT (a ++ b) = timeT a + timeT b := by
  induction a with
  | nil => simp [timeT]
  | cons p r ih => simp only [List.cons_append, timeT, ih]; omega
/-- The jobs of an order. -/
def jobsOf (xs : List (Int × Int)) (ord : List Int) : List (Int × Int) := ord.map fun i => at2 xs i.toNat
theorem jobsOf_app (xs : List (Int × Int)) (a b : List Int) : jobsOf xs (a ++ b) = jobsOf xs a ++ jobsOf xs b := by simp [jobsOf]
theorem lostF_T (xs : List (Int × Int)) (ord : List Int) (k : Nat) (hk : k ≤ ord.length) : timeF xs ord k = timeT (jobsOf xs (ord.take k)) ∧ lostF xs ord k = lostT 0 (jobsOf xs (ord.take k)) := by
  induction k with
  | zero => exact ⟨rfl, rfl⟩
  | succ k ih =>
    obtain ⟨i1, i2⟩ := ih (by omega)
    have ht : ord.take (k + 1) = ord.take k ++ [at_ ord k] := by rw [List.take_succ_eq_append_getElem (by omega), at_eq ord k (by omega)]
    have e1 : timeF xs ord (k + 1) = timeF xs ord k + (at2 xs (at_ ord k).toNat).1 := rfl
    have e2 : lostF xs ord (k + 1) = lostF xs ord k + (at2 xs (at_ ord k).toNat).2 * timeF xs ord (k + 1) := rfl
    rw [ht, jobsOf_app, timeT_app, lostT_app, e2, e1, i1, i2]
    simp [jobsOf, timeT, lostT]
theorem lostF_all (xs : List (Int × Int)) (ord : List Int) : lostF xs ord ord.length = lostT 0 (jobsOf xs ord) := by
  have := (lostF_T xs ord ord.length (Nat.le_refl _)).2
  rwa [List.take_length] at this

/-- An order that has each index once. -/
def Perm (n : Nat) (ord : List Int) : Prop := ord.length = n ∧ ord.Nodup ∧ ∀ x ∈ ord, 0 ≤ x ∧ x < n
theorem nodup_of_at {ord : List Int} (h : ∀ j, j < ord.length → hasB (ord.take j) (at_ ord j) = false) : ord.Nodup := by
  have key : ∀ k, k ≤ ord.length → (ord.take k).Nodup := by
    intro k
    induction k with
    | zero => simp
    | succ k ih =>
      intro hk
      have ht : ord.take (k + 1) = ord.take k ++ [at_ ord k] := by rw [List.take_succ_eq_append_getElem (by omega), at_eq ord k (by omega)]
      rw [ht, List.nodup_append]
      have hnm : at_ ord k ∉ ord.take k := by simpa [hasB] using h k (by omega)
      exact ⟨ih (by omega), by simp, fun a ha b hb => by simp at hb; subst hb; exact fun e => hnm (by rw [← e]; exact ha)⟩
  have := key ord.length (Nat.le_refl _)
  rwa [List.take_length] at this
theorem nodup_at {ord : List Int} (h : ord.Nodup) (j : Nat) (hj : j < ord.length) : hasB (ord.take j) (at_ ord j) = false := by
  have ht : ord = ord.take j ++ at_ ord j :: ord.drop (j + 1) := by
    rw [at_eq ord j hj]
    conv => lhs; rw [← List.take_append_drop j ord]
    rw [List.drop_eq_getElem_cons hj]
  rw [ht, List.nodup_append] at h
  apply decide_eq_false
  intro hm
  exact h.2.2 _ hm _ List.mem_cons_self rfl
theorem lostOk_perm {xs : List (Int × Int)} {ord : List Int} (h : lostOk xs ord = true) : jobB xs = true ∧ Perm xs.length ord := by
  simp only [lostOk, Bool.and_eq_true, decide_eq_true_eq] at h
  obtain ⟨⟨h1, h2⟩, h3⟩ := h
  refine ⟨h1, h2, nodup_of_at fun j hj => ?_, fun x hx => ?_⟩
  · have := h3 j hj
    simp only [jobAt, Bool.and_eq_true, Bool.not_eq_true'] at this
    exact this.2
  · obtain ⟨j, hj, rfl⟩ := List.getElem_of_mem hx
    have := jobAt_in (h3 j hj)
    rwa [at_eq ord j hj] at this
theorem perm_lostOk {xs : List (Int × Int)} {ord : List Int} (h1 : jobB xs = true) (h : Perm xs.length ord) : lostOk xs ord = true := by
  refine lostOk_yes h1 h.1 fun j hj => ?_
  have hin := h.2.2 _ (mem_at j hj)
  unfold jobAt
  rw [nodup_at h.2.1 j hj, inB_mk hin.1 (by omega)]
  rfl
theorem lostB_perm {xs : List (Int × Int)} {ord : List Int} (h1 : jobB xs = true) (h : Perm xs.length ord) : lostB xs ord = lostT 0 (jobsOf xs ord) := by
  unfold lostB
  rw [perm_lostOk h1 h, if_pos rfl, lostF_all]
theorem lostB_in {xs : List (Int × Int)} {ord : List Int} (h : lostOk xs ord = true) : 0 ≤ lostB xs ord ∧ lostB xs ord ≤ 63872064 := by
  have h0 := lostOk_perm h
  have hl := job_len h0.1
  have h2 := h
  simp only [lostOk, Bool.and_eq_true, decide_eq_true_eq] at h2
  have := lostF_in (ord := ord) h0.1 ord.length (by have := h0.2.1; omega) h2.2
  unfold lostB
  rw [if_pos h]
  have := h0.2.1
  omega
theorem lostB_or (xs : List (Int × Int)) (ord : List Int) : lostB xs ord = -1 ∨ lostOk xs ord = true := by
  unfold lostB
  cases lostOk xs ord
  · left; simp
  · right; rfl
theorem best_perm {xs : List (Int × Int)} (h : jobB xs = true) : Perm xs.length (bestJobs xs) ∧ (bestJobs xs).Pairwise (Rel (jobLt xs) xs.length) := by
  obtain ⟨h1, h2, h3, h4, _⟩ := sel_inv (job_tr h) xs.length (Nat.le_refl _)
  unfold bestJobs
  rw [if_pos h]
  exact ⟨⟨h1, h2, h3⟩, h4⟩

theorem pair_mono {R S : Int → Int → Prop} (h : ∀ a b, R a b → S a b) {l : List Int} (hl : l.Pairwise R) : l.Pairwise S := by
  induction l with
  | nil => exact List.Pairwise.nil
  | cons a t ih =>
    obtain ⟨h1, h2⟩ := List.pairwise_cons.1 hl
    exact List.pairwise_cons.2 ⟨fun b hb => h a b (h1 b hb), ih h2⟩

/-! ### no order loses less -/
def le2 (a b : Int × Int) : Prop := a.1 * b.2 ≤ b.1 * a.2
/-- Moving a job to the front past jobs that are not done before it does not lose more. -/
theorem lost_front (t : Int) (x : Int × Int) (a b : List (Int × Int)) (h : ∀ y ∈ a, le2 x y) : lostT t (x :: a ++ b) ≤ lostT t (a ++ x :: b) := by
  induction a generalizing t with
  | nil => simp
  | cons y r ih =>
    have hy := h y List.mem_cons_self
    have hr := ih (t + y.1) fun z hz => h z (List.mem_cons_of_mem _ hz)
    unfold le2 at hy
    simp only [List.cons_append, lostT] at hr ⊢
    have e : t + x.1 + y.1 = t + y.1 + x.1 := by omega
    rw [e]
    have e2 : x.2 * (t + y.1 + x.1) = x.2 * (t + x.1) + y.1 * x.2 := by rw [show t + y.1 + x.1 = (t + x.1) + y.1 by omega, Int.mul_add, Int.mul_comm x.2 y.1]
    have e3 : y.2 * (t + y.1 + x.1) = y.2 * (t + y.1) + x.1 * y.2 := by rw [Int.mul_add y.2 (t + y.1) x.1, Int.mul_comm y.2 x.1]
    rw [e2] at hr
    rw [e3]
    omega
/-- Of a sorted list and any list with the same elements, the sorted one loses no more. -/
theorem lost_sorted (xs : List (Int × Int)) (t : Int) (s o : List Int) (hd : s.Nodup) (hdo : o.Nodup) (hm : ∀ x, x ∈ s ↔ x ∈ o) (hs : s.Pairwise fun a b => le2 (at2 xs a.toNat) (at2 xs b.toNat)) : lostT t (jobsOf xs s) ≤ lostT t (jobsOf xs o) := by
  induction s generalizing t o with
  | nil =>
    have : o = [] := by
      cases o with
      | nil => rfl
      | cons a r => exact absurd ((hm a).2 List.mem_cons_self) (by simp)
    subst this
    exact Int.le_refl _
  | cons x r ih =>
    obtain ⟨p1, p2⟩ := List.pairwise_cons.1 hs
    obtain ⟨d1, d2⟩ := List.nodup_cons.1 hd
    have hx : x ∈ o := (hm x).1 List.mem_cons_self
    obtain ⟨a, b, rfl⟩ := List.append_of_mem hx
    have hdo' := hdo
    rw [List.nodup_append] at hdo'
    obtain ⟨n1, n2, n3⟩ := hdo'
    obtain ⟨n4, n5⟩ := List.nodup_cons.1 n2
    have hxa : x ∉ a := fun h => n3 x h x List.mem_cons_self rfl
    have hmem : ∀ y, y ∈ r ↔ y ∈ a ++ b := by
      intro y
      constructor
      · intro hy
        have hne : y ≠ x := fun e => d1 (e ▸ hy)
        have := (hm y).1 (List.mem_cons_of_mem _ hy)
        rcases List.mem_append.1 this with g | g
        · exact List.mem_append.2 (.inl g)
        · rcases List.mem_cons.1 g with g | g
          · exact absurd g hne
          · exact List.mem_append.2 (.inr g)
      · intro hy
        have hne : y ≠ x := by
          rintro rfl
          rcases List.mem_append.1 hy with g | g
          · exact hxa g
          · exact n4 g
        have : y ∈ x :: r := (hm y).2 (by
          rcases List.mem_append.1 hy with g | g
          · exact List.mem_append.2 (.inl g)
          · exact List.mem_append.2 (.inr (List.mem_cons_of_mem _ g)))
        rcases List.mem_cons.1 this with g | g
        · exact absurd g hne
        · exact g
    have hnd : (a ++ b).Nodup := by
      rw [List.nodup_append]
      exact ⟨n1, n5, fun u hu v hv => n3 u hu v (List.mem_cons_of_mem _ hv)⟩
    have hi := ih (t + (at2 xs x.toNat).1) (a ++ b) d2 hnd hmem p2
    have hf := lost_front t (at2 xs x.toNat) (jobsOf xs a) (jobsOf xs b) (fun y hy => by
      simp only [jobsOf, List.mem_map] at hy
      obtain ⟨i, hi, rfl⟩ := hy
      exact p1 i ((hmem i).2 (List.mem_append.2 (.inl hi))))
    have e1 : jobsOf xs (a ++ x :: b) = jobsOf xs a ++ at2 xs x.toNat :: jobsOf xs b := by simp [jobsOf]
    have e2 : jobsOf xs (x :: r) = at2 xs x.toNat :: jobsOf xs r := rfl
    have e3 : lostT t (at2 xs x.toNat :: jobsOf xs a ++ jobsOf xs b) = (at2 xs x.toNat).2 * (t + (at2 xs x.toNat).1) + lostT (t + (at2 xs x.toNat).1) (jobsOf xs (a ++ b)) := by
      rw [jobsOf_app]; rfl
    rw [e1, e2]
    rw [e3] at hf
    simp only [lostT]
    omega
theorem best_least {xs : List (Int × Int)} (h : jobB xs = true) {ord : List Int} (ho : Perm xs.length ord) : leastB xs ≤ lostB xs ord ∧ 0 ≤ leastB xs := by
  obtain ⟨hp, hs⟩ := best_perm h
  have e : leastB xs = lostB xs (bestJobs xs) := by unfold leastB; rw [if_pos h]
  have hn := (lostB_in (perm_lostOk h hp)).1
  rw [e]
  refine ⟨?_, hn⟩
  rw [lostB_perm h hp, lostB_perm h ho]
  refine lost_sorted xs 0 (bestJobs xs) ord hp.2.1 ho.2.1 (fun x => ⟨fun hx => nodup_full xs.length ord ho.2.1 ho.2.2 ho.1 x (hp.2.2 x hx), fun hx => nodup_full xs.length _ hp.2.1 hp.2.2 hp.1 x (ho.2.2 x hx)⟩) (pair_mono (fun a b hr => (job_rel hr).1) hs)
/-- Two neighbours exchanged. -/
theorem lost_swap (t : Int) (a : List (Int × Int)) (x y : Int × Int) (b : List (Int × Int)) : lostT t (a ++ y :: x :: b) = lostT t (a ++ x :: y :: b) + y.1 * x.2 - x.1 * y.2 := by
  rw [lostT_app, lostT_app]
  simp only [lostT]
  generalize t + timeT a = s
  have e2 : x.2 * (s + y.1 + x.1) = x.2 * (s + x.1) + y.1 * x.2 := by rw [show s + y.1 + x.1 = (s + x.1) + y.1 by omega, Int.mul_add, Int.mul_comm x.2 y.1]
  have e3 : y.2 * (s + x.1 + y.1) = y.2 * (s + y.1) + x.1 * y.2 := by rw [show s + x.1 + y.1 = (s + y.1) + x.1 by omega, Int.mul_add y.2 (s + y.1) x.1, Int.mul_comm y.2 x.1]
  rw [e2, e3, show s + x.1 + y.1 = s + y.1 + x.1 by omega]
  omega
theorem split_two (l : List Int) (j : Nat) (h : j + 1 < l.length) : l = l.take j ++ at_ l j :: at_ l (j + 1) :: l.drop (j + 2) := by
  rw [at_eq l j (by omega), at_eq l (j + 1) h]
  conv => lhs; rw [← List.take_append_drop j l]
  rw [List.drop_eq_getElem_cons (show j < l.length by omega), List.drop_eq_getElem_cons h]
/-- The order with the jobs at j and j + 1 exchanged. -/
def exch (l : List Int) (j : Nat) : List Int := (l.set j (at_ l (j + 1))).set (j + 1) (at_ l j)
theorem exch_split (l : List Int) (j : Nat) (h : j + 1 < l.length) : exch l j = l.take j ++ at_ l (j + 1) :: at_ l j :: l.drop (j + 2) := by
  have hs := split_two l j h
  have e : exch l j = swapL l (j + 1) := by
    unfold exch swapL
    rw [List.set_comm _ _ (by omega)]
    simp
  rw [e]
  have hl : (l.take j).length = j := by simp; omega
  have := swapL_append (l.take j) (at_ l j) (at_ l (j + 1)) (l.drop (j + 2))
  rw [hl, ← hs] at this
  exact this
theorem exch_perm {n : Nat} {l : List Int} (h : Perm n l) (j : Nat) (hj : j + 1 < l.length) : Perm n (exch l j) := by
  have hs := split_two l j hj
  rw [exch_split l j hj]
  obtain ⟨h1, h2, h3⟩ := h
  refine ⟨?_, ?_, fun x hx => ?_⟩
  · simp; omega
  · rw [hs] at h2
    generalize l.take j = a at *
    generalize l.drop (j + 2) = b at *
    generalize at_ l j = x at *
    generalize at_ l (j + 1) = y at *
    simp only [List.nodup_append, List.nodup_cons, List.mem_cons] at h2 ⊢
    obtain ⟨a1, ⟨a2, a3, a4⟩, a5⟩ := h2
    have hxy : x ≠ y := fun e => a2 (.inl e)
    have hxb : x ∉ b := fun e => a2 (.inr e)
    refine ⟨a1, ⟨fun e => ?_, hxb, a4⟩, fun u hu v hv => ?_⟩
    · rcases e with e | e
      · exact hxy e.symm
      · exact a3 e
    · rcases hv with e | e | e
      · exact a5 u hu v (.inr (.inl e))
      · exact a5 u hu v (.inl e)
      · exact a5 u hu v (.inr (.inr e))
  · refine h3 x ?_
    rw [hs]
    rcases List.mem_append.1 hx with g | g
    · exact List.mem_append.2 (.inl g)
    · simp only [List.mem_cons] at g
      refine List.mem_append.2 (.inr ?_)
      simp only [List.mem_cons]
      rcases g with g | g | g
      · exact .inr (.inl g)
      · exact .inl g
      · exact .inr (.inr g)
theorem lost_exch {xs : List (Int × Int)} {ord : List Int} (h : lostOk xs ord = true) (j m n : Nat) (hj : j + 1 < ord.length) (hm : at_ ord j = m) (hn : at_ ord (j + 1) = n) :
    lostB xs (exch ord j) = lostB xs ord + (at2 xs n).1 * (at2 xs m).2 - (at2 xs m).1 * (at2 xs n).2 ∧ lostOk xs (exch ord j) = true := by
  obtain ⟨h1, h2⟩ := lostOk_perm h
  have hp := exch_perm h2 j hj
  refine ⟨?_, perm_lostOk h1 hp⟩
  rw [lostB_perm h1 hp, lostB_perm h1 h2, exch_split ord j hj, hm, hn]
  have hs : ord = ord.take j ++ (m : Int) :: (n : Int) :: ord.drop (j + 2) := by rw [← hm, ← hn]; exact split_two ord j hj
  have e2 : jobsOf xs (ord.take j ++ (n : Int) :: (m : Int) :: ord.drop (j + 2)) = jobsOf xs (ord.take j) ++ at2 xs n :: at2 xs m :: jobsOf xs (ord.drop (j + 2)) := by simp [jobsOf]
  have e1 : jobsOf xs ord = jobsOf xs (ord.take j) ++ at2 xs m :: at2 xs n :: jobsOf xs (ord.drop (j + 2)) := by
    conv => lhs; rw [hs]
    simp [jobsOf]
  rw [e1, e2]
  exact lost_swap 0 _ _ _ _
/-- Neighbours in the best order. -/
theorem best_next {xs : List (Int × Int)} (h : jobB xs = true) (j m n : Nat) (hj : j + 1 < (bestJobs xs).length) (hm : at_ (bestJobs xs) j = m) (hn : at_ (bestJobs xs) (j + 1) = n) :
    (at2 xs m).1 * (at2 xs n).2 ≤ (at2 xs n).1 * (at2 xs m).2 := by
  obtain ⟨hp, hs⟩ := best_perm h
  have hsp := split_two (bestJobs xs) j hj
  rw [hsp, hm, hn, List.pairwise_append] at hs
  have := (List.pairwise_cons.1 hs.2.1).1 n List.mem_cons_self
  have := (job_rel this).1
  simpa using this

/-! ### fewer jobs, and jobs without load -/
theorem lostT_mono (s t : Int) (h : s ≤ t) (l : List (Int × Int)) (hl : ∀ p ∈ l, 0 ≤ p.2) : lostT s l ≤ lostT t l := by
  induction l generalizing s t with
  | nil => simp [lostT]
  | cons p r ih =>
    have h1 := ih (s + p.1) (t + p.1) (by omega) fun q hq => hl q (List.mem_cons_of_mem _ hq)
    have h2 := Int.mul_le_mul_of_nonneg_left (show s + p.1 ≤ t + p.1 by omega) (hl p List.mem_cons_self)
    simp only [lostT]
    omega
theorem lostT_less (t : Int) (a : List (Int × Int)) (x : Int × Int) (b : List (Int × Int)) (hx : 0 ≤ x.1 ∧ 0 ≤ x.2) (hb : ∀ p ∈ b, 0 ≤ p.2) (ht : 0 ≤ t + timeT a) : lostT t (a ++ b) ≤ lostT t (a ++ x :: b) := by
  rw [lostT_app, lostT_app]
  simp only [lostT]
  have h1 := lostT_mono (t + timeT a) (t + timeT a + x.1) (by omega) b hb
  have h2 := Int.mul_nonneg hx.2 (show 0 ≤ t + timeT a + x.1 by omega)
  omega
theorem timeT_nonneg (l : List (Int × Int)) (h : ∀ p ∈ l, 0 ≤ p.1) : 0 ≤ timeT l := by
  induction l with
  | nil => simp [timeT]
  | cons p r ih =>
    have := ih fun q hq => h q (List.mem_cons_of_mem _ hq)
    have := h p List.mem_cons_self
    simp only [timeT]
    omega
theorem at2_take (xs : List (Int × Int)) (k j : Nat) (h : j < k) : at2 (xs.take k) j = at2 xs j := by simp [at2, h]
theorem job_take {xs : List (Int × Int)} (h : jobB xs = true) (k : Nat) : jobB (xs.take k) = true := by
  simp only [jobB, Bool.and_eq_true, decide_eq_true_eq, List.all_eq_true] at h ⊢
  refine ⟨by rw [List.length_take]; omega, fun x hx => h.2 x (List.mem_of_mem_take hx)⟩
theorem leastB_in {xs : List (Int × Int)} (h : jobB xs = true) : 0 ≤ leastB xs ∧ leastB xs ≤ 63872064 := by
  have e : leastB xs = lostB xs (bestJobs xs) := by unfold leastB; rw [if_pos h]
  rw [e]
  exact lostB_in (perm_lostOk h (best_perm h).1)
theorem least_less {xs : List (Int × Int)} (h : jobB xs = true) (n : Nat) (hn : n + 1 = xs.length) : leastB (xs.take n) ≤ leastB xs ∧ 0 ≤ leastB (xs.take n) := by
  obtain ⟨hp, _⟩ := best_perm h
  have hv := job_take h n
  have hl : (xs.take n).length = n := by simp; omega
  have hm : (n : Int) ∈ bestJobs xs := nodup_full xs.length _ hp.2.1 hp.2.2 hp.1 n (by omega)
  obtain ⟨a, b, hab⟩ := List.append_of_mem hm
  obtain ⟨p1, p2, p3⟩ := hp
  rw [hab] at p1 p2 p3
  rw [List.nodup_append] at p2
  obtain ⟨n1, n2, n3⟩ := p2
  obtain ⟨n4, n5⟩ := List.nodup_cons.1 n2
  have hne : ∀ x ∈ a ++ b, 0 ≤ x ∧ x < n := by
    intro x hx
    have h1 : x ≠ n := by
      rintro rfl
      rcases List.mem_append.1 hx with g | g
      · exact n3 _ g _ List.mem_cons_self rfl
      · exact n4 g
    have h2 := p3 x (by
      rcases List.mem_append.1 hx with g | g
      · exact List.mem_append.2 (.inl g)
      · exact List.mem_append.2 (.inr (List.mem_cons_of_mem _ g)))
    omega
  have hq : Perm (xs.take n).length (a ++ b) := by
    refine ⟨by simp at p1 ⊢; omega, ?_, by rw [hl]; exact hne⟩
    rw [List.nodup_append]
    exact ⟨n1, n5, fun u hu v hv => n3 u hu v (List.mem_cons_of_mem _ hv)⟩
  obtain ⟨h1, h2⟩ := best_least hv hq
  refine ⟨?_, h2⟩
  have e : leastB xs = lostB xs (bestJobs xs) := by unfold leastB; rw [if_pos h]
  rw [e, lostB_perm h (best_perm h).1, hab]
  rw [lostB_perm hv hq] at h1
  have e2 : jobsOf (xs.take n) (a ++ b) = jobsOf xs (a ++ b) := by
    unfold jobsOf
    refine List.map_congr_left fun x hx => ?_
    have := hne x hx
    exact at2_take xs n x.toNat (by omega)
  have e3 : jobsOf xs (a ++ (n : Int) :: b) = jobsOf xs a ++ at2 xs n :: jobsOf xs b := by simp [jobsOf]
  rw [e2, jobsOf_app] at h1
  rw [e3]
  have hat : ∀ x ∈ a ++ b, 0 ≤ (at2 xs x.toNat).1 ∧ 0 ≤ (at2 xs x.toNat).2 := fun x hx => by
    have := hne x hx
    have := job_at h x.toNat (by omega)
    omega
  have hx := job_at h n (by omega)
  refine Int.le_trans h1 (lostT_less 0 _ _ _ (by omega) (fun p hp => ?_) ?_)
  · simp only [jobsOf, List.mem_map] at hp
    obtain ⟨i, hi, rfl⟩ := hp
    exact (hat i (List.mem_append.2 (.inr hi))).2
  · have := timeT_nonneg (jobsOf xs a) (fun p hp => by
      simp only [jobsOf, List.mem_map] at hp
      obtain ⟨i, hi, rfl⟩ := hp
      exact (hat i (List.mem_append.2 (.inl hi))).1)
    omega
def noLoad (xs : List (Int × Int)) : List (Int × Int) := xs.map fun p => (p.1, 0)
theorem lostT_zero (t : Int) (l : List (Int × Int)) (h : ∀ p ∈ l, p.2 = 0) : lostT t l = 0 := by
  induction l generalizing t with
  | nil => rfl
  | cons p r ih =>
    simp only [lostT, h p List.mem_cons_self, ih (t + p.1) fun q hq => h q (List.mem_cons_of_mem _ hq)]
    omega
theorem least_zero {xs : List (Int × Int)} (h : jobB xs = true) : leastB (noLoad xs) = 0 := by
  have hv : jobB (noLoad xs) = true := by
    simp only [jobB, Bool.and_eq_true, decide_eq_true_eq, List.all_eq_true] at h ⊢
    refine ⟨by simp [noLoad]; exact h.1, fun x hx => ?_⟩
    simp only [noLoad, List.mem_map] at hx
    obtain ⟨p, hp, rfl⟩ := hx
    exact ⟨(h.2 p hp).1, rfl⟩
  have e : leastB (noLoad xs) = lostB (noLoad xs) (bestJobs (noLoad xs)) := by unfold leastB; rw [if_pos hv]
  rw [e, lostB_perm hv (best_perm hv).1]
  refine lostT_zero 0 _ fun p hp => ?_
  simp only [jobsOf, List.mem_map] at hp
  obtain ⟨i, hi, rfl⟩ := hp
  have hin := (best_perm hv).1.2.2 i hi
  rw [at2_eq _ _ (show i.toNat < (noLoad xs).length by omega)]
  simp [noLoad]

end Go.Proofs.YtjecbapmdgnglaaDoor
