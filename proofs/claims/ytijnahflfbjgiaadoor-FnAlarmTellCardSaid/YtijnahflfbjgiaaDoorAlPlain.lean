/-
  Chapter 30, alarms: plain definitions and lemmas, no function of the program: in which order alarms are looked at.
-/
import Derived.Test.YtijnahflfbjgiaaDoorBestJobsSpec
namespace Go.Proofs.YtijnahflfbjgiaaDoor
open Go.RowKit
set_option linter.unusedVariables false

def alarmOk (p : Int × Int × Int) : Bool := inB p.1 0 9 && inB p.2.1 0 3 && inB p.2.2 0 999
def alarmB (xs : List (Int × Int × Int)) : Bool := decide (xs.length ≤ 8) && xs.all alarmOk
theorem alarm_at {xs : List (Int × Int × Int)} (h : alarmB xs = true) (k : Nat) (hk : k < xs.length) : (0 ≤ (at3 xs k).1 ∧ (at3 xs k).1 ≤ 9) ∧ (0 ≤ (at3 xs k).2.1 ∧ (at3 xs k).2.1 ≤ 3) ∧ 0 ≤ (at3 xs k).2.2 ∧ (at3 xs k).2.2 ≤ 999 := by
  simp only [alarmB, Bool.and_eq_true, decide_eq_true_eq, List.all_eq_true] at h
  have := h.2 (at3 xs k) (by rw [at3_eq xs k hk]; exact List.getElem_mem hk)
  simp only [alarmOk, Bool.and_eq_true] at this
  exact ⟨inB_true this.1.1, inB_true this.1.2, inB_true this.2⟩
theorem alarm_len {xs : List (Int × Int × Int)} (h : alarmB xs = true) : xs.length ≤ 8 := by
  simp only [alarmB, Bool.and_eq_true, decide_eq_true_eq] at h
  exact h.1
theorem alarm_mk {xs : List (Int × Int × Int)} (h1 : xs.length ≤ 8) (h2 : ∀ k, k < xs.length → alarmOk (at3 xs k) = true) : alarmB xs = true := by
  simp only [alarmB, Bool.and_eq_true, decide_eq_true_eq, List.all_eq_true]
  refine ⟨h1, fun x hx => ?_⟩
  obtain ⟨k, hk, rfl⟩ := List.getElem_of_mem hx
  have := h2 k hk
  rwa [at3_eq xs k hk] at this
theorem alarm_cases (p : Int × Int × Int) : (inB p.1 0 9 = false ∧ alarmOk p = false) ∨ (inB p.1 0 9 = true ∧ inB p.2.1 0 3 = false ∧ alarmOk p = false) ∨ (inB p.1 0 9 = true ∧ inB p.2.1 0 3 = true ∧ inB p.2.2 0 999 = false ∧ alarmOk p = false) ∨ (inB p.1 0 9 = true ∧ inB p.2.1 0 3 = true ∧ inB p.2.2 0 999 = true ∧ alarmOk p = true) := by
  unfold alarmOk
  cases inB p.1 0 9 <;> cases inB p.2.1 0 3 <;> cases inB p.2.2 0 999 <;> simp

/-- The state behind an event, of states 0..3 and events 0..2. -/
def stepT (s e : Int) : Int :=
  if e = 0 then (if s = 0 ∨ s = 3 then 1 else s) else if e = 1 then (if s = 1 then 3 else if s = 2 then 0 else s) else (if s = 1 then 2 else if s = 3 then 0 else s)
def stepB (s e : Int) : Int := if inB s 0 3 && inB e 0 2 then stepT s e else -1
theorem stepT_in {s e : Int} (h : 0 ≤ s ∧ s ≤ 3) : 0 ≤ stepT s e ∧ stepT s e ≤ 3 := by
  unfold stepT
  (repeat' split) <;> omega

def unseen (p : Int × Int × Int) : Bool := decide (p.2.1 = 1 ∨ p.2.1 = 3)
/-- Alarm a is looked at ahead of alarm b: by rank and time. -/
def alLt (xs : List (Int × Int × Int)) (a b : Int) : Bool := decide ((at3 xs b.toNat).1 < (at3 xs a.toNat).1 ∨ ((at3 xs b.toNat).1 = (at3 xs a.toNat).1 ∧ (at3 xs a.toNat).2.2 < (at3 xs b.toNat).2.2))
theorem al_tr {xs : List (Int × Int × Int)} {n : Nat} (a b c : Int) (h1 : Rel (alLt xs) n a b) (h2 : Rel (alLt xs) n b c) : Rel (alLt xs) n a c := by
  obtain ⟨ha, hb, h1⟩ := h1
  obtain ⟨_, hc, h2⟩ := h2
  refine ⟨ha, hc, ?_⟩
  simp only [alLt, decide_eq_true_eq, decide_eq_false_iff_not] at h1 h2 ⊢
  omega
theorem al_asy {xs : List (Int × Int × Int)} {n : Nat} (a b : Int) (h1 : Rel (alLt xs) n a b) (h2 : Rel (alLt xs) n b a) : False := by
  obtain ⟨ha, hb, h1⟩ := h1
  obtain ⟨_, _, h2⟩ := h2
  simp only [alLt, decide_eq_true_eq, decide_eq_false_iff_not] at h1 h2
  omega

/-- The places of those that nobody has acknowledged, and of the others. -/
def unseenK (xs : List (Int × Int × Int)) (n : Nat) : List Int := (idxs n).filter fun k => unseen (at3 xs k.toNat)
def seenK (xs : List (Int × Int × Int)) (n : Nat) : List Int := (idxs n).filter fun k => !unseen (at3 xs k.toNat)
theorem unseenK_mem (xs : List (Int × Int × Int)) (n : Nat) (k : Int) : k ∈ unseenK xs n ↔ (0 ≤ k ∧ k < n) ∧ unseen (at3 xs k.toNat) = true := by
  rw [unseenK, List.mem_filter, idxs_mem]
theorem seenK_mem (xs : List (Int × Int × Int)) (n : Nat) (k : Int) : k ∈ seenK xs n ↔ (0 ≤ k ∧ k < n) ∧ unseen (at3 xs k.toNat) = false := by
  rw [seenK, List.mem_filter, idxs_mem]
  simp
theorem unseenK_nodup (xs : List (Int × Int × Int)) (n : Nat) : (unseenK xs n).Nodup := (idxs_nodup n).filter _
theorem idxs_succ (n : Nat) : idxs (n + 1) = idxs n ++ [(n : Int)] := by simp [idxs, List.range_succ]
theorem unseenK_yes {xs : List (Int × Int × Int)} {n : Nat} (h : unseen (at3 xs n) = true) : unseenK xs (n + 1) = unseenK xs n ++ [(n : Int)] := by
  rw [unseenK, idxs_succ, List.filter_append]
  simp [h, unseenK]
theorem unseenK_no {xs : List (Int × Int × Int)} {n : Nat} (h : unseen (at3 xs n) = false) : unseenK xs (n + 1) = unseenK xs n := by
  rw [unseenK, idxs_succ, List.filter_append]
  simp [h, unseenK]
theorem unseenK_len (xs : List (Int × Int × Int)) (n : Nat) : (unseenK xs n).length ≤ n := by
  have := List.length_filter_le (fun k : Int => unseen (at3 xs k.toNat)) (idxs n)
  rw [idxs_len] at this
  exact this

/-! ### selection among those that are not in a given list -/
def selG (lt : Int → Int → Bool) (base : List Int) (n : Nat) : Nat → List Int
  | 0 => []
  | k + 1 => selG lt base n k ++ [bestF lt (base ++ selG lt base n k) n]
theorem selG_inv {lt : Int → Int → Bool} {n : Nat} (tr : ∀ a b c, Rel lt n a b → Rel lt n b c → Rel lt n a c) (base el : List Int) (hn : el.Nodup) (he : ∀ x, x ∈ el ↔ (0 ≤ x ∧ x < n) ∧ x ∉ base) (k : Nat) (hk : k ≤ el.length) :
    (selG lt base n k).length = k ∧ (selG lt base n k).Nodup ∧ (∀ x ∈ selG lt base n k, x ∈ el) ∧ (selG lt base n k).Pairwise (Rel lt n) ∧ ∀ x ∈ selG lt base n k, ∀ y ∈ el, y ∉ selG lt base n k → Rel lt n x y := by
  induction k with
  | zero => simp [selG]
  | succ k ih =>
    obtain ⟨i1, i2, i3, i4, i5⟩ := ih (by omega)
    rcases best_inv tr (base ++ selG lt base n k) n (Nat.le_refl _) with ⟨h1, h2⟩ | ⟨h1, h2, h3, h4⟩
    · exfalso
      have := sub_len el (selG lt base n k) hn (fun x hx => by
        obtain ⟨⟨a, b⟩, c⟩ := (he x).1 hx
        have := h2 x.toNat (by omega)
        rw [show ((x.toNat : Nat) : Int) = x from by omega] at this
        exact (List.mem_append.1 this).resolve_left c)
      omega
    · have hu : selG lt base n (k + 1) = selG lt base n k ++ [bestF lt (base ++ selG lt base n k) n] := rfl
      rw [List.mem_append, not_or] at h3
      have hel : bestF lt (base ++ selG lt base n k) n ∈ el := (he _).2 ⟨⟨h1, h2⟩, h3.1⟩
      rw [hu]
      refine ⟨by simp [i1], ?_, ?_, ?_, ?_⟩
      · rw [List.nodup_append]
        exact ⟨i2, by simp, fun a ha b hb => by simp at hb; subst hb; exact fun e => h3.2 (by rw [← e]; exact ha)⟩
      · intro x hx
        simp at hx
        rcases hx with hx | rfl
        · exact i3 x hx
        · exact hel
      · rw [List.pairwise_append]
        exact ⟨i4, by simp, fun a ha b hb => by simp at hb; subst hb; exact i5 a ha _ hel h3.2⟩
      · intro x hx y hy hny
        simp at hx hny
        obtain ⟨⟨y0, y1⟩, y2⟩ := (he y).1 hy
        rcases hx with hx | rfl
        · exact i5 x hx y hy hny.1
        · have := h4 y.toNat (by omega) (by rw [show ((y.toNat : Nat) : Int) = y from by omega, List.mem_append, not_or]; exact ⟨y2, hny.1⟩) (by rw [show ((y.toNat : Nat) : Int) = y from by omega]; exact hny.2)
          rw [show ((y.toNat : Nat) : Int) = y from by omega] at this
          exact this
theorem selG_full {lt : Int → Int → Bool} {n : Nat} (tr : ∀ a b c, Rel lt n a b → Rel lt n b c → Rel lt n a c) (base el : List Int) (hn : el.Nodup) (he : ∀ x, x ∈ el ↔ (0 ≤ x ∧ x < n) ∧ x ∉ base) (x : Int) : x ∈ selG lt base n el.length ↔ x ∈ el := by
  obtain ⟨i1, i2, i3, i4, i5⟩ := selG_inv tr base el hn he el.length (Nat.le_refl _)
  refine ⟨i3 x, fun hx => Classical.byContradiction fun hnx => ?_⟩
  have := sub_len (x :: selG lt base n el.length) el (List.nodup_cons.2 ⟨hnx, i2⟩) (fun y hy => by
    rcases List.mem_cons.1 hy with rfl | hy
    · exact hx
    · exact i3 y hy)
  simp only [List.length_cons, i1] at this
  omega
theorem selG_end {lt : Int → Int → Bool} {n : Nat} (tr : ∀ a b c, Rel lt n a b → Rel lt n b c → Rel lt n a c) (base el : List Int) (hn : el.Nodup) (he : ∀ x, x ∈ el ↔ (0 ≤ x ∧ x < n) ∧ x ∉ base) : bestF lt (base ++ selG lt base n el.length) n = -1 := by
  rcases best_inv tr (base ++ selG lt base n el.length) n (Nat.le_refl _) with ⟨h1, h2⟩ | ⟨h1, h2, h3, h4⟩
  · exact h1
  · rw [List.mem_append, not_or] at h3
    exact absurd ((selG_full tr base el hn he _).2 ((he _).2 ⟨⟨h1, h2⟩, h3.1⟩)) h3.2
theorem selG_next {lt : Int → Int → Bool} {n : Nat} (tr : ∀ a b c, Rel lt n a b → Rel lt n b c → Rel lt n a c) (base el : List Int) (hn : el.Nodup) (he : ∀ x, x ∈ el ↔ (0 ≤ x ∧ x < n) ∧ x ∉ base) (k : Nat) (hk : k < el.length) : bestF lt (base ++ selG lt base n k) n ∈ el ∧ bestF lt (base ++ selG lt base n k) n ∉ selG lt base n k := by
  have h := selG_inv tr base el hn he (k + 1) hk
  have hu : selG lt base n (k + 1) = selG lt base n k ++ [bestF lt (base ++ selG lt base n k) n] := rfl
  rw [hu] at h
  refine ⟨h.2.2.1 _ (by simp), fun hm => ?_⟩
  have := (List.nodup_append.1 h.2.1).2.2 _ hm _ (List.mem_singleton.2 rfl)
  exact this rfl
/-- Insertion sort of them and selection come to the same list. -/
theorem srt_eq_selG {lt : Int → Int → Bool} {n : Nat} (tr : ∀ a b c, Rel lt n a b → Rel lt n b c → Rel lt n a c) (asy : ∀ a b, Rel lt n a b → Rel lt n b a → False) (base el : List Int) (hn : el.Nodup) (he : ∀ x, x ∈ el ↔ (0 ≤ x ∧ x < n) ∧ x ∉ base) (hs : el.Pairwise (· < ·)) : srt lt el (el.length - 1) = selG lt base n el.length := by
  obtain ⟨j1, j2, j3, j4, _⟩ := selG_inv tr base el hn he el.length (Nat.le_refl _)
  by_cases h0 : el.length = 0
  · rw [h0]
    rw [List.eq_nil_of_length_eq_zero h0]
    rfl
  · obtain ⟨s, hp, hs2, hee⟩ := srt_sorted (R := Rel lt n) (lt := lt) tr el (fun i j hij hj => by
      have hi := (he _).1 (mem_at (xs := el) i (by omega))
      have hj2 := (he _).1 (mem_at (xs := el) j hj)
      have hlt : at_ el i < at_ el j := by
        rw [at_eq el i (by omega), at_eq el j hj]
        exact List.pairwise_iff_getElem.1 hs i j (by omega) hj hij
      exact ⟨fun h => ⟨hj2.1, hi.1, .inl h⟩, fun h => ⟨hi.1, hj2.1, .inr ⟨h, hlt⟩⟩⟩) (el.length - 1) (by omega)
    have hd : el.drop (el.length - 1 + 1) = [] := by rw [List.drop_eq_nil_iff]; omega
    have ht : el.take (el.length - 1 + 1) = el := List.take_of_length_le (by omega)
    rw [hd, List.append_nil] at hee
    rw [ht] at hp
    rw [hee]
    refine sorted_unique asy _ _ (fun x => ?_) hs2 j4
    rw [hp.mem_iff, selG_full tr base el hn he]

theorem idxs_sorted (n : Nat) : (idxs n).Pairwise (· < ·) := by
  induction n with
  | zero => simp [idxs]
  | succ n ih =>
    rw [idxs_succ, List.pairwise_append]
    refine ⟨ih, by simp, fun a ha b hb => ?_⟩
    simp at hb
    subst hb
    exact ((idxs_mem n a).1 ha).2

/-- The order in which alarms are looked at; none for alarms that are not valid. -/
def ackL (xs : List (Int × Int × Int)) : List Int := if alarmB xs then selG (alLt xs) (seenK xs xs.length) xs.length (unseenK xs xs.length).length else []
theorem el_mem (xs : List (Int × Int × Int)) (n : Nat) (x : Int) : x ∈ unseenK xs n ↔ (0 ≤ x ∧ x < n) ∧ x ∉ seenK xs n := by
  rw [unseenK_mem, seenK_mem]
  constructor
  · rintro ⟨h1, h2⟩
    exact ⟨h1, fun h => by rw [h2] at h; exact absurd h.2 (by simp)⟩
  · rintro ⟨h1, h2⟩
    refine ⟨h1, ?_⟩
    cases h : unseen (at3 xs x.toNat)
    · exact absurd ⟨h1, h⟩ h2
    · rfl
theorem ackL_srt {xs : List (Int × Int × Int)} (h : alarmB xs = true) : srt (alLt xs) (unseenK xs xs.length) ((unseenK xs xs.length).length - 1) = ackL xs := by
  rw [ackL, if_pos h]
  exact srt_eq_selG al_tr al_asy _ _ (unseenK_nodup _ _) (el_mem _ _) ((idxs_sorted _).filter _)
def AkO (xs : List (Int × Int × Int)) (r : List Int) : Prop := r = ackL xs
theorem AkO_unique {xs : List (Int × Int × Int)} {a b : List Int} (ha : AkO xs a) (hb : AkO xs b) : a = b := by rw [ha, hb]
theorem ackL_len {xs : List (Int × Int × Int)} (h : alarmB xs = true) : (ackL xs).length = (unseenK xs xs.length).length := by
  rw [ackL, if_pos h]
  exact (selG_inv al_tr _ _ (unseenK_nodup _ _) (el_mem _ _) _ (Nat.le_refl _)).1
theorem AkO_len {xs : List (Int × Int × Int)} {a : List Int} (ha : AkO xs a) : a.length ≤ 8 := by
  rw [ha]
  cases h : alarmB xs
  · simp [ackL, h]
  · rw [ackL_len h]
    have := unseenK_len xs xs.length
    have := alarm_len h
    omega

/-! ### alarms after an event -/
def tellL (xs : List (Int × Int × Int)) (i : Nat) (e t : Int) : List (Int × Int × Int) := if stepT (at3 xs i).2.1 e = (at3 xs i).2.1 then xs else xs.set i ((at3 xs i).1, stepT (at3 xs i).2.1 e, t)
theorem tellL_len (xs : List (Int × Int × Int)) (i : Nat) (e t : Int) : (tellL xs i e t).length = xs.length := by
  unfold tellL
  split <;> simp
theorem at3_set_eq (xs : List (Int × Int × Int)) (k : Nat) (v : Int × Int × Int) (h : k < xs.length) : at3 (xs.set k v) k = v := by simp [at3, h]
theorem at3_set_ne (xs : List (Int × Int × Int)) (k j : Nat) (v : Int × Int × Int) (h : k ≠ j) : at3 (xs.set k v) j = at3 xs j := by simp [at3, List.getElem?_set_ne h]
theorem tellL_at (xs : List (Int × Int × Int)) (i : Nat) (e t : Int) (hi : i < xs.length) : at3 (tellL xs i e t) i = ((at3 xs i).1, stepT (at3 xs i).2.1 e, if stepT (at3 xs i).2.1 e = (at3 xs i).2.1 then (at3 xs i).2.2 else t) := by
  unfold tellL
  split
  · next h => rw [h]
  · rw [at3_set_eq _ _ _ hi]
theorem tellL_ne (xs : List (Int × Int × Int)) (i j : Nat) (e t : Int) (h : i ≠ j) : at3 (tellL xs i e t) j = at3 xs j := by
  unfold tellL
  split
  · rfl
  · rw [at3_set_ne _ _ _ _ h]
theorem tellL_valid {xs : List (Int × Int × Int)} (h : alarmB xs = true) (i : Nat) (e t : Int) (hi : i < xs.length) (ht : inB t 0 999 = true) : alarmB (tellL xs i e t) = true := by
  refine alarm_mk (by rw [tellL_len]; exact alarm_len h) fun k hk => ?_
  rw [tellL_len] at hk
  by_cases hik : i = k
  · subst hik
    rw [tellL_at xs i e t hi]
    obtain ⟨a, b, c⟩ := alarm_at h i hi
    have hs := stepT_in (e := e) b
    have ht := inB_true ht
    simp only [alarmOk, Bool.and_eq_true]
    refine ⟨⟨inB_mk a.1 a.2, inB_mk hs.1 hs.2⟩, ?_⟩
    split
    · exact inB_mk c.1 c.2
    · exact inB_mk ht.1 ht.2
  · rw [tellL_ne _ _ _ _ _ hik]
    obtain ⟨a, b, c⟩ := alarm_at h k hk
    simp only [alarmOk, Bool.and_eq_true]
    exact ⟨⟨inB_mk a.1 a.2, inB_mk b.1 b.2⟩, inB_mk c.1 c.2⟩
/-- The alarm that is looked at next. -/
def nextF (xs : List (Int × Int × Int)) : Int := bestF (alLt xs) (seenK xs xs.length) xs.length
def nextB (xs : List (Int × Int × Int)) : Int := if alarmB xs then nextF xs else -1

/-- Some alarms of a list are acknowledged, at a time. -/
structure Ackd (t : Int) (xs : List (Int × Int × Int)) (out : List Int) (ys : List (Int × Int × Int)) : Prop where
  len : ys.length = xs.length
  val : alarmB ys = true
  same : ∀ k : Nat, k < xs.length → (k : Int) ∉ out → at3 ys k = at3 xs k
  done : ∀ k : Nat, k < xs.length → (k : Int) ∈ out → unseen (at3 ys k) = false
theorem Ackd.start {t : Int} {xs : List (Int × Int × Int)} (h : alarmB xs = true) : Ackd t xs [] xs := ⟨rfl, h, fun _ _ _ => rfl, fun _ _ h => absurd h (by simp)⟩
theorem stepT_ack (s : Int) : ¬ (stepT s 2 = 1 ∨ stepT s 2 = 3) := by
  unfold stepT
  (repeat' split) <;> omega
theorem Ackd.step {t : Int} {xs ys : List (Int × Int × Int)} {out : List Int} (h : Ackd t xs out ys) (k : Nat) (hk : k < xs.length) (ht : inB t 0 999 = true) : Ackd t xs (out ++ [(k : Int)]) (tellL ys k 2 t) := by
  refine ⟨by rw [tellL_len, h.len], tellL_valid h.val k 2 t (by rw [h.len]; exact hk) ht, fun j hj hn => ?_, fun j hj hm => ?_⟩
  · rw [List.mem_append, not_or] at hn
    have : j ≠ k := fun e => hn.2 (by simp [e])
    rw [tellL_ne _ _ _ _ _ (Ne.symm this)]
    exact h.same j hj hn.1
  · by_cases hjk : k = j
    · subst hjk
      rw [tellL_at _ _ _ _ (by rw [h.len]; exact hk)]
      exact decide_eq_false (stepT_ack _)
    · rw [tellL_ne _ _ _ _ _ hjk]
      rcases List.mem_append.1 hm with hm | hm
      · exact h.done j hj hm
      · exact absurd (by simp at hm; omega) hjk
theorem bestF_congr {lt lt' : Int → Int → Bool} {out out' : List Int} {n : Nat} (ho : ∀ j : Nat, j < n → hasB out j = hasB out' j) (hl : ∀ i j : Nat, i < n → j < n → (i : Int) ∉ out → (j : Int) ∉ out → lt i j = lt' i j) (k : Nat) (hk : k ≤ n) :
    bestF lt out k = bestF lt' out' k ∧ (bestF lt out k = -1 ∨ (0 ≤ bestF lt out k ∧ bestF lt out k < k ∧ bestF lt out k ∉ out)) := by
  induction k with
  | zero => exact ⟨rfl, .inl rfl⟩
  | succ k ih =>
    obtain ⟨i1, i2⟩ := ih (by omega)
    cases h : hasB out k
    · have h' : hasB out' k = false := by rw [← ho k (by omega)]; exact h
      have hnk : (k : Int) ∉ out := by simpa [hasB] using h
      rcases i2 with i2 | ⟨i2, i3, i4⟩
      · rw [bestF_first h i2, bestF_first h' (by rw [← i1]; exact i2)]
        exact ⟨rfl, .inr ⟨by omega, by omega, hnk⟩⟩
      · obtain ⟨m, hm⟩ := Int.eq_ofNat_of_zero_le i2
        have hl1 := hl k m (by omega) (by omega) hnk (by rw [← hm]; exact i4)
        cases hc : lt k m
        · rw [bestF_no h hm hc, bestF_no h' (by rw [← i1]; exact hm) (by rw [← hl1]; exact hc)]
          exact ⟨rfl, .inr ⟨by omega, by omega, by rw [← hm]; exact i4⟩⟩
        · rw [bestF_yes h hm hc, bestF_yes h' (by rw [← i1]; exact hm) (by rw [← hl1]; exact hc)]
          exact ⟨rfl, .inr ⟨by omega, by omega, hnk⟩⟩
    · have h' : hasB out' k = true := by rw [← ho k (by omega)]; exact h
      rw [bestF_has h, bestF_has h']
      refine ⟨i1, ?_⟩
      rcases i2 with i2 | ⟨i2, i3, i4⟩
      · exact .inl i2
      · exact .inr ⟨i2, by omega, i4⟩
theorem Ackd.next {t : Int} {xs ys : List (Int × Int × Int)} {out : List Int} (h : Ackd t xs out ys) : nextF ys = bestF (alLt xs) (seenK xs xs.length ++ out) xs.length := by
  unfold nextF
  rw [h.len]
  have hu : ∀ j : Nat, j < xs.length → (j : Int) ∉ seenK ys xs.length → at3 ys j = at3 xs j := fun j hj hn => by
    refine h.same j hj fun hm => hn ?_
    exact (seenK_mem _ _ _).2 ⟨by omega, by simpa using h.done j hj hm⟩
  refine (bestF_congr (fun j hj => ?_) (fun i j hi hj hin hjn => ?_) xs.length (Nat.le_refl _)).1
  · unfold hasB
    rw [decide_eq_decide, List.mem_append, seenK_mem, seenK_mem]
    simp only [Int.toNat_natCast]
    by_cases hm : (j : Int) ∈ out
    · have := h.done j hj hm
      simp [hm, this]; omega
    · rw [h.same j hj hm]
      simp [hm]
  · unfold alLt
    simp only [Int.toNat_natCast]
    simp only [hu i hi hin, hu j hj hjn]
theorem Ackd.nextB {t : Int} {xs ys : List (Int × Int × Int)} {out : List Int} (h : Ackd t xs out ys) : nextB ys = bestF (alLt xs) (seenK xs xs.length ++ out) xs.length := by
  unfold Go.Proofs.YtijnahflfbjgiaaDoor.nextB
  rw [if_pos h.val, h.next]

end Go.Proofs.YtijnahflfbjgiaaDoor
