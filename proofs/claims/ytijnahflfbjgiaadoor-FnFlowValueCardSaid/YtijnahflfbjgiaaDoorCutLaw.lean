/-
  Chapter 34: what the laws say of the most that can flow and of cuts; plain lemmas, no function of the program.
-/
import Derived.Test.YtijnahflfbjgiaaDoorWeakW
namespace Go.Proofs.YtijnahflfbjgiaaDoor
open Go.RowKit
set_option linter.unusedVariables false

theorem selL_asc (p : Nat → Bool) (n : Nat) : (selL p n).Pairwise (· < ·) := by
  unfold selL
  refine List.Pairwise.map _ (R := (· < ·)) (fun a b h => by omega) ?_
  exact List.Pairwise.filter _ List.pairwise_lt_range
theorem selL_nodup (p : Nat → Bool) (n : Nat) : (selL p n).Nodup := (selL_asc p n).imp fun h => by omega
theorem hasB_sel (p : Nat → Bool) (n : Nat) (a : Int) (h0 : 0 ≤ a) (h1 : a < n) : hasB (selL p n) a = p a.toNat := by
  unfold hasB
  obtain ⟨k, rfl⟩ := Int.eq_ofNat_of_zero_le h0
  rw [Int.toNat_natCast]
  cases hp : p k
  · refine decide_eq_false fun hm => ?_
    obtain ⟨u, hu, hpu, he⟩ := (selL_mem p n _).1 hm
    have : k = u := by omega
    subst this
    rw [hp] at hpu
    cases hpu
  · exact decide_eq_true ((selL_mem p n _).2 ⟨k, by omega, hp, rfl⟩)

section
variable {ls : List (Int × Int × Int)} {os : List Bool} {b : Int} {from_ to : Int}
/-- Both sides of a border let through as much. -/
theorem cut_comp (hv : netB b ls = true) (p : Nat → Bool) (k : Nat) (hk : k ≤ ls.length) : cutF ls os (selL (fun u => !p u) b.toNat) k = cutF ls os (selL p b.toNat) k := by
  induction k with
  | zero => rfl
  | succ k ih =>
    have hn := net_at hv k (by omega)
    rw [cutF, cutF, ih (by omega)]
    congr 1
    unfold cutS
    rw [hasB_sel _ _ _ hn.1.1 (by omega), hasB_sel _ _ _ hn.2.1.1 (by omega), hasB_sel _ _ _ hn.1.1 (by omega), hasB_sel _ _ _ hn.2.1.1 (by omega)]
    cases p (at3 ls k).1.toNat <;> cases p (at3 ls k).2.1.toNat <;> simp
/-- What flows most is a flow; its value; and a side that lets through no more. -/
theorem MF.min (he : endsB b ls os.length from_ to = true) {fl : List Int} (h : MF b ls os from_ to fl) : ∃ (v : Int) (p : Nat → Bool), Flo b ls os from_ to fl v ∧ valB b ls os from_ to fl = v ∧ (∀ u : Nat, (u : Int) < b → (p u = true ↔ Rea (Res ls os fl) u from_)) ∧ from_ ∈ selL p b.toNat ∧ to ∉ selL p b.toNat ∧ cutF ls os (selL p b.toNat) ls.length = v := by
  obtain ⟨v, hF⟩ := h.flo he
  have hE := ends_true he
  have hS : Stuck ls os from_ to fl := by
    rcases h with ⟨_, h2⟩ | ⟨h1, _⟩
    · exact h2.2
    · rw [he] at h1; cases h1
  classical
  refine ⟨v, fun u => decide (Rea (Res ls os fl) u from_), hF, ?_, fun u hu => by simp, ?_, ?_, ?_⟩
  · have hval := valB_yes (os := os) he hF.ok.1 (fun k hk => ?_) (fun u hu h1 h2 => ?_)
    · rw [hval]
      have := hF.out from_
      rw [if_pos rfl, if_neg hE.ne] at this
      have := hF.pos
      omega
    · have hk2 := hF.ok.2 k hk
      unfold flS
      cases ho : atB os k
      · have := hk2.2 ho
        simp [this] at hk2 ⊢
        omega
      · simp
        omega
    · have := hF.out u
      rw [if_neg h1, if_neg h2] at this
      omega
  · obtain ⟨k, hk⟩ := Int.eq_ofNat_of_zero_le hE.f0
    refine (selL_mem _ _ _).2 ⟨k, by have := hE.f1; omega, ?_, hk⟩
    rw [hk]
    simp [Rea.refl]
  · intro hm
    obtain ⟨u, hu, hp, e⟩ := (selL_mem _ _ _).1 hm
    simp only [decide_eq_true_eq] at hp
    rw [← e] at hp
    exact hS hp
  · refine hF.tight hE.net (selL_nodup _ _) ?_ ?_ ?_
    · obtain ⟨k, hk⟩ := Int.eq_ofNat_of_zero_le hE.f0
      refine (selL_mem _ _ _).2 ⟨k, by have := hE.f1; omega, ?_, hk⟩
      rw [hk]
      simp [Rea.refl]
    · intro hm
      obtain ⟨u, hu, hp, e⟩ := (selL_mem _ _ _).1 hm
      simp only [decide_eq_true_eq] at hp
      rw [← e] at hp
      exact hS hp
    · intro x y hx hR
      obtain ⟨u, hu, hp, rfl⟩ := (selL_mem _ _ _).1 hx
      simp only [decide_eq_true_eq] at hp
      have hy : Rea (Res ls os fl) y from_ := (Rea.step hR (Rea.refl _ _)).trans hp
      obtain ⟨k, hk, h0, ho, hr⟩ := hR
      have hn := net_at hE.net k hk
      have hyb : y < b := by
        rcases otherF_cases (x := at3 ls k) (u := (u : Int)) (by omega) with ⟨_, e⟩ | ⟨_, _, e⟩ <;> omega
      obtain ⟨j, rfl⟩ := Int.eq_ofNat_of_zero_le h0
      exact (selL_mem _ _ _).2 ⟨j, by omega, by simpa using hy, rfl⟩
theorem endsB_swap (b : Int) (ls : List (Int × Int × Int)) (n : Nat) (from_ to : Int) : endsB b ls n to from_ = endsB b ls n from_ to := by
  unfold endsB
  cases stB b ls n <;> cases inB from_ 0 (b - 1) <;> cases inB to 0 (b - 1) <;> simp [eq_comm]
theorem sel_not {p : Nat → Bool} {n : Nat} {x : Int} (h0 : 0 ≤ x) (h1 : x < n) : x ∈ selL (fun u => !p u) n ↔ x ∉ selL p n := by
  obtain ⟨k, rfl⟩ := Int.eq_ofNat_of_zero_le h0
  have e : ∀ q : Nat → Bool, (k : Int) ∈ selL q n ↔ q k = true := fun q => by
    rw [selL_mem]
    constructor
    · rintro ⟨u, _, hq, he⟩
      have : k = u := by omega
      rw [this]; exact hq
    · intro hq; exact ⟨k, by omega, hq, rfl⟩
  rw [e, e]
  cases p k <;> simp
/-- As much can flow back. -/
theorem MF.swap (he : endsB b ls os.length from_ to = true) {fl fl' : List Int} (h : MF b ls os from_ to fl) (k : MF b ls os to from_ fl') : valB b ls os to from_ fl' = valB b ls os from_ to fl := by
  have he' : endsB b ls os.length to from_ = true := by rw [endsB_swap]; exact he
  have hE := ends_true he
  obtain ⟨v, p, hF, hv, _, h1, h2, h3⟩ := h.min he
  obtain ⟨v', q, hF', hv', _, k1, k2, k3⟩ := k.min he'
  have hb := (net_len hE.net).1
  have a := hF'.cut hE.net (selL_nodup (fun u => !p u) b.toNat) ((sel_not hE.t0 (by have := hE.t1; omega)).2 h2) (fun hm => (sel_not hE.f0 (by have := hE.f1; omega)).1 hm h1)
  have c := hF.cut hE.net (selL_nodup (fun u => !q u) b.toNat) ((sel_not hE.f0 (by have := hE.f1; omega)).2 k2) (fun hm => (sel_not hE.t0 (by have := hE.t1; omega)).1 hm k1)
  rw [cut_comp hE.net _ _ (Nat.le_refl _)] at a c
  rw [hv, hv']
  omega
theorem MV.swap (he : endsB b ls os.length from_ to = true) {fl : List Int} (h : MF b ls os from_ to fl) {y : Int} (k : MV b ls os to from_ y) : y = valB b ls os from_ to fl := by
  obtain ⟨r, hr, rfl⟩ := k
  exact h.swap he hr
theorem MF.same {r : List Int} (h : MF b ls os from_ to r) {y : Int} (k : MV b ls os from_ to y) : y = valB b ls os from_ to r := by
  obtain ⟨r', hr, rfl⟩ := k
  rw [hr.unique h]
theorem MF.empty (he : endsB b ls os.length from_ to = false) {r : List Int} (h : MF b ls os from_ to r) : r = [] := by
  rcases h with ⟨h1, _⟩ | ⟨_, h2⟩
  · rw [he] at h1; cases h1
  · exact h2
end

end Go.Proofs.YtijnahflfbjgiaaDoor
