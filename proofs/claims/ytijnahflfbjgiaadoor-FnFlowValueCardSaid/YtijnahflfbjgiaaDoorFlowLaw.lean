/-
  Chapter 34: what the law FnFlowValue says of flows; plain lemmas, no function of the program.
-/
import Derived.Test.YtijnahflfbjgiaaDoorCutLaw
namespace Go.Proofs.YtijnahflfbjgiaaDoor
open Go.RowKit
set_option linter.unusedVariables false
section
variable {ls : List (Int × Int × Int)} {os : List Bool} {b : Int} {from_ to : Int}
theorem outF_far (hv : netB b ls = true) (fl : List Int) {u : Int} (h : u < 0 ∨ b ≤ u) (k : Nat) (hk : k ≤ ls.length) : outF ls fl u k = 0 := by
  induction k with
  | zero => rfl
  | succ k ih =>
    have hn := net_at hv k (by omega)
    rw [outF, ih (by omega), if_neg (by omega), if_neg (by omega)]
    rfl
theorem sum_out (hv : netB b ls = true) (fl : List Int) : ((selL (fun _ => true) b.toNat).map fun u => outF ls fl u ls.length).sum = 0 := by
  have hb := (net_len hv).1
  rw [cross_sum hv fl _ (selL_nodup _ _) ls.length (Nat.le_refl _)]
  have : ∀ k, k ≤ ls.length → crossS ls fl (selL (fun _ => true) b.toNat) k = 0 := fun k => by
    induction k with
    | zero => intro _; rfl
    | succ k ih =>
      intro hk
      have hn := net_at hv k (by omega)
      rw [crossS, ih (by omega)]
      have m : ∀ a : Int, 0 ≤ a → a < b → a ∈ selL (fun _ => true) b.toNat := fun a h0 h1 => by
        obtain ⟨j, rfl⟩ := Int.eq_ofNat_of_zero_le h0
        exact (selL_mem _ _ _).2 ⟨j, by omega, rfl, rfl⟩
      unfold crossF
      rw [if_pos (m _ hn.1.1 hn.1.2), if_pos (m _ hn.2.1.1 hn.2.1.2)]
      omega
  exact this _ (Nat.le_refl _)
theorem Flo.val (he : endsB b ls os.length from_ to = true) {fl : List Int} {v : Int} (hF : Flo b ls os from_ to fl v) : valB b ls os from_ to fl = v := by
  have hE := ends_true he
  have hval := valB_yes (os := os) he hF.ok.1 (fun k hk => ?_) (fun u hu h1 h2 => ?_)
  · rw [hval]
    have := hF.out from_
    rw [if_pos rfl, if_neg hE.ne] at this
    have := hF.pos
    omega
  · have hk2 := hF.ok.2 k hk
    unfold flS
    cases ho : atB os k
    · have := hk2.2 ho
      simp [this] at hk2 ⊢
      omega
    · simp
      omega
  · have := hF.out u
    rw [if_neg h1, if_neg h2] at this
    omega
theorem valB_ways (b : Int) (ls : List (Int × Int × Int)) (os : List Bool) (from_ to : Int) (fl : List Int) : valB b ls os from_ to fl = -1 ∨ (endsB b ls os.length from_ to = true ∧ Flo b ls os from_ to fl (valB b ls os from_ to fl)) := by
  by_cases hc : (endsB b ls os.length from_ to && decide (fl.length = ls.length) && flB ls os fl && midB b ls from_ to fl) = true
  · by_cases hp : 0 ≤ outF ls fl from_ ls.length
    · refine .inr ?_
      have e : valB b ls os from_ to fl = outF ls fl from_ ls.length := by
        unfold valB
        rw [if_pos hc]
        omega
      rw [e]
      simp only [Bool.and_eq_true, decide_eq_true_eq] at hc
      obtain ⟨⟨⟨he, hl⟩, h2⟩, h3⟩ := hc
      have hE := ends_true he
      have hb := (net_len hE.net).1
      have h2 := of_decide_eq_true h2
      have h3 := of_decide_eq_true h3
      have hmid : ∀ u, u ≠ from_ → u ≠ to → outF ls fl u ls.length = 0 := fun u a c => by
        by_cases hr : u < 0 ∨ b ≤ u
        · exact outF_far hE.net fl hr _ (Nat.le_refl _)
        · obtain ⟨j, rfl⟩ := Int.eq_ofNat_of_zero_le (show 0 ≤ u by omega)
          exact h3 j (by omega) a c
      have hto : outF ls fl to ls.length = - outF ls fl from_ ls.length := by
        have hs := sum_out hE.net fl
        have e2 : (fun u => outF ls fl u ls.length) = fun u => (if u = from_ then outF ls fl from_ ls.length else 0) + (if u = to then outF ls fl to ls.length else 0) := funext fun u => by
          by_cases a : u = from_
          · subst a
            rw [if_pos rfl, if_neg hE.ne]
            omega
          · by_cases c : u = to
            · subst c
              rw [if_neg a, if_pos rfl]
              omega
            · rw [if_neg a, if_neg c, hmid u a c]
              rfl
        have m : ∀ a : Int, 0 ≤ a → a < b → a ∈ selL (fun _ => true) b.toNat := fun a h0 h1 => by
          obtain ⟨j, rfl⟩ := Int.eq_ofNat_of_zero_le h0
          exact (selL_mem _ _ _).2 ⟨j, by omega, rfl, rfl⟩
        rw [e2, sum_add, sum_one _ (selL_nodup _ _), sum_one _ (selL_nodup _ _), if_pos (m _ hE.f0 hE.f1), if_pos (m _ hE.t0 hE.t1)] at hs
        omega
      refine ⟨he, ⟨hl, fun k hk => flS_in (h2 k hk)⟩, fun u => ?_, hp⟩
      by_cases a : u = from_
      · subst a
        rw [if_pos rfl, if_neg hE.ne]
        omega
      · by_cases c : u = to
        · subst c
          rw [if_neg a, if_pos rfl, hto]
          omega
        · rw [if_neg a, if_neg c, hmid u a c]
          rfl
    · refine .inl ?_
      unfold valB
      rw [if_pos hc]
      omega
  · refine .inl ?_
    unfold valB
    rw [if_neg hc]
def negL (fl : List Int) : List Int := fl.map fun x => -x
theorem negL_at (fl : List Int) (k : Nat) : at_ (negL fl) k = - at_ fl k := by
  unfold at_ negL
  simp only [List.getD_eq_getElem?_getD, List.getElem?_map]
  cases fl[k]? <;> simp
theorem outF_neg (fl : List Int) (u : Int) (k : Nat) : outF ls (negL fl) u k = - outF ls fl u k := by
  induction k with
  | zero => rfl
  | succ k ih =>
    rw [outF, outF, ih, negL_at]
    split
    · omega
    · split <;> omega
theorem Flo.neg {fl : List Int} {v : Int} (h : Flo b ls os from_ to fl v) : Flo b ls os to from_ (negL fl) v := by
  refine ⟨⟨by simp [negL, h.ok.1], fun k hk => ?_⟩, fun u => ?_, h.pos⟩
  · have hk2 := h.ok.2 k hk
    rw [negL_at]
    exact ⟨by omega, fun ho => by rw [hk2.2 ho]; rfl⟩
  · rw [outF_neg, h.out u]
    omega
end

end Go.Proofs.YtijnahflfbjgiaaDoor
