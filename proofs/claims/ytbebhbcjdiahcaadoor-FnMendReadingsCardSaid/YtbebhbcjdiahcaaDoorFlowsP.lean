/-
  Flows of a radial network, in one pass from the ends to the feeds. Plain definitions and lemmas.
-/
import Derived.Test.YtbebhbcjdiahcaaDoorRank
import Derived.Test.YtbebhbcjdiahcaaDoorTreeOf
namespace Go.Proofs.YtbebhbcjdiahcaaDoor
open Go.RowKit
set_option linter.unusedVariables false

/-- A sum over the first n numbers. -/
def sumF (f : Nat → Int) : Nat → Int
  | 0 => 0
  | n + 1 => sumF f n + f n
theorem sumF_same {f g : Nat → Int} : ∀ n, (∀ x, x < n → f x = g x) → sumF f n = sumF g n
  | 0, _ => rfl
  | n + 1, h => by simp only [sumF]; rw [sumF_same n fun x hx => h x (by omega), h n (by omega)]
theorem sumF_upd {f g : Nat → Int} {y : Nat} : ∀ n, y < n → (∀ x, x < n → x ≠ y → g x = f x) → sumF g n = sumF f n - f y + g y
  | 0, hy, _ => by omega
  | n + 1, hy, h => by
    simp only [sumF]
    by_cases hyn : y = n
    · subst hyn
      rw [sumF_same y fun x hx => h x (by omega) (by omega)]
      omega
    · rw [sumF_upd n (by omega) fun x hx => h x (by omega), h n (by omega) (fun e => hyn e.symm)]
      omega
theorem sumF_ge {f : Nat → Int} : ∀ n, (∀ x, x < n → 0 ≤ f x) → 0 ≤ sumF f n ∧ ∀ x, x < n → f x ≤ sumF f n
  | 0, _ => ⟨Int.le_refl _, fun x hx => by omega⟩
  | n + 1, h => by
    obtain ⟨h1, h2⟩ := sumF_ge n fun x hx => h x (by omega)
    have := h n (by omega)
    refine ⟨by simp only [sumF]; omega, fun x hx => ?_⟩
    simp only [sumF]
    by_cases hxn : x = n
    · subst hxn; omega
    · have := h2 x (by omega); omega
theorem sumF_zero : ∀ n, sumF (fun _ => 0) n = 0
  | 0 => rfl
  | n + 1 => by simp only [sumF]; rw [sumF_zero n]; rfl

section
variable {ls : List (Int × Int × Int)} {on : List Bool} {bs : List (Int × Int)} {nb : Nat} {ps ord : List Int}
theorem incO_set {fl : List Int} {k : Nat} {v x p : Int} (hk : k < fl.length) : ∀ n, incO ls on (fl.set k v) x p n = incO ls on fl x p n + (if k < n ∧ atB on k = true ∧ incB ls x k = true ∧ ¬ (k : Int) = p then v - at_ fl k else 0)
  | 0 => by simp [incO]
  | n + 1 => by
    simp only [incO]
    rw [incO_set hk n, at_setN fl k n v hk]
    by_cases hkn : n = k
    · subst hkn
      rw [if_pos rfl, if_neg (show ¬ (n < n ∧ atB on n = true ∧ incB ls x n = true ∧ ¬ (n : Int) = p) from fun h => by omega)]
      by_cases hc : atB on n = true ∧ incB ls x n = true ∧ ¬ (n : Int) = p
      · rw [if_pos hc, if_pos hc, if_pos ⟨by omega, hc⟩]; omega
      · rw [if_neg hc, if_neg hc, if_neg fun h => hc h.2]
    · rw [if_neg hkn]
      generalize (if atB on n = true ∧ incB ls x n = true ∧ ¬ (n : Int) = p then at_ fl n else 0) = T
      by_cases hc : k < n ∧ atB on k = true ∧ incB ls x k = true ∧ ¬ (k : Int) = p
      · rw [if_pos hc, if_pos (show k < n + 1 ∧ atB on k = true ∧ incB ls x k = true ∧ ¬ (k : Int) = p from ⟨by omega, hc.2⟩)]; omega
      · rw [if_neg hc, if_neg (show ¬ (k < n + 1 ∧ atB on k = true ∧ incB ls x k = true ∧ ¬ (k : Int) = p) from fun h => hc ⟨by omega, h.2⟩)]; omega
/-- Bus x stands at place i or behind it. -/
def DoneP (ord : List Int) (i : Nat) (x : Nat) : Prop := ∃ j, i ≤ j ∧ j < ord.length ∧ at_ ord j = x
open Classical in
/-- The flows and what is wanted, when the buses from place i on have been looked at. -/
structure FL (ls : List (Int × Int × Int)) (on : List Bool) (bs : List (Int × Int)) (ps ord : List Int) (i : Nat) (fl wt : List Int) : Prop where
  lf : fl.length = ls.length
  lw : wt.length = bs.length
  val : ∀ x : Nat, x < bs.length → at_ wt x = (if DoneP ord i x then (at2 bs x).2 else 0) + incO ls on fl x (at_ ps x) ls.length
  set : ∀ x : Nat, x < bs.length → DoneP ord i x → 0 ≤ at_ ps x → at_ fl (at_ ps x).toNat = at_ wt x
  zer : ∀ k : Nat, k < ls.length → (∀ x : Nat, x < bs.length → DoneP ord i x → ¬ at_ ps x = k) → at_ fl k = 0
  pos : ∀ x, x < bs.length → 0 ≤ at_ wt x
  frg : ∀ k, k < ls.length → 0 ≤ at_ fl k ∧ at_ fl k ≤ 7992
  bnd : sumF (fun x => if DoneP ord i x then 0 else at_ wt x) bs.length ≤ 999 * ((ord.length : Int) - i)
theorem zeros_at (n x : Nat) : at_ (List.replicate n (0 : Int)) x = 0 := by
  unfold at_
  by_cases h : x < n
  · simp [h]
  · simp [h]
theorem incO_zero (n : Nat) (x p : Int) : ∀ k, incO ls on (List.replicate n 0) x p k = 0
  | 0 => rfl
  | k + 1 => by simp only [incO]; rw [incO_zero n x p k, zeros_at]; simp
theorem FL.start : FL ls on bs ps ord ord.length (List.replicate ls.length 0) (List.replicate bs.length 0) := by
  have hn : ∀ x, ¬ DoneP ord ord.length x := fun x ⟨j, h1, h2, _⟩ => by omega
  refine ⟨by simp, by simp, fun x hx => ?_, fun x hx hd => absurd hd (hn x), fun k hk _ => zeros_at _ _, fun x hx => by rw [zeros_at]; omega, fun k hk => by rw [zeros_at]; omega, ?_⟩
  · rw [zeros_at, if_neg (hn x), incO_zero]; rfl
  · rw [sumF_same (g := fun _ => 0) bs.length fun x hx => by rw [if_neg (hn x), zeros_at], sumF_zero]
    omega
theorem doneP_succ {i x y : Nat} (hi : i < ord.length) (hy : at_ ord i = y) : DoneP ord i x ↔ x = y ∨ DoneP ord (i + 1) x := by
  constructor
  · rintro ⟨j, h1, h2, h3⟩
    by_cases hji : j = i
    · subst hji; left; omega
    · exact .inr ⟨j, by omega, h2, h3⟩
  · rintro (rfl | ⟨j, h1, h2, h3⟩)
    · exact ⟨i, Nat.le_refl _, hi, hy⟩
    · exact ⟨j, by omega, h2, h3⟩
theorem nodup_at {l : List Int} (h : l.Nodup) {i j : Nat} (hi : i < l.length) (hj : j < l.length) (he : at_ l i = at_ l j) : i = j := by
  rw [at_eq l i hi, at_eq l j hj] at he
  rcases Nat.lt_trichotomy i j with hl | hl | hl
  · exact absurd he (List.pairwise_iff_getElem.1 h i j hi hj hl)
  · exact hl
  · exact absurd he.symm (List.pairwise_iff_getElem.1 h j i hj hi hl)
theorem not_done {i y : Nat} (hn : ord.Nodup) (hi : i < ord.length) (hy : at_ ord i = y) : ¬ DoneP ord (i + 1) y := by
  rintro ⟨j, h1, h2, h3⟩
  have := nodup_at hn hi h2 (by omega)
  omega
theorem FL.small {i y : Nat} {fl wt : List Int} (h : FL ls on bs ps ord (i + 1) fl wt) (hn : ord.Nodup) (hi : i < ord.length) (hy : at_ ord i = y) (hyb : y < bs.length) : at_ wt y ≤ 999 * ((ord.length : Int) - (i + 1 : Nat)) := by
  have := (sumF_ge (f := fun x => @ite _ (DoneP ord (i + 1) x) (Classical.propDecidable _) (0 : Int) (at_ wt x)) bs.length fun x hx => by
    by_cases hd : DoneP ord (i + 1) x
    · simp [hd]
    · simp [hd]; exact h.pos x hx).2 y hyb
  rw [if_neg (not_done hn hi hy)] at this
  have := h.bnd
  omega
theorem FL.feed {i y : Nat} {fl wt : List Int} (h : FL ls on bs ps ord (i + 1) fl wt) (hn : ord.Nodup) (hi : i < ord.length) (hy : at_ ord i = y) (hyb : y < bs.length) (hl : 0 ≤ (at2 bs y).2 ∧ (at2 bs y).2 ≤ 999) (hp : at_ ps y < 0) :
    FL ls on bs ps ord i fl (wt.set y (at_ wt y + (at2 bs y).2)) := by
  have nd := not_done hn hi hy
  have ds := fun x => doneP_succ (ord := ord) (x := x) hi hy
  have key : ∀ z, at_ (wt.set y (at_ wt y + (at2 bs y).2)) z = if z = y then at_ wt y + (at2 bs y).2 else at_ wt z := fun z => at_setN wt y z _ (by rw [h.lw]; exact hyb)
  refine ⟨h.lf, by rw [List.length_set]; exact h.lw, fun x hx => ?_, fun x hx hd h0 => ?_, fun k hk hz => ?_, fun x hx => ?_, h.frg, ?_⟩
  · rw [key]
    by_cases hxy : x = y
    · subst hxy
      have := h.val x hx
      rw [if_neg nd] at this
      rw [if_pos rfl, if_pos ((ds x).2 (.inl rfl))]
      omega
    · rw [if_neg hxy, h.val x hx]
      by_cases hd : DoneP ord (i + 1) x
      · rw [if_pos hd, if_pos ((ds x).2 (.inr hd))]
      · rw [if_neg hd, if_neg fun hh => ((ds x).1 hh).elim hxy hd]
  · rw [key]
    rcases (ds x).1 hd with rfl | hd
    · omega
    · by_cases hxy : x = y
      · subst hxy; omega
      · rw [if_neg hxy]; exact h.set x hx hd h0
  · exact h.zer k hk fun x hx hd => hz x hx ((ds x).2 (.inr hd))
  · rw [key]
    split
    · have := h.pos y hyb; omega
    · exact h.pos x hx
  · have e := sumF_upd (f := fun x => @ite _ (DoneP ord (i + 1) x) (Classical.propDecidable _) (0 : Int) (at_ wt x)) (g := fun x => @ite _ (DoneP ord i x) (Classical.propDecidable _) (0 : Int) (at_ (wt.set y (at_ wt y + (at2 bs y).2)) x)) (y := y) bs.length hyb (fun x hx hxy => by
      by_cases hd : DoneP ord (i + 1) x
      · simp only [if_pos hd, if_pos ((ds x).2 (.inr hd))]
      · simp only [if_neg hd, if_neg (fun hh => ((ds x).1 hh).elim hxy hd), key, if_neg hxy])
    rw [e, if_neg nd, if_pos ((ds y).2 (.inl rfl))]
    have := h.bnd
    have := h.pos y hyb
    omega
theorem FL.push {i y u k : Nat} {fl wt : List Int} (hp : PL ls on bs ps) (hc : ¬ Cyc ls (onP on)) (ho : OneF ls on bs) (h : FL ls on bs ps ord (i + 1) fl wt) (hor : OrdR ls bs ps ord) (hol : ord.length ≤ 8) (hi : i < ord.length) (hy : at_ ord i = y) (hyb : y < bs.length) (hub : u < bs.length) (hl : 0 ≤ (at2 bs y).2 ∧ (at2 bs y).2 ≤ 999) (hk : at_ ps y = k) (he : Ends ls k u y) (huy : u ≠ y) :
    FL ls on bs ps ord i (fl.set k (at_ wt y + (at2 bs y).2)) ((wt.set y (at_ wt y + (at2 bs y).2)).set u (at_ wt u + (at_ wt y + (at2 bs y).2))) := by
  have nd := not_done hor.nod hi hy
  have ds := fun x => doneP_succ (ord := ord) (x := x) hi hy
  have sm := h.small hor.nod hi hy hyb
  obtain ⟨i1, i2, i3⟩ := hp.inc hyb (show 0 ≤ at_ ps y by omega)
  rw [hk, Int.toNat_natCast] at i1 i2 i3
  have hu : ¬ DoneP ord i u := by
    rintro ⟨j, h1, h2, h3⟩
    obtain ⟨q, x, h4, h5, h6⟩ := hor.bk i y hi hy (by omega)
    rw [hk, Int.toNat_natCast] at h6
    have : x = u := by rcases he with ⟨a1, a2⟩ | ⟨a1, a2⟩ <;> rcases h6 with ⟨b1, b2⟩ | ⟨b1, b2⟩ <;> omega
    subst this
    have := nodup_at hor.nod (show q < ord.length by omega) h2 (by omega)
    omega
  have hu1 : ¬ DoneP ord (i + 1) u := fun hd => hu ((ds u).2 (.inr hd))
  have key : ∀ z, at_ ((wt.set y (at_ wt y + (at2 bs y).2)).set u (at_ wt u + (at_ wt y + (at2 bs y).2))) z = if z = u then at_ wt u + (at_ wt y + (at2 bs y).2) else if z = y then at_ wt y + (at2 bs y).2 else at_ wt z := fun z => by
    rw [at_setN _ u z _ (by rw [List.length_set, h.lw]; exact hub), at_setN wt y z _ (by rw [h.lw]; exact hyb)]
  have keyf : ∀ z, at_ (fl.set k (at_ wt y + (at2 bs y).2)) z = if z = k then at_ wt y + (at2 bs y).2 else at_ fl z := fun z => at_setN fl k z _ (by rw [h.lf]; exact i1)
  have fk0 : at_ fl k = 0 := h.zer k i1 fun x hx hd hx2 => nd (by
    have := hp.inj hc ho hx hyb (by omega) (by omega)
    rw [← this]; exact hd)
  have inc := fun (x : Int) (p : Int) => incO_set (ls := ls) (on := on) (fl := fl) (k := k) (v := at_ wt y + (at2 bs y).2) (x := x) (p := p) (by rw [h.lf]; exact i1) ls.length
  have incu : incB ls u k = true := by
    unfold incB
    rcases he with ⟨a1, a2⟩ | ⟨a1, a2⟩
    · rw [decide_eq_true a1]; rfl
    · rw [decide_eq_true a2, Bool.or_true]
  have pu : ¬ (k : Int) = at_ ps u := fun e => huy (hp.inj hc ho hub hyb (by omega) (by omega))
  have py := h.pos y hyb
  have pu0 := h.pos u hub
  refine ⟨by rw [List.length_set]; exact h.lf, by rw [List.length_set, List.length_set]; exact h.lw, fun x hx => ?_, fun x hx hd h0 => ?_, fun z hz hzz => ?_, fun x hx => ?_, fun z hz => ?_, ?_⟩
  · rw [key, inc]
    by_cases hxu : x = u
    · subst hxu
      have := h.val x hx
      rw [if_neg hu1] at this
      rw [if_pos rfl, if_neg hu, if_pos ⟨i1, i2, incu, pu⟩]
      omega
    · rw [if_neg hxu]
      by_cases hxy : x = y
      · subst hxy
        have := h.val x hx
        rw [if_neg nd] at this
        rw [if_pos rfl, if_pos ((ds x).2 (.inl rfl)), if_neg (show ¬ (k < ls.length ∧ atB on k = true ∧ incB ls x k = true ∧ ¬ (k : Int) = at_ ps x) from fun hh => hh.2.2.2 hk.symm)]
        omega
      · have hni : ¬ incB ls x k = true := by
          unfold incB
          simp only [Bool.or_eq_true, decide_eq_true_eq]
          rcases he with ⟨a1, a2⟩ | ⟨a1, a2⟩ <;> omega
        rw [if_neg hxy, if_neg (show ¬ (k < ls.length ∧ atB on k = true ∧ incB ls x k = true ∧ ¬ (k : Int) = at_ ps x) from fun hh => hni hh.2.2.1), h.val x hx]
        by_cases hd : DoneP ord (i + 1) x
        · rw [if_pos hd, if_pos ((ds x).2 (.inr hd))]; omega
        · rw [if_neg hd, if_neg fun hh => ((ds x).1 hh).elim hxy hd]; omega
  · rw [key, keyf]
    have hxu : ¬ x = u := fun e => hu (e ▸ hd)
    rw [if_neg hxu]
    rcases (ds x).1 hd with rfl | hd1
    · rw [if_pos rfl, hk, Int.toNat_natCast, if_pos rfl]
    · by_cases hxy : x = y
      · subst hxy; exact absurd hd1 nd
      · rw [if_neg hxy]
        have : ¬ (at_ ps x).toNat = k := fun e => hxy (hp.inj hc ho hx hyb h0 (by omega))
        rw [if_neg this]
        exact h.set x hx hd1 h0
  · rw [keyf]
    have : ¬ z = k := fun e => hzz y hyb ((ds y).2 (.inl rfl)) (by omega)
    rw [if_neg this]
    exact h.zer z hz fun x hx hd => hzz x hx ((ds x).2 (.inr hd))
  · rw [key]
    split
    · omega
    · split
      · omega
      · exact h.pos x hx
  · rw [keyf]
    split
    · omega
    · exact h.frg z hz
  · have e1 := sumF_upd (f := fun x => @ite _ (DoneP ord (i + 1) x) (Classical.propDecidable _) (0 : Int) (at_ wt x)) (g := fun x => if x = y then 0 else @ite _ (DoneP ord (i + 1) x) (Classical.propDecidable _) (0 : Int) (at_ wt x)) (y := y) bs.length hyb (fun x hx hxy => by rw [if_neg hxy])
    have e2 := sumF_upd (f := fun x => if x = y then 0 else @ite _ (DoneP ord (i + 1) x) (Classical.propDecidable _) (0 : Int) (at_ wt x)) (g := fun x => @ite _ (DoneP ord i x) (Classical.propDecidable _) (0 : Int) (at_ ((wt.set y (at_ wt y + (at2 bs y).2)).set u (at_ wt u + (at_ wt y + (at2 bs y).2))) x)) (y := u) bs.length hub (fun x hx hxu => by
      by_cases hxy : x = y
      · subst hxy
        simp only [(ds x).2 (.inl rfl), if_true]
      · simp only [key, if_neg hxu, if_neg hxy]
        by_cases hd : DoneP ord (i + 1) x
        · rw [if_pos hd, if_pos ((ds x).2 (.inr hd))]
        · rw [if_neg hd, if_neg (fun hh => ((ds x).1 hh).elim hxy hd)])
    rw [e2, e1]
    simp only [key, if_true, if_neg nd, if_neg hu, if_neg hu1, if_neg huy]
    have := h.bnd
    omega
/-- The flows of the lines. -/
structure FlowG (ls : List (Int × Int × Int)) (on : List Bool) (bs : List (Int × Int)) (ps fl : List Int) : Prop where
  len : fl.length = ls.length
  rng : ∀ k, k < ls.length → 0 ≤ at_ fl k ∧ at_ fl k ≤ 7992
  zer : ∀ k : Nat, k < ls.length → (∀ x : Nat, x < bs.length → ¬ at_ ps x = k) → at_ fl k = 0
  res : zeroL (resL ls on bs fl ps) = true
theorem FL.done {fl wt : List Int} (hp : PL ls on bs ps) (h : FL ls on bs ps ord 0 fl wt) (hor : OrdR ls bs ps ord) : FlowG ls on bs ps fl := by
  have hd : ∀ x : Nat, x < bs.length → 0 ≤ at_ ps x → DoneP ord 0 x := fun x hx h0 => by
    obtain ⟨j, hj, he⟩ := List.mem_iff_getElem.1 (hor.all x hx h0)
    exact ⟨j, Nat.zero_le _, hj, by rw [at_eq ord j hj]; exact he⟩
  refine ⟨h.lf, h.frg, fun k hk hz => h.zer k hk fun x hx _ => hz x hx, zeroL_yes fun x hx => ?_⟩
  rw [resL_len] at hx
  rw [resL_at hx]
  by_cases h0 : 0 ≤ at_ ps x
  · rw [resF_spec hp hx h0, h.set x hx (hd x hx h0) h0, h.val x hx, if_pos (hd x hx h0)]
    omega
  · unfold resF; rw [if_pos (by omega)]
theorem FlowG.unique {fl fl' : List Int} (hv : netB nb ls = true) (hbn : bs.length = nb) (hp : PL ls on bs ps) (hc : ¬ Cyc ls (onP on)) (ho : OneF ls on bs) (h : FlowG ls on bs ps fl) (g : FlowG ls on bs ps fl') : fl = fl' :=
  same_of_at (h.len.trans g.len.symm) fun k hk => by
    rw [h.len] at hk
    by_cases hz : ∃ x : Nat, x < bs.length ∧ at_ ps x = k
    · obtain ⟨x, hx, hxk⟩ := hz
      have := res_unique hv hbn hp hc ho h.res g.res x hx (by omega)
      rwa [hxk, Int.toNat_natCast] at this
    · have hz' : ∀ x : Nat, x < bs.length → ¬ at_ ps x = k := fun x hx he => hz ⟨x, hx, he⟩
      rw [h.zer k hk hz', g.zer k hk hz']
end

end Go.Proofs.YtbebhbcjdiahcaaDoor
