/-
  Readings of a radial network: what is left at the buses, and which reading can be mended. Plain definitions and lemmas.
-/
import Derived.Test.YtbebhbcjdiahcaaDoorParent
namespace Go.Proofs.YtbebhbcjdiahcaaDoor
open Go.RowKit
set_option linter.unusedVariables false

/-- Line k ends at bus x. -/
def incB (ls : List (Int × Int × Int)) (x : Int) (k : Nat) : Bool := decide ((at3 ls k).1 = x) || decide ((at3 ls k).2.1 = x)
/-- The readings of the lines before k that are on and end at a bus. -/
def incS (ls : List (Int × Int × Int)) (on : List Bool) (rs : List Int) (x : Int) : Nat → Int
  | 0 => 0
  | k + 1 => incS ls on rs x k + (if atB on k = true ∧ incB ls x k = true then at_ rs k else 0)
/-- .. but that of line p. -/
def incO (ls : List (Int × Int × Int)) (on : List Bool) (rs : List Int) (x p : Int) : Nat → Int
  | 0 => 0
  | k + 1 => incO ls on rs x p k + (if atB on k = true ∧ incB ls x k = true ∧ ¬ (k : Int) = p then at_ rs k else 0)
theorem incO_eq (ls : List (Int × Int × Int)) (on : List Bool) (rs : List Int) (x : Int) (p : Nat) (ho : atB on p = true) (hi : incB ls x p = true) : ∀ k, incO ls on rs x p k = incS ls on rs x k - (if p < k then at_ rs p else 0)
  | 0 => by simp [incO, incS]
  | k + 1 => by
    simp only [incO, incS, incO_eq ls on rs x p ho hi k]
    by_cases hk : k = p
    · subst hk
      rw [if_pos (show atB on k = true ∧ incB ls x k = true from ⟨ho, hi⟩), if_neg (show ¬ (atB on k = true ∧ incB ls x k = true ∧ ¬ (k : Int) = (k : Int)) from fun h => h.2.2 rfl), if_neg (by omega), if_pos (by omega)]
      omega
    · have e : (atB on k = true ∧ incB ls x k = true ∧ ¬ (k : Int) = (p : Int)) ↔ (atB on k = true ∧ incB ls x k = true) := ⟨fun h => ⟨h.1, h.2.1⟩, fun h => ⟨h.1, h.2, by omega⟩⟩
      by_cases hc : atB on k = true ∧ incB ls x k = true
      · rw [if_pos (e.2 hc), if_pos hc]
        by_cases hp : p < k
        · rw [if_pos hp, if_pos (by omega)]; omega
        · rw [if_neg hp, if_neg (by omega)]; omega
      · rw [if_neg (fun h => hc (e.1 h)), if_neg hc]
        by_cases hp : p < k
        · rw [if_pos hp, if_pos (by omega)]; omega
        · rw [if_neg hp, if_neg (by omega)]; omega
/-- Readings that are valid. -/
def rdB (n : Nat) (rs : List Int) : Bool := decide (rs.length = n) && decide (∀ j, j < rs.length → inB (at_ rs j) 0 15984 = true)
theorem rdB_true {n : Nat} {rs : List Int} (h : rdB n rs = true) : rs.length = n ∧ ∀ j, j < rs.length → 0 ≤ at_ rs j ∧ at_ rs j ≤ 15984 := by
  simp only [rdB, Bool.and_eq_true, decide_eq_true_eq] at h
  exact ⟨h.1, fun j hj => inB_true (h.2 j hj)⟩
theorem rdB_len {n : Nat} {rs : List Int} (h : ¬ rs.length = n) : rdB n rs = false := by simp [rdB, h]
theorem rdB_no {n : Nat} {rs : List Int} (k : Nat) (hk : k < rs.length) (h : inB (at_ rs k) 0 15984 = false) : rdB n rs = false := by
  have : decide (∀ j, j < rs.length → inB (at_ rs j) 0 15984 = true) = false := decide_eq_false fun hh => by rw [hh k hk] at h; cases h
  unfold rdB
  rw [this, Bool.and_false]
theorem rdB_yes {n : Nat} {rs : List Int} (hl : rs.length = n) (h : ∀ j, j < rs.length → inB (at_ rs j) 0 15984 = true) : rdB n rs = true := by
  unfold rdB
  rw [decide_eq_true hl, decide_eq_true h]; rfl
theorem incS_in {n : Nat} {ls : List (Int × Int × Int)} {on : List Bool} {rs : List Int} (h : rdB n rs = true) (x : Int) : ∀ k, k ≤ n → 0 ≤ incS ls on rs x k ∧ incS ls on rs x k ≤ 15984 * k
  | 0, _ => by simp [incS]
  | k + 1, hk => by
    have ih := incS_in (ls := ls) (on := on) h x k (by omega)
    obtain ⟨h1, h2⟩ := rdB_true h
    have := h2 k (by omega)
    simp only [incS]
    split <;> omega
/-- What is left at a bus. -/
def resF (ls : List (Int × Int × Int)) (on : List Bool) (bs : List (Int × Int)) (rs ps : List Int) (x : Nat) : Int :=
  if at_ ps x < 0 then 0 else 2 * at_ rs (at_ ps x).toNat - (at2 bs x).2 - incS ls on rs x ls.length
def resL (ls : List (Int × Int × Int)) (on : List Bool) (bs : List (Int × Int)) (rs ps : List Int) : List Int := (List.range bs.length).map fun x => resF ls on bs rs ps x
theorem resL_len (ls : List (Int × Int × Int)) (on : List Bool) (bs : List (Int × Int)) (rs ps : List Int) : (resL ls on bs rs ps).length = bs.length := by simp [resL]
theorem resL_at {ls : List (Int × Int × Int)} {on : List Bool} {bs : List (Int × Int)} {rs ps : List Int} {x : Nat} (h : x < bs.length) : at_ (resL ls on bs rs ps) x = resF ls on bs rs ps x := by simp [at_, resL, h]
/-- The line through which a bus is fed is on and ends there. -/
theorem PL.inc {ls : List (Int × Int × Int)} {on : List Bool} {bs : List (Int × Int)} {ps : List Int} (h : PL ls on bs ps) {x : Nat} (hx : x < bs.length) (h0 : 0 ≤ at_ ps x) : (at_ ps x).toNat < ls.length ∧ atB on (at_ ps x).toNat = true ∧ incB ls x (at_ ps x).toNat = true := by
  obtain ⟨_, hk, ho, o, f, he, _⟩ := h.par x hx h0
  refine ⟨hk, ho, ?_⟩
  unfold incB
  rcases he with ⟨h1, _⟩ | ⟨_, h1⟩
  · rw [decide_eq_true h1]; rfl
  · rw [decide_eq_true h1, Bool.or_true]
theorem resF_spec {ls : List (Int × Int × Int)} {on : List Bool} {bs : List (Int × Int)} {rs ps : List Int} (h : PL ls on bs ps) {x : Nat} (hx : x < bs.length) (h0 : 0 ≤ at_ ps x) : resF ls on bs rs ps x = at_ rs (at_ ps x).toNat - (at2 bs x).2 - incO ls on rs x (at_ ps x) ls.length := by
  obtain ⟨h1, h2, h3⟩ := h.inc hx h0
  have := incO_eq ls on rs x (at_ ps x).toNat h2 h3 ls.length
  rw [if_pos h1, show (((at_ ps x).toNat : Nat) : Int) = at_ ps x by omega] at this
  unfold resF
  rw [if_neg (by omega), this]
  omega
theorem resF_in {nb : Nat} {ls : List (Int × Int × Int)} {on : List Bool} {bs : List (Int × Int)} {rs ps : List Int} (hl : ls.length ≤ 10) (hr : rdB ls.length rs = true) (hb : ∀ j, j < bs.length → busOk (at2 bs j) = true) (h : PL ls on bs ps) {x : Nat} (hx : x < bs.length) : -200000 ≤ resF ls on bs rs ps x ∧ resF ls on bs rs ps x ≤ 200000 := by
  unfold resF
  split
  · omega
  · rename_i h0
    obtain ⟨h1, h2, h3⟩ := h.inc hx (by omega)
    have i1 := incS_in (ls := ls) (on := on) hr x ls.length (Nat.le_refl _)
    have i2 := (rdB_true hr).2 (at_ ps x).toNat (by rw [(rdB_true hr).1]; exact h1)
    have i3 := hb x hx
    simp only [busOk, Bool.and_eq_true] at i3
    have i4 := inB_true i3.2
    omega
/-- Nothing is left. -/
def zeroL (l : List Int) : Bool := decide (∀ j, j < l.length → at_ l j = 0)
theorem zeroL_no {l : List Int} (k : Nat) (hk : k < l.length) (h : ¬ at_ l k = 0) : zeroL l = false := decide_eq_false fun hh => h (hh k hk)
theorem zeroL_yes {l : List Int} (h : ∀ j, j < l.length → at_ l j = 0) : zeroL l = true := decide_eq_true h
/-- The readings with that of one line mended. -/
def tryL (ls : List (Int × Int × Int)) (on : List Bool) (bs : List (Int × Int)) (rs ps : List Int) (k : Nat) : List Int :=
  if idxF ps k < 0 then rs else rs.set k (at_ rs k - resF ls on bs rs ps (idxF ps k).toNat)
def goodB (ls : List (Int × Int × Int)) (on : List Bool) (bs : List (Int × Int)) (rs ps : List Int) (k : Nat) : Bool :=
  rdB ls.length (tryL ls on bs rs ps k) && zeroL (resL ls on bs (tryL ls on bs rs ps k) ps)
/-- The first line whose reading can be mended. -/
def FirstG (ls : List (Int × Int × Int)) (on : List Bool) (bs : List (Int × Int)) (rs ps : List Int) (x : Int) : Prop :=
  (∃ k : Nat, k < ls.length ∧ x = k ∧ goodB ls on bs rs ps k = true ∧ ∀ j, j < k → goodB ls on bs rs ps j = false) ∨ (x = -1 ∧ ∀ j, j < ls.length → goodB ls on bs rs ps j = false)
theorem FirstG.unique {ls : List (Int × Int × Int)} {on : List Bool} {bs : List (Int × Int)} {rs ps : List Int} {x y : Int} (h : FirstG ls on bs rs ps x) (g : FirstG ls on bs rs ps y) : x = y := by
  rcases h with ⟨k, h1, rfl, h3, h4⟩ | ⟨rfl, h1⟩ <;> rcases g with ⟨j, g1, rfl, g3, g4⟩ | ⟨rfl, g1⟩
  · rcases Nat.lt_trichotomy k j with hl | hl | hl
    · rw [g4 k hl] at h3; cases h3
    · rw [hl]
    · rw [h4 j hl] at g3; cases g3
  · rw [g1 k h1] at h3; cases h3
  · rw [h1 j g1] at g3; cases g3
  · rfl
/-- Arguments that are valid. -/
noncomputable def okB (b : Int) (ls : List (Int × Int × Int)) (on : List Bool) (bs : List (Int × Int)) (rs : List Int) : Bool := radB b ls on bs && rdB ls.length rs
/-- What is left at all buses. -/
def ResR (b : Int) (ls : List (Int × Int × Int)) (on : List Bool) (bs : List (Int × Int)) (rs : List Int) (r : List Int) : Prop :=
  (okB b ls on bs rs = false ∧ r = []) ∨ (okB b ls on bs rs = true ∧ ∃ ps, PL ls on bs ps ∧ r = resL ls on bs rs ps)
theorem resL_same {ls : List (Int × Int × Int)} {on : List Bool} {bs : List (Int × Int)} {rs ps qs : List Int} (h : PL ls on bs ps) (g : PL ls on bs qs) (hc : ¬ Cyc ls (onP on)) (ho : OneF ls on bs) : resL ls on bs rs ps = resL ls on bs rs qs :=
  same_of_at (by rw [resL_len, resL_len]) fun j hj => by
    rw [resL_len] at hj
    rw [resL_at hj, resL_at hj]
    unfold resF
    rcases h.same g hc ho hj with ⟨h1, h2⟩ | ⟨h1, h2⟩
    · rw [if_pos h1, if_pos h2]
    · rw [if_neg (by omega), if_neg (by omega), h2]
theorem okB_true {b : Int} {ls : List (Int × Int × Int)} {on : List Bool} {bs : List (Int × Int)} {rs : List Int} (h : okB b ls on bs rs = true) : radB b ls on bs = true ∧ rdB ls.length rs = true := by
  simpa [okB] using h
theorem ResR.unique {b : Int} {ls : List (Int × Int × Int)} {on : List Bool} {bs : List (Int × Int)} {rs r r' : List Int} (h : ResR b ls on bs rs r) (g : ResR b ls on bs rs r') : r = r' := by
  rcases h with ⟨h1, rfl⟩ | ⟨h1, ps, h2, rfl⟩ <;> rcases g with ⟨g1, rfl⟩ | ⟨g1, qs, g2, rfl⟩
  · rfl
  · rw [h1] at g1; cases g1
  · rw [h1] at g1; cases g1
  · obtain ⟨_, hc, ho⟩ := (radB_iff _ _ _ _).1 (okB_true h1).1
    exact resL_same h2 g2 hc ho
theorem resF_same {ls : List (Int × Int × Int)} {on : List Bool} {bs : List (Int × Int)} {rs ps qs : List Int} (h : PL ls on bs ps) (g : PL ls on bs qs) (hc : ¬ Cyc ls (onP on)) (ho : OneF ls on bs) {x : Nat} (hx : x < bs.length) : resF ls on bs rs ps x = resF ls on bs rs qs x := by
  rw [← resL_at (ls := ls) (on := on) (rs := rs) (ps := ps) hx, resL_same h g hc ho, resL_at hx]
/-- A line through which a bus is fed stands at the same place of both lists. -/
theorem idxF_cases (xs : List Int) (x : Int) : (idxF xs x = -1 ∧ ∀ j, j < xs.length → at_ xs j ≠ x) ∨ ∃ k : Nat, k < xs.length ∧ idxF xs x = k ∧ at_ xs k = x ∧ ∀ j, j < k → at_ xs j ≠ x := by
  induction xs with
  | nil => exact .inl ⟨rfl, fun j hj => absurd hj (by simp)⟩
  | cons a t ih =>
    by_cases ha : a = x
    · exact .inr ⟨0, by simp, idxF_at 0 (by simp) (by simpa [at_] using ha) (fun j hj => absurd hj (by omega)), by simpa [at_] using ha, fun j hj => absurd hj (by omega)⟩
    · rcases ih with ⟨h1, h2⟩ | ⟨k, h1, h2, h3, h4⟩
      · have hn : ∀ j, j < (a :: t).length → at_ (a :: t) j ≠ x := fun j hj => by
          cases j with
          | zero => simpa [at_] using ha
          | succ j => have := h2 j (by simpa using hj); simpa [at_] using this
        exact .inl ⟨idxF_none hn, hn⟩
      · have hn : ∀ j, j < k + 1 → at_ (a :: t) j ≠ x := fun j hj => by
          cases j with
          | zero => simpa [at_] using ha
          | succ j => have := h4 j (by omega); simpa [at_] using this
        have he : at_ (a :: t) (k + 1) = x := by simpa [at_] using h3
        exact .inr ⟨k + 1, by simpa using h1, idxF_at (k + 1) (by simpa using h1) he hn, he, hn⟩
theorem idxF_same {ls : List (Int × Int × Int)} {on : List Bool} {bs : List (Int × Int)} {ps qs : List Int} (h : PL ls on bs ps) (g : PL ls on bs qs) (hc : ¬ Cyc ls (onP on)) (ho : OneF ls on bs) (k : Nat) : idxF ps k = idxF qs k := by
  have key : ∀ j, j < bs.length → (at_ ps j = k ↔ at_ qs j = k) := fun j hj => by
    rcases h.same g hc ho hj with ⟨h1, h2⟩ | ⟨h1, h2⟩ <;> omega
  rcases idxF_cases ps k with ⟨h1, h2⟩ | ⟨j, h1, h2, h3, h4⟩
  · rw [h1]
    exact (idxF_none fun j hj => fun he => h2 j (by rw [h.len]; rw [g.len] at hj; exact hj) ((key j (by rw [g.len] at hj; exact hj)).2 he)).symm
  · rw [h2]
    rw [h.len] at h1
    exact (idxF_at j (by rw [g.len]; exact h1) ((key j h1).1 h3) fun i hi he => h4 i hi ((key i (by omega)).2 he)).symm
theorem tryL_same {ls : List (Int × Int × Int)} {on : List Bool} {bs : List (Int × Int)} {rs ps qs : List Int} (h : PL ls on bs ps) (g : PL ls on bs qs) (hc : ¬ Cyc ls (onP on)) (ho : OneF ls on bs) (k : Nat) : tryL ls on bs rs ps k = tryL ls on bs rs qs k := by
  unfold tryL
  rw [← idxF_same h g hc ho k]
  rcases idxF_cases ps k with ⟨h1, h2⟩ | ⟨j, h1, h2, h3, h4⟩
  · rw [h1]; rfl
  · rw [h2, Int.toNat_natCast, resF_same h g hc ho (by rw [← h.len]; exact h1)]
theorem goodB_same {ls : List (Int × Int × Int)} {on : List Bool} {bs : List (Int × Int)} {rs ps qs : List Int} (h : PL ls on bs ps) (g : PL ls on bs qs) (hc : ¬ Cyc ls (onP on)) (ho : OneF ls on bs) (k : Nat) : goodB ls on bs rs ps k = goodB ls on bs rs qs k := by
  unfold goodB
  rw [tryL_same h g hc ho, resL_same h g hc ho]
/-- Which line's reading can be mended. -/
def BadR (b : Int) (ls : List (Int × Int × Int)) (on : List Bool) (bs : List (Int × Int)) (rs : List Int) (x : Int) : Prop :=
  (okB b ls on bs rs = false ∧ x = -1) ∨ (okB b ls on bs rs = true ∧ ∃ ps, PL ls on bs ps ∧ ((zeroL (resL ls on bs rs ps) = true ∧ x = -1) ∨ (zeroL (resL ls on bs rs ps) = false ∧ FirstG ls on bs rs ps x)))
theorem FirstG.same {ls : List (Int × Int × Int)} {on : List Bool} {bs : List (Int × Int)} {rs ps qs : List Int} {x : Int} (h : PL ls on bs ps) (g : PL ls on bs qs) (hc : ¬ Cyc ls (onP on)) (ho : OneF ls on bs) (hf : FirstG ls on bs rs ps x) : FirstG ls on bs rs qs x := by
  unfold FirstG at hf ⊢
  simpa only [goodB_same h g hc ho] using hf
theorem BadR.unique {b : Int} {ls : List (Int × Int × Int)} {on : List Bool} {bs : List (Int × Int)} {rs : List Int} {x y : Int} (h : BadR b ls on bs rs x) (g : BadR b ls on bs rs y) : x = y := by
  rcases h with ⟨h1, rfl⟩ | ⟨h1, ps, h2, h3⟩ <;> rcases g with ⟨g1, rfl⟩ | ⟨g1, qs, g2, g3⟩
  · rfl
  · rw [h1] at g1; cases g1
  · rw [h1] at g1; cases g1
  · obtain ⟨_, hc, ho⟩ := (radB_iff _ _ _ _).1 (okB_true h1).1
    rw [← resL_same h2 g2 hc ho] at g3
    rcases h3 with ⟨h3, rfl⟩ | ⟨h3, h4⟩ <;> rcases g3 with ⟨g3, rfl⟩ | ⟨g3, g4⟩
    · rfl
    · rw [h3] at g3; cases g3
    · rw [h3] at g3; cases g3
    · exact h4.unique (g4.same g2 h2 hc ho)
/-- Mended readings, and whether there are any. -/
def MendR (b : Int) (ls : List (Int × Int × Int)) (on : List Bool) (bs : List (Int × Int)) (rs : List Int) (r : List Int) (t : Bool) : Prop :=
  (okB b ls on bs rs = false ∧ r = [] ∧ t = false) ∨ (okB b ls on bs rs = true ∧ ∃ ps, PL ls on bs ps ∧ ((zeroL (resL ls on bs rs ps) = true ∧ r = rs ∧ t = true) ∨
    (zeroL (resL ls on bs rs ps) = false ∧ ∃ x, FirstG ls on bs rs ps x ∧ ((x = -1 ∧ r = [] ∧ t = false) ∨ (0 ≤ x ∧ r = tryL ls on bs rs ps x.toNat ∧ t = true)))))
theorem MendR.unique {b : Int} {ls : List (Int × Int × Int)} {on : List Bool} {bs : List (Int × Int)} {rs r r' : List Int} {t t' : Bool} (h : MendR b ls on bs rs r t) (g : MendR b ls on bs rs r' t') : r = r' ∧ t = t' := by
  rcases h with ⟨h1, rfl, rfl⟩ | ⟨h1, ps, h2, h3⟩ <;> rcases g with ⟨g1, rfl, rfl⟩ | ⟨g1, qs, g2, g3⟩
  · exact ⟨rfl, rfl⟩
  · rw [h1] at g1; cases g1
  · rw [h1] at g1; cases g1
  · obtain ⟨_, hc, ho⟩ := (radB_iff _ _ _ _).1 (okB_true h1).1
    rw [← resL_same h2 g2 hc ho] at g3
    rcases h3 with ⟨h3, rfl, rfl⟩ | ⟨h3, x, h4, h5⟩ <;> rcases g3 with ⟨g3, rfl, rfl⟩ | ⟨g3, y, g4, g5⟩
    · exact ⟨rfl, rfl⟩
    · rw [h3] at g3; cases g3
    · rw [h3] at g3; cases g3
    · obtain rfl := h4.unique (g4.same g2 h2 hc ho)
      rcases h5 with ⟨h5, rfl, rfl⟩ | ⟨h5, rfl, rfl⟩ <;> rcases g5 with ⟨g5, rfl, rfl⟩ | ⟨g5, rfl, rfl⟩
      · exact ⟨rfl, rfl⟩
      · omega
      · omega
      · exact ⟨tryL_same h2 g2 hc ho _, rfl⟩

end Go.Proofs.YtbebhbcjdiahcaaDoor
