/-
  How the arguments of this seat's laws are opened: slices of numbers, of truths, of structs of numbers, as lists. Plain lemmas, no function of the program.
-/
import Derived.Test.YtbebhbcjdiahcaaDoorBase
import Derived.ProofKit
import Derived.OpenShut
import Derived.ShutString
import Derived.ChangeOld
import Derived.Deep.Slices
import Derived.Deep.Fields
import Derived.Deep.Grids
import Derived.ChangeSame
import Derived.Lib.SmallJoins
namespace Go.Proofs.YtbebhbcjdiahcaaDoor
open Go.RowKit Go.ChangeShapes Go.WideShapes Go.Deep

/-- A number that an int can be. -/
def I64 (n : Int) : Prop := -9223372036854775808 ≤ n ∧ n ≤ 9223372036854775807

theorem addr_form {w : World} {a : Addr} {n : Nat} {f : Nat → Value} (hn : 0 < n) (h : ∀ i, i < n → w.cell? (a.add i) = some (f i)) :
    ∃ b off, a = ⟨b, off, none⟩ ∧ b < w.heap.size ∧ ∀ i, i < n → w.cell? ⟨b, off + i, none⟩ = some (f i) := by
  obtain ⟨b, off, spot⟩ := a
  have h0 := h 0 hn
  have hs : spot = none := by simpa [Addr.add] using World.cell?_spot h0
  subst hs
  refine ⟨b, off, rfl, by simpa [Addr.add] using cell_lt h0, fun i hi => ?_⟩
  have := h i hi
  unfold Addr.add at this
  by_cases hi0 : i = 0
  · subst hi0; simpa using this
  · simpa [hi0] using this

section
variable {H : Type} {enc : TypeId × Value → H} {P : Program} {w : World} {base : Nat} {spare : Nat → Bool} {held : Bool}

theorem open_sl_int {t e : TypeId} {fuel : Nat} {v : Value} {x : DataW H × List MemPlace} (ht : P.underlying t = some (.slice e)) (he : P.underlying e = some (.int .i64)) (hc : P.cellsOf e = 1)
    (h : DataW.trod enc P w base spare held fuel t [v] = some x) :
    ∃ A c xs, v = .slice A (List.length xs) c ∧ xs.length ≤ c ∧ c ≤ maxLen ∧ Sl w w.heap.size 1 A xs.length (encI xs) ∧ ∀ n ∈ xs, I64 n := by
  rcases open_ints ht he hc h with ⟨hcs, _⟩ | ⟨a, len, cap, zs, hcs, _, hl, hm, hz, _, hcell, hwz⟩
  · simp at hcs
    subst hcs
    exact ⟨none, 0, [], rfl, Nat.le_refl _, Nat.zero_le _, ⟨rfl, fun h => absurd h (by simp)⟩, fun n hn => by simp at hn⟩
  · simp at hcs
    subst hcs
    have hzl : len ≤ zs.length := by rw [hz]; split <;> omega
    have hlen : (zs.take len).length = len := by simp; omega
    refine ⟨some a, cap, zs.take len, by rw [hlen], by omega, hm, ⟨by simp [encI], fun hn => ?_⟩, fun n hn => bounds_i64 (hwz n (List.mem_of_mem_take hn))⟩
    rw [hlen] at hn
    obtain ⟨b, off, rfl, hb, hcc⟩ := addr_form (n := len) hn (fun i hi => hcell i (by omega))
    refine ⟨b, off, rfl, hb, fun j u hu => ?_⟩
    have hj : j < len := by
      have := (List.getElem?_eq_some_iff.1 hu).1
      rw [encI_len, hlen] at this
      exact this
    rw [encI_at _ _ (by rw [hlen]; exact hj)] at hu
    rw [hcc j hj, ← Option.some.inj hu]
    simp [at_, hj]

theorem open_sl_byte {t e : TypeId} {fuel : Nat} {v : Value} {x : DataW H × List MemPlace} (ht : P.underlying t = some (.slice e)) (he : P.underlying e = some (.int .u8)) (hc : P.cellsOf e = 1)
    (h : DataW.trod enc P w base spare held fuel t [v] = some x) :
    ∃ A c xs, v = .slice A (List.length xs) c ∧ xs.length ≤ c ∧ c ≤ maxLen ∧ Sl w w.heap.size 1 A xs.length (encU xs) ∧ ∀ n ∈ xs, 0 ≤ n ∧ n ≤ 255 := by
  rcases open_ints ht he hc h with ⟨hcs, _⟩ | ⟨a, len, cap, zs, hcs, _, hl, hm, hz, _, hcell, hwz⟩
  · simp at hcs
    subst hcs
    exact ⟨none, 0, [], rfl, Nat.le_refl _, Nat.zero_le _, ⟨rfl, fun h => absurd h (by simp)⟩, fun n hn => by simp at hn⟩
  · simp at hcs
    subst hcs
    have hzl : len ≤ zs.length := by rw [hz]; split <;> omega
    have hlen : (zs.take len).length = len := by simp; omega
    refine ⟨some a, cap, zs.take len, by rw [hlen], by omega, hm, ⟨by simp [encU], fun hn => ?_⟩, fun n hn => bounds_u8 (hwz n (List.mem_of_mem_take hn))⟩
    rw [hlen] at hn
    obtain ⟨b, off, rfl, hb, hcc⟩ := addr_form (n := len) hn (fun i hi => hcell i (by omega))
    refine ⟨b, off, rfl, hb, fun j u hu => ?_⟩
    have hj : j < len := by
      have := (List.getElem?_eq_some_iff.1 hu).1
      rw [encU_len, hlen] at this
      exact this
    rw [encU_at _ _ (by rw [hlen]; exact hj)] at hu
    rw [hcc j hj, ← Option.some.inj hu]
    simp [at_, hj]

theorem open_sl_bool {t e : TypeId} {fuel : Nat} {v : Value} {x : DataW H × List MemPlace} (ht : P.underlying t = some (.slice e)) (he : P.underlying e = some .bool) (hc : P.cellsOf e = 1)
    (h : DataW.trod enc P w base (fun _ => true) held fuel t [v] = some x) :
    ∃ A c xs, v = .slice A (List.length xs) c ∧ xs.length ≤ c ∧ c ≤ maxLen ∧ Sl w w.heap.size 1 A xs.length (encB xs) := by
  rcases open_bools ht he hc h with ⟨hcs, _⟩ | ⟨a, len, cap, V, hcs, _, hl, hm, _, hcell⟩
  · simp at hcs
    subst hcs
    exact ⟨none, 0, [], rfl, Nat.le_refl _, Nat.zero_le _, ⟨rfl, fun h => absurd h (by simp)⟩⟩
  · simp at hcs
    subst hcs
    have hlen : ((List.range len).map V).length = len := by simp
    refine ⟨some a, cap, (List.range len).map V, by rw [hlen], by omega, hm, ⟨by simp [encB], fun hn => ?_⟩⟩
    rw [hlen] at hn
    obtain ⟨b, off, rfl, hb, hcc⟩ := addr_form (n := len) hn (fun i hi => hcell i (by omega))
    refine ⟨b, off, rfl, hb, fun j u hu => ?_⟩
    have hj : j < len := by
      have := (List.getElem?_eq_some_iff.1 hu).1
      rw [encB_len, hlen] at this
      exact this
    rw [encB_at _ _ (by rw [hlen]; exact hj)] at hu
    rw [hcc j hj, ← Option.some.inj hu]
    simp [atB, hj]

theorem open_slice_fields {t e : TypeId} {fs : Array Field} {fuel : Nat} {cs : List Value} {x : DataW H × List MemPlace} (ht : P.underlying t = some (.slice e)) (he : P.underlying e = some (.struct fs))
    (hone : oneCellFields P fs = true) (hC : P.cellsOf e = fs.size) (h : DataW.trod enc P w base spare held fuel t cs = some x) :
    (cs = [.slice none 0 0]) ∨
    ∃ (a : Addr) (len cap m : Nat), cs = [.slice (some a) len cap] ∧ len ≤ cap ∧ cap ≤ maxLen ∧ len ≤ m ∧
      ∀ i, i < m → ∃ n : Nat,
        ∀ (j : Nat) (f : Field), fs[j]? = some f → ∃ (v : Value) (y : DataW H × List MemPlace), w.cell? (a.add (i * fs.size + j)) = some v ∧ DataW.trod enc P w base spare held n f.type [v] = some y := by
  rcases open_slice ht h with h0 | ⟨a, len, cap, m, n, D, Pl, hcs, hb, hl, hm, hmm, hx, hi⟩
  · exact .inl h0.1
  · refine .inr ⟨a, len, cap, m, hcs, hl, hm, by rw [hmm]; split <;> omega, fun i him => ?_⟩
    obtain ⟨cs', hc, ht'⟩ := hi i him
    rw [hC] at hc
    obtain ⟨ys, n', hn', hy, hlen, hyl, hf⟩ := DataW.trod_struct he ht'
    obtain ⟨_, hcl, hat⟩ := World.cells?_some hc
    refine ⟨n', fun j f hj => ?_⟩
    obtain ⟨ho, hk⟩ := hone_of hone j f hj
    have hjl : j < fs.size := (Array.getElem?_eq_some_iff.1 hj).1
    have hcell := hat j hjl
    have hv : cs'[j]? = some (cs'[j]'(by omega)) := List.getElem?_eq_getElem (by omega)
    have h1 := hf j f hj
    rw [ho, hk] at h1
    have hone' : (cs'.drop j).take 1 = [cs'[j]'(by omega)] := by
      rw [List.drop_eq_getElem_cons (by omega)]
      rfl
    rw [hone'] at h1
    have hys : ys[j]? = some (ys[j]'(by omega)) := List.getElem?_eq_getElem (by omega)
    refine ⟨_, _, ?_, h1.trans hys⟩
    rw [← Go.Deep.add_add, hcell, hv]

/-- A slice of structs of two numbers. -/
theorem open_sl_two {t e : TypeId} {f0 f1 : Field} {fuel : Nat} {v : Value} {x : DataW H × List MemPlace} (ht : P.underlying t = some (.slice e)) (he : P.underlying e = some (.struct #[f0, f1]))
    (hone : oneCellFields P #[f0, f1] = true) (hC : P.cellsOf e = 2) (h0 : P.underlying f0.type = some (.int .i64)) (h1 : P.underlying f1.type = some (.int .i64)) (h : DataW.trod enc P w base spare held fuel t [v] = some x) :
    ∃ A c xs, v = .slice A (List.length xs) c ∧ xs.length ≤ c ∧ c ≤ maxLen ∧ Sl w w.heap.size 2 A xs.length (enc2 xs) ∧ ∀ p ∈ xs, I64 p.1 ∧ I64 p.2 := by
  rcases open_slice_fields ht he hone hC h with hcs | ⟨a, len, cap, m, hcs, hl, hm, hlm, hall⟩
  · simp at hcs
    subst hcs
    exact ⟨none, 0, [], rfl, Nat.le_refl _, Nat.zero_le _, ⟨rfl, fun h => absurd h (by simp)⟩, fun n hn => by simp at hn⟩
  · simp at hcs
    subst hcs
    have each : ∀ i, i < len → ∃ p : Int × Int, w.cell? (a.add (i * 2)) = some (.int .i64 p.1) ∧ w.cell? (a.add (i * 2 + 1)) = some (.int .i64 p.2) ∧ I64 p.1 ∧ I64 p.2 := by
      intro i hi
      obtain ⟨n, hn⟩ := hall i (by omega)
      obtain ⟨v0, y0, c0, t0⟩ := hn 0 f0 rfl
      obtain ⟨v1, y1, c1, t1⟩ := hn 1 f1 rfl
      obtain ⟨x0, e0, _, w0⟩ := DataW.trod_int h0 t0
      obtain ⟨x1, e1, _, w1⟩ := DataW.trod_int h1 t1
      simp at e0 e1
      subst e0 e1
      exact ⟨(x0, x1), c0, c1, bounds_i64 w0, bounds_i64 w1⟩
    obtain ⟨F, hF⟩ : ∃ F : Nat → Int × Int, ∀ i, i < len → w.cell? (a.add (i * 2)) = some (.int .i64 (F i).1) ∧ w.cell? (a.add (i * 2 + 1)) = some (.int .i64 (F i).2) ∧ I64 (F i).1 ∧ I64 (F i).2 := by
      refine ⟨fun i => if hi : i < len then Classical.choose (each i hi) else (0, 0), fun i hi => ?_⟩
      simp only [dif_pos hi]
      exact Classical.choose_spec (each i hi)
    have hlen : ((List.range len).map F).length = len := by simp
    refine ⟨some a, cap, (List.range len).map F, by rw [hlen], by omega, hm, ⟨enc2_len _, fun hn => ?_⟩, fun p hp => ?_⟩
    · rw [hlen] at hn
      obtain ⟨b, off, rfl, hb, hcc⟩ := addr_form (n := len * 2) (f := fun j => if j % 2 = 0 then .int .i64 (F (j / 2)).1 else .int .i64 (F (j / 2)).2) (by omega) (fun j hj => by
        obtain ⟨c0, c1, _⟩ := hF (j / 2) (by omega)
        by_cases hm2 : j % 2 = 0
        · rw [if_pos hm2, ← c0]; congr 2; omega
        · rw [if_neg hm2, ← c1]; congr 2; omega)
      refine ⟨b, off, rfl, hb, fun j u hu => ?_⟩
      have hj : j < len * 2 := by
        have := (List.getElem?_eq_some_iff.1 hu).1
        rw [enc2_len, hlen] at this
        exact this
      rw [hcc j hj]
      by_cases hm2 : j % 2 = 0
      · rw [if_pos hm2, ← hu]
        have := enc2_at0 ((List.range len).map F) (j / 2) (by rw [hlen]; omega)
        rw [show j / 2 * 2 = j from by omega] at this
        rw [this, at2_eq _ _ (by rw [hlen]; omega)]
        simp
      · rw [if_neg hm2, ← hu]
        have := enc2_at1 ((List.range len).map F) (j / 2) (by rw [hlen]; omega)
        rw [show j / 2 * 2 + 1 = j from by omega] at this
        rw [this, at2_eq _ _ (by rw [hlen]; omega)]
        simp
    · simp at hp
      obtain ⟨i, hi, rfl⟩ := hp
      exact (hF i hi).2.2

/-- A slice of structs of three numbers. -/
theorem open_sl_three {t e : TypeId} {f0 f1 f2 : Field} {fuel : Nat} {v : Value} {x : DataW H × List MemPlace} (ht : P.underlying t = some (.slice e)) (he : P.underlying e = some (.struct #[f0, f1, f2]))
    (hone : oneCellFields P #[f0, f1, f2] = true) (hC : P.cellsOf e = 3) (h0 : P.underlying f0.type = some (.int .i64)) (h1 : P.underlying f1.type = some (.int .i64)) (h2 : P.underlying f2.type = some (.int .i64)) (h : DataW.trod enc P w base spare held fuel t [v] = some x) :
    ∃ A c xs, v = .slice A (List.length xs) c ∧ xs.length ≤ c ∧ c ≤ maxLen ∧ Sl w w.heap.size 3 A xs.length (enc3 xs) ∧ ∀ p ∈ xs, I64 p.1 ∧ I64 p.2.1 ∧ I64 p.2.2 := by
  rcases open_slice_fields ht he hone hC h with hcs | ⟨a, len, cap, m, hcs, hl, hm, hlm, hall⟩
  · simp at hcs
    subst hcs
    exact ⟨none, 0, [], rfl, Nat.le_refl _, Nat.zero_le _, ⟨rfl, fun h => absurd h (by simp)⟩, fun n hn => by simp at hn⟩
  · simp at hcs
    subst hcs
    have each : ∀ i, i < len → ∃ p : Int × Int × Int, w.cell? (a.add (i * 3)) = some (.int .i64 p.1) ∧ w.cell? (a.add (i * 3 + 1)) = some (.int .i64 p.2.1) ∧ w.cell? (a.add (i * 3 + 2)) = some (.int .i64 p.2.2) ∧ I64 p.1 ∧ I64 p.2.1 ∧ I64 p.2.2 := by
      intro i hi
      obtain ⟨n, hn⟩ := hall i (by omega)
      obtain ⟨v0, y0, c0, t0⟩ := hn 0 f0 rfl
      obtain ⟨v1, y1, c1, t1⟩ := hn 1 f1 rfl
      obtain ⟨v2, y2, c2, t2⟩ := hn 2 f2 rfl
      obtain ⟨x0, e0, _, w0⟩ := DataW.trod_int h0 t0
      obtain ⟨x1, e1, _, w1⟩ := DataW.trod_int h1 t1
      obtain ⟨x2, e2, _, w2⟩ := DataW.trod_int h2 t2
      simp at e0 e1 e2
      subst e0 e1 e2
      exact ⟨(x0, x1, x2), c0, c1, c2, bounds_i64 w0, bounds_i64 w1, bounds_i64 w2⟩
    obtain ⟨F, hF⟩ : ∃ F : Nat → Int × Int × Int, ∀ i, i < len → w.cell? (a.add (i * 3)) = some (.int .i64 (F i).1) ∧ w.cell? (a.add (i * 3 + 1)) = some (.int .i64 (F i).2.1) ∧ w.cell? (a.add (i * 3 + 2)) = some (.int .i64 (F i).2.2) ∧ I64 (F i).1 ∧ I64 (F i).2.1 ∧ I64 (F i).2.2 := by
      refine ⟨fun i => if hi : i < len then Classical.choose (each i hi) else (0, 0, 0), fun i hi => ?_⟩
      simp only [dif_pos hi]
      exact Classical.choose_spec (each i hi)
    have hlen : ((List.range len).map F).length = len := by simp
    refine ⟨some a, cap, (List.range len).map F, by rw [hlen], by omega, hm, ⟨enc3_len _, fun hn => ?_⟩, fun p hp => ?_⟩
    · rw [hlen] at hn
      obtain ⟨b, off, rfl, hb, hcc⟩ := addr_form (n := len * 3) (f := fun j => if j % 3 = 0 then .int .i64 (F (j / 3)).1 else if j % 3 = 1 then .int .i64 (F (j / 3)).2.1 else .int .i64 (F (j / 3)).2.2) (by omega) (fun j hj => by
        obtain ⟨c0, c1, c2, _⟩ := hF (j / 3) (by omega)
        by_cases hm2 : j % 3 = 0
        · rw [if_pos hm2, ← c0]; congr 2; omega
        · rw [if_neg hm2]
          by_cases hm3 : j % 3 = 1
          · rw [if_pos hm3, ← c1]; congr 2; omega
          · rw [if_neg hm3, ← c2]; congr 2; omega)
      refine ⟨b, off, rfl, hb, fun j u hu => ?_⟩
      have hj : j < len * 3 := by
        have := (List.getElem?_eq_some_iff.1 hu).1
        rw [enc3_len, hlen] at this
        exact this
      rw [hcc j hj]
      by_cases hm2 : j % 3 = 0
      · rw [if_pos hm2, ← hu]
        have := enc3_at0 ((List.range len).map F) (j / 3) (by rw [hlen]; omega)
        rw [show j / 3 * 3 = j from by omega] at this
        rw [this, at3_eq _ _ (by rw [hlen]; omega)]
        simp
      · rw [if_neg hm2]
        by_cases hm3 : j % 3 = 1
        · rw [if_pos hm3, ← hu]
          have := enc3_at1 ((List.range len).map F) (j / 3) (by rw [hlen]; omega)
          rw [show j / 3 * 3 + 1 = j from by omega] at this
          rw [this, at3_eq _ _ (by rw [hlen]; omega)]
          simp
        · rw [if_neg hm3, ← hu]
          have := enc3_at2 ((List.range len).map F) (j / 3) (by rw [hlen]; omega)
          rw [show j / 3 * 3 + 2 = j from by omega] at this
          rw [this, at3_eq _ _ (by rw [hlen]; omega)]
          simp
    · simp at hp
      obtain ⟨i, hi, rfl⟩ := hp
      exact (hF i hi).2.2.2
end

end Go.Proofs.YtbebhbcjdiahcaaDoor
