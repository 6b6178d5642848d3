/-
  A queue of numbers: a slice of the call's own that is cut at its head and appended to at its end. Plain laws.
-/
import Derived.Test.YtijnahflfbjgiaaDoorBut
import Derived.ArgAppend
namespace Go.Proofs.YtijnahflfbjgiaaDoor
open Go.RowKit
set_option linter.unusedVariables false

/-- A queue in a block of the call's own. -/
structure QOwn (w : World) (base b off n c : Nat) (xs : List Int) : Prop where
  len : xs.length = n
  cap : n ≤ c
  max : c ≤ maxLen
  blo : base ≤ b
  bhi : b < w.heap.size
  cell : ∀ j, j < n → w.cell? ⟨b, off + j, none⟩ = some (.int .i64 (at_ xs j))
  room : ∀ j, j < c → ∃ u, w.cell? ⟨b, off + j, none⟩ = some u
  open_ : ∀ j, w.frozen? ⟨b, j, none⟩ = false
theorem QOwn.but {S : Nat → Prop} {w w' : World} {base b off n c : Nat} {xs : List Int} (h : QOwn w base b off n c xs) (hb : But S w w') (hS : ¬ S b) : QOwn w' base b off n c xs :=
  ⟨h.len, h.cap, h.max, h.blo, Nat.lt_of_lt_of_le h.bhi hb.size, fun j hj => hb.cell (h.cell j hj) hS, fun j hj => by obtain ⟨u, hu⟩ := h.room j hj; exact ⟨u, hb.cell hu hS⟩, fun j => (World.frozen?_of_block (w := w) (hb.block b h.bhi hS)).trans (h.open_ j)⟩
theorem QOwn.to {w w' : World} {base b off n c : Nat} {xs : List Int} (h : QOwn w base b off n c xs) (hb : Below w.heap.size w w') : QOwn w' base b off n c xs := h.but (But.of_below (S := fun _ => False) hb) (fun h => h)
theorem QOwn.of_own {w : World} {base e g n c : Nat} {xs : List Int} (h : w.ownsRow base e 1 (.slice (some ⟨g, 0, none⟩) n c) n (encI xs)) : QOwn w base g 0 n c xs := by
  have hl : xs.length = n := by have := h.1; simp [encI] at this; exact this
  have hsl := Sl.of_own h
  rcases h.2 with ⟨h1, h2⟩ | ⟨g', cap, cur, hv, hg, hh, h1, h2, h3, h4⟩
  · cases h1
  · cases hv
    refine ⟨hl, h1, h2, hg, Blk.lt (w := w) (t := e) hh, fun j hj => ?_, fun j hj => ?_, fun j => Blk.frozen (w := w) (t := e) hh j⟩
    · subst hl
      obtain ⟨b', o', he, _, hc⟩ := hsl.int j hj
      simp only [Option.some.injEq, Addr.mk.injEq] at he
      obtain ⟨rfl, rfl, _⟩ := he
      exact hc
    · have hsz : 0 + j < cur.size := by omega
      exact ⟨cur[0 + j], (Blk.cell (w := w) (t := e) hh (0 + j)).trans (Array.getElem?_eq_getElem hsz)⟩
theorem QOwn.pop {w : World} {base b off n c : Nat} {x : Int} {xs : List Int} (h : QOwn w base b off (n + 1) (c + 1) (x :: xs)) : QOwn w base b (off + 1) n c xs := by
  refine ⟨by have := h.len; simpa using this, by have := h.cap; omega, by have := h.max; omega, h.blo, h.bhi, fun j hj => ?_, fun j hj => ?_, h.open_⟩
  · have := h.cell (j + 1) (by omega)
    rw [show off + 1 + j = off + (j + 1) by omega, this]
    simp [at_]
  · obtain ⟨u, hu⟩ := h.room (j + 1) (by omega)
    exact ⟨u, by rw [show off + 1 + j = off + (j + 1) by omega]; exact hu⟩
theorem at_snoc (xs : List Int) (a : Int) (j : Nat) : at_ (xs ++ [a]) j = if j < xs.length then at_ xs j else if j = xs.length then a else 0 := by
  by_cases h : j < xs.length
  · rw [if_pos h]; simp [at_, List.getElem?_append_left h]
  · rw [if_neg h]
    by_cases h2 : j = xs.length
    · rw [if_pos h2]; subst h2; simp [at_]
    · rw [if_neg h2]
      have : (xs ++ [a])[j]? = none := List.getElem?_eq_none (by simp; omega)
      simp [at_, this]

theorem cell_set_here {w : World} {b o : Nat} {u v : Value} (h : w.cell? ⟨b, o, none⟩ = some u) : (w.setCell ⟨b, o, none⟩ v).cell? ⟨b, o, none⟩ = some v := by
  exact World.cell?_setCells_in b [v] o w (fun j hj => by have hj : j = 0 := by simpa using hj
                                                          subst hj; rw [Nat.add_zero, h]; rfl) 0 (by simp)
theorem cell_set_off {w : World} {b o o' : Nat} {v : Value} (h : o ≠ o') : (w.setCell ⟨b, o, none⟩ v).cell? ⟨b, o', none⟩ = w.cell? ⟨b, o', none⟩ := by
  exact World.cell?_setCells_out b [v] o w ⟨b, o', none⟩ (fun _ _ => by simp; omega)

theorem app_queue {ops : Array Oper} {rest : List Oper} {o : Oper} {a : Act} {Q : Exit → Act → World → Prop} (wr : World) (hgd : o.guard = none) (s x : Operand)
    (ho : o.op = .call { callee := .builtin .append, args := #[s, x], argTypes := #[36, 36] })
    (base b off n c : Nat) (xs : List Int) (k : Int) (hs : a.eval s = .slice (some ⟨b, off, none⟩) n c) (hq : QOwn wr base b off n c xs) (H : Nat) (hH : wr.heap.size = H) (hx : a.eval x = .slice (some ⟨H, 0, none⟩) 1 1)
    (hb : base ≤ wr.heap.size) (hn : n ≤ 1048576)
    (h : ∀ b' off' c' w', QOwn w' base b' off' (n + 1) c' (xs ++ [k]) → But (fun i => i = b) wr w' → wpList Tryd.prog ops Q rest (a.put o.dst (.slice (some ⟨b', off', none⟩) (n + 1) c')) w') :
    wpList Tryd.prog ops Q (o :: rest) a (wr.alloc (.cells #[.int .i64 k] 3)) := by
  subst hH
  obtain ⟨i0, hi, hz0, hz1, hz2⟩ := info_parts infoI
  have hal : But (fun _ => False) wr (wr.alloc (.cells #[.int .i64 k] 3)) := (But.refl _ wr).alloc _
  have hq2 := hq.but hal (fun h => h)
  have hne : b ≠ wr.heap.size := by have := hq.bhi; omega
  refine wpList_append_arg (P := Tryd.prog) (wr.alloc (.cells #[.int .i64 k] 3)) hgd s x 36 ho 3 i0 (.int .i64 0) 1 8 Tryd.underlying36 hi hz0 hz1 hz2 rfl (by decide) b off n c (encI xs) hs (by simp [encI, hq.len]) ?_ ⟨wr.heap.size, 0, none⟩ 1 1 [.int .i64 k] hx rfl (cell_one_new _ _ _) (by simp [Value.oneCell']) ?_ (by unfold maxLen; omega) (by omega) ?_ ?_
  · intro j u hu
    have hj : j < n := by have := (List.getElem?_eq_some_iff.1 hu).1; simp [encI, hq.len] at this; exact this
    rw [encI_at xs j (by rw [hq.len]; exact hj)] at hu
    rw [hq2.cell j hj]
    exact hu
  · intro hr j hj
    have hj : j = 0 := by simpa using hj
    subst hj
    obtain ⟨u, hu⟩ := hq2.room n (by omega)
    simp only [Nat.mul_one, Nat.add_zero]
    exact ⟨by rw [hu]; rfl, hq2.open_ _⟩
  · intro hr
    have e1 : (wr.alloc (.cells #[.int .i64 k] 3)).setCells b (off + n * 1) [.int .i64 k] = (wr.alloc (.cells #[.int .i64 k] 3)).setCell ⟨b, off + n, none⟩ (.int .i64 k) := by
      rw [Nat.mul_one]; rfl
    rw [e1]
    refine h b off c _ ⟨by simp [hq.len], hr, hq.max, hq.blo, by have := hq2.bhi; simpa using this, fun j hj => ?_, fun j hj => ?_, fun j => ?_⟩ (((But.refl (fun i => i = b) wr).alloc _).setCell ⟨b, off + n, none⟩ _ (fun _ => rfl))
    · by_cases hjn : j = n
      · subst hjn
        obtain ⟨u, hu⟩ := hq2.room j (by omega)
        rw [at_snoc, if_neg (by rw [hq.len]; omega), if_pos hq.len.symm]
        exact cell_set_here hu
      · rw [at_snoc, if_pos (by rw [hq.len]; omega)]
        rw [cell_set_off (by omega)]
        exact hq2.cell j (by omega)
    · by_cases hjn : j = n
      · subst hjn
        obtain ⟨u, hu⟩ := hq2.room j (by omega)
        exact ⟨_, cell_set_here hu⟩
      · obtain ⟨u, hu⟩ := hq2.room j hj
        exact ⟨u, by rw [cell_set_off (by omega)]; exact hu⟩
    · rw [World.frozen?_setCell]
      exact hq2.open_ j
  · intro hg v' w' hown hgrow
    obtain ⟨g, cap, rfl, _, _⟩ := hown.form (by omega)
    refine h g 0 cap w' ?_ ?_
    · have h3 : w'.ownsRow (wr.alloc (.cells #[.int .i64 k] 3)).heap.size 3 1 (.slice (some ⟨g, 0, none⟩) (n + 1) cap) (n + 1) (encI (xs ++ [k])) := by
        rw [show encI (xs ++ [k]) = encI xs ++ [.int .i64 k] by simp [encI]]
        exact hown
      exact QOwn.of_own (own_mono h3 (by simp; omega))
    · exact ((But.refl (fun i => i = b) wr).alloc _).grown hgrow (fun i hi => by cases hi)

end Go.Proofs.YtijnahflfbjgiaaDoor
