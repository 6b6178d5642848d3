/-
  Worlds that are alike but for some blocks; a slice that is cloned; a number that is appended where there is room. Plain laws, and the contract of slices.Clone.
-/
import Derived.Test.YtbebhbcjdiahcaaDoorAppAny
import Derived.Deep.RegionLaw
import Derived.Laws.IdiomCopy
namespace Go.Proofs.YtbebhbcjdiahcaaDoor
open Go.RowKit
set_option linter.unusedVariables false

/-- All that was there is as it was, but for some blocks. -/
structure But (S : Nat → Prop) (w w' : World) : Prop where
  os : w'.os = w.os
  tape : w'.tape = w.tape
  output : w'.output = w.output
  size : w.heap.size ≤ w'.heap.size
  block : ∀ k, k < w.heap.size → ¬ S k → w'.heap[k]? = w.heap[k]?
section
variable {S T : Nat → Prop} {w w' a b c : World}
theorem But.refl (S : Nat → Prop) (w : World) : But S w w := ⟨rfl, rfl, rfl, Nat.le_refl _, fun _ _ _ => rfl⟩
theorem But.trans (h : But S a b) (k : But T b c) (hT : ∀ k, k < a.heap.size → T k → S k) : But S a c :=
  ⟨k.os.trans h.os, k.tape.trans h.tape, k.output.trans h.output, Nat.le_trans h.size k.size, fun i hi hS => (k.block i (Nat.lt_of_lt_of_le hi h.size) (fun ht => hS (hT i hi ht))).trans (h.block i hi hS)⟩
theorem But.then (h : But S a b) (k : But S b c) : But S a c := h.trans k fun _ _ h => h
theorem But.of_below (h : Below w.heap.size w w') : But S w w' := ⟨h.os, h.tape, h.output, h.size, fun k hk _ => h.block k hk⟩
theorem But.below (h : But S a b) (k : Below b.heap.size b c) : But S a c := h.then (But.of_below k)
theorem But.grown {row : Option Nat} (h : But S a b) (k : b.grownBy c row) (hr : ∀ i, row = some i → i < a.heap.size → S i) : But S a c :=
  ⟨k.os.trans h.os, k.tape.trans h.tape, k.output.trans h.output, Nat.le_trans h.size k.size, fun i hi hS => (k.block i (Nat.lt_of_lt_of_le hi h.size) (fun ht => hS (hr i ht.symm hi))).trans (h.block i hi hS)⟩
theorem But.drewN (h : But S a b) (n : Nat) : But S a (b.drewN n) := ⟨h.os, h.tape, h.output, h.size, h.block⟩
theorem But.drew (h : But S a b) : But S a b.drew := ⟨h.os, h.tape, h.output, h.size, h.block⟩
theorem But.alloc (h : But S a b) (o : Obj) : But S a (b.alloc o) := h.below ((Below.refl _ _).alloc (Nat.le_refl _) o)
theorem But.setCell (h : But S a b) (p : Addr) (u : Value) (hp : p.block < a.heap.size → S p.block) : But S a (b.setCell p u) :=
  ⟨h.os, h.tape, h.output, by have := h.size; simpa using this, fun k hk hS => (Below.heap_setCell b p u k (fun he => hS (by subst he; exact hp hk))).trans (h.block k hk hS)⟩
theorem But.cell (h : But S w w') {p : Addr} {v : Value} (hc : w.cell? p = some v) (hS : ¬ S p.block) : w'.cell? p = some v := (World.cell?_of_block (h.block p.block (cell_lt hc) hS)).trans hc
theorem But.blk {g : Nat} {t : TypeId} {cs : Array Value} (h : But S w w') (hb : Blk w g t cs) (hS : ¬ S g) : Blk w' g t cs := (h.block g hb.lt hS).trans hb
theorem But.own {base e size n : Nat} {v : Value} {cs : List Value} (h : But S w w') (ho : w.ownsRow base e size v n cs) (hS : ∀ g, v.ownBlock = some g → ¬ S g) : w'.ownsRow base e size v n cs := by
  obtain ⟨h1, h2⟩ := ho
  refine ⟨h1, ?_⟩
  rcases h2 with h2 | ⟨g, cap, cur, hv, hg, hh, r⟩
  · exact Or.inl h2
  · refine Or.inr ⟨g, cap, cur, hv, hg, ?_, r⟩
    rw [h.block g (Blk.lt (w := w) (t := e) (cs := cur) hh) (hS g (by rw [hv]; rfl))]
    exact hh
theorem But.to (h : But S w w') {B : Nat} (hB : B ≤ w.heap.size) (hS : ∀ k, k < B → ¬ S k) : Below B w w' := ⟨h.os, h.tape, h.output, h.size, fun k hk => h.block k (by omega) (hS k hk)⟩
theorem But.sl {B size n : Nat} {A : Option Addr} {cs : List Value} (h : But S w w') (hs : Sl w B size A n cs) (hB : B ≤ w.heap.size) (hS : ∀ k, k < B → ¬ S k) : Sl w' B size A n cs := hs.below (h.to hB hS)
theorem But.less (h : But S w w') (hT : ∀ k, k < w.heap.size → S k → T k) : But T w w' := ⟨h.os, h.tape, h.output, h.size, fun k hk hS => h.block k hk fun hs => hS (hT k hk hs)⟩
end

/-! ### a row with room -/
theorem own_front {w : World} {base p k n : Nat} {e : TypeId} {xs : List Int} {a : Int} (h : w.ownsRow base e 1 (.slice (some ⟨p, 0, none⟩) (k + 1) n) (k + 1) (encI (xs ++ [a]))) : w.ownsRow base e 1 (.slice (some ⟨p, 0, none⟩) k n) k (encI xs) := by
  have hl : xs.length = k := by have := h.1; simp [encI] at this; omega
  rcases h.2 with ⟨h1, h2⟩ | ⟨g, cap, cur, hv, hg, hh, h1, h2, h3, h4⟩
  · omega
  · cases hv
    refine ⟨by simp [encI, hl], .inr ⟨_, _, cur, rfl, hg, hh, by omega, h2, h3, ?_⟩⟩
    have h5 : (cur.toList.take ((k + 1) * 1)).take k = (encI (xs ++ [a])).take k := by rw [h4]
    rw [List.take_take] at h5
    rw [show min k ((k + 1) * 1) = k from by omega] at h5
    rw [show k * 1 = k from by omega, h5]
    simp [encI, ← hl]
theorem own_grow {w : World} {base p k n : Nat} {e : TypeId} {xs : List Int} (h : w.ownsRow base e 1 (.slice (some ⟨p, 0, none⟩) k n) k (encI xs)) (hk : k < n) (a : Int) : (w.setCell ⟨p, k, none⟩ (.int .i64 a)).ownsRow base e 1 (.slice (some ⟨p, 0, none⟩) (k + 1) n) (k + 1) (encI (xs ++ [a])) := by
  have hl : xs.length = k := by have := h.1; simp [encI] at this; omega
  rcases h.2 with ⟨h1, h2⟩ | ⟨g, cap, cur, hv, hg, hh, h1, h2, h3, h4⟩
  · cases h1
  · cases hv
    refine ⟨by simp [encI, hl], .inr ⟨p, n, cur.setIfInBounds k (.int .i64 a), rfl, hg, ?_, by omega, h2, by simpa using h3, ?_⟩⟩
    · exact Blk.set_ (w := w) (t := e) hh k _
    · have hsz : k < cur.size := by omega
      simp only [Array.toList_setIfInBounds]
      rw [show (k + 1) * 1 = k + 1 from by omega]
      have h5 : cur.toList.take k = encI xs := by rw [show k * 1 = k from by omega] at h4; exact h4
      rw [List.take_succ_eq_append_getElem (by simpa using hsz)]
      rw [List.take_set_of_le (Nat.le_refl k), h5]
      simp [encI]
theorem own_room {w : World} {base p k n : Nat} {e : TypeId} {cs : List Value} (h : w.ownsRow base e 1 (.slice (some ⟨p, 0, none⟩) k n) k cs) (hk : k < n) : ∃ u, w.cell? ⟨p, k, none⟩ = some u := by
  rcases h.2 with ⟨h1, h2⟩ | ⟨g, cap, cur, hv, hg, hh, h1, h2, h3, h4⟩
  · cases h1
  · cases hv
    have hsz : k < cur.size := by omega
    exact ⟨cur[k], (Blk.cell (w := w) (t := e) hh k).trans (Array.getElem?_eq_getElem hsz)⟩
theorem own_open {w : World} {base p n k c : Nat} {e : TypeId} {size : Nat} {cs : List Value} (h : w.ownsRow base e size (.slice (some ⟨p, 0, none⟩) n c) n cs) : w.frozen? ⟨p, k, none⟩ = false := by
  rcases h.2 with ⟨h1, h2⟩ | ⟨g, cap, cur, hv, hg, hh, h1, h2, h3, h4⟩
  · cases h1
  · cases hv
    exact Blk.frozen (w := w) (t := e) hh k

/-- One number is appended where there is room, as a step of a region that draws. -/
theorem step_app_room {ops : Array Oper} {o : Oper} {a : Act} {w : World} {K : Act → World → Prop} {Q : Exit → Act → World → Prop} {E : Prop}
    (hg : o.guard = none) (s x : Operand) (hop : o.op = Op.call { callee := Callee.builtin Builtin.append, args := #[s, x], argTypes := #[28, 28] })
    (p k n : Nat) (hs : a.eval s = .slice (some ⟨p, 0, none⟩) k n) (H : Nat) (v : Int) (hx : a.eval x = .slice (some ⟨H, 0, none⟩) 1 1) (hc : w.cell? ⟨H, 0, none⟩ = some (.int .i64 v))
    (hk : k < n) (hsp : ∃ u, w.cell? ⟨p, k, none⟩ = some u) (hf : w.frozen? ⟨p, k, none⟩ = false)
    (hK : K (a.put o.dst (.slice (some ⟨p, 0, none⟩) (k + 1) n)) (w.setCell ⟨p, k, none⟩ (.int .i64 v))) :
    if Region.wanted o (yielded ops a.tmps) = true then Oper.wp Tryd.prog o a w K Q else E := by
  obtain ⟨i0, hi, hz0, hz1, hz2⟩ := info_parts infoI
  obtain ⟨u, hu⟩ := hsp
  refine step_append_room (P := Tryd.prog) hg s x 28 hop 3 i0 1 Tryd.underlying28 hi hz1 p 0 k n hs ⟨H, 0, none⟩ 1 1 [.int .i64 v] hx rfl ?_ (by simp [Value.oneCell']) (by omega) ?_ ?_
  · intro j u hu
    have hj : j = 0 := by
      have := (List.getElem?_eq_some_iff.1 hu).1
      simpa using this
    subst hj
    simp at hu
    subst hu
    exact hc
  · intro j hj
    have hj : j = 0 := by simpa using hj
    subst hj
    simp only [Nat.zero_add, Nat.mul_one, Nat.add_zero]
    exact ⟨by rw [hu]; rfl, hf⟩
  · have e : 0 + k * 1 = k := by omega
    rw [e]
    exact hK

theorem slicesClone_any (A : Option Addr) (n c : Nat) (xs : List Int) (w : World) (hn : xs.length = n) (h : Sl w w.heap.size 1 A xs.length (encI xs)) (hm : xs.length ≤ 1048576) :
    Calls Tryd.prog 41 #[.slice A n c] w (MadeInts (fun r => r = xs) w) := by
  subst hn
  have hnil := fun wx => Lib.run_eql_slice_nil (P := Tryd.prog) wx 28 3 A xs.length c 0 0 Tryd.underlying28
  cases A with
  | none =>
    have hx : xs = [] := by
      rcases Nat.eq_zero_or_pos xs.length with h0 | h0
      · exact List.length_eq_zero_iff.1 h0
      · obtain ⟨_, _, h, _⟩ := h.2 h0
        cases h
    subst hx
    clear h hnil
    have hnil := fun wx => Lib.run_eql_slice_nil (P := Tryd.prog) wx 28 3 none 0 c 0 0 Tryd.underlying28
    show Calls Tryd.prog 41 #[.slice none 0 c] w _
    go_enter Tryd.func41, Tryd.ntmps41
    go_wp2_with fail
    go_ret
    exact ⟨[], _, _, rfl, rfl, World.ownsRow_nil _ _ _ _, Below.refl _ _⟩
  | some ad =>
    have N6 := hide (World.ownsRow_lit (base := w.heap.size) (e := 3) (size := 1) w #[] 0 (Nat.le_refl _) (Nat.zero_le _) rfl)
    have B6 := (Below.refl w.heap.size w).alloc (Nat.le_refl _) (.cells #[] 3)
    have S6 := hide (h.below B6)
    go_enter Tryd.func41, Tryd.ntmps41
    go_wp2_with (at_builtin; refine app_ints _ rfl (.tmp 5) (.tmp 6) rfl w.heap.size _ 0 0 [] rfl N6.out _ (some ad) xs.length c xs rfl S6.out (by simp) (by omega) (by omega) ?_; intro D2 d2 w7 ho7 hg7)
    go_wp2_with fail
    go_ret
    refine ⟨xs, D2, d2, rfl, by simp, by simpa using ho7, B6.trans (grown_below N6.out hg7 (by simp))⟩

end Go.Proofs.YtbebhbcjdiahcaaDoor
