/-
  Rooms that are being drawn: what is kept of the world meanwhile. Plain lemmas.
-/
import Derived.Test.YtgkgdbmmhcdohaaDoorRoomDeed
import Derived.Test.YtgkgdbmmhcdohaaDoorRoomsDo
namespace Go.Proofs.YtgkgdbmmhcdohaaDoor
open Go.RowKit
set_option linter.unusedVariables false

/-- Drawn rooms. -/
def DrawnR (B g P : Nat) (w : World) (en : Ending) (w' : World) : Prop :=
  ∃ (a b : Int) (xs : List Int) (D : Option Addr) (d : Nat), (0 ≤ a ∧ a ≤ 100) ∧ (0 ≤ b ∧ b ≤ 101) ∧ xs.length ≤ 5 ∧ en = .returned (.agg #[.int .i64 a, .int .i64 b, .slice D xs.length d]) ∧ w'.ownsRow w.heap.size 3 1 (.slice D xs.length d) xs.length (encI xs) ∧ RdU B w' g P ∧ w.grownBy w' (some g)

/-- Rooms that are being drawn, in block p. -/
structure QS (B g P : Nat) (w : World) (p : Nat) (a b : Int) (xs : List Int) (D : Option Addr) (d : Nat) (wr : World) : Prop where
  blk : Blk wr p 25 #[.int .i64 a, .int .i64 b, .slice D xs.length d]
  res : Blk wr w.heap.size 25 #[.int .i64 0, .int .i64 0, .slice none 0 0]
  own : wr.ownsRow (p + 1) 3 1 (.slice D xs.length d) xs.length (encI xs)
  rd : RdU B wr g P
  grow : w.grownBy wr (some g)
  lt : g < w.heap.size ∧ w.heap.size < p
section
variable {B g P p d : Nat} {w wr w' : World} {a b : Int} {xs : List Int} {D : Option Addr}
theorem QS.drew (h : QS B g P w p a b xs D d wr) : QS B g P w p a b xs D d wr.drew := ⟨h.blk, h.res, h.own, h.rd.far (Below.refl _ _).drew, ⟨h.grow.os, h.grow.tape, h.grow.output, h.grow.size, h.grow.block⟩, h.lt⟩
theorem QS.only {Q : Nat} (h : QS B g P w p a b xs D d wr) (k : Only g wr w') (hr : RdU B w' g Q) : QS B g Q w p a b xs D d w' :=
  ⟨h.blk.grown k.1 (fun e => by injection e with e; have := h.lt; omega), h.res.grown k.1 (fun e => by injection e with e; have := h.lt; omega), k.own h.own (by have := h.lt; omega), hr, h.grow.trans k.1, h.lt⟩
theorem QS.grown {Q : Nat} (h : QS B g P w p a b xs D d wr) (k : wr.grownBy w' (some g)) (hr : RdU B w' g Q) : QS B g Q w p a b xs D d w' :=
  ⟨h.blk.grown k (fun e => by injection e with e; have := h.lt; omega), h.res.grown k (fun e => by injection e with e; have := h.lt; omega), h.own.kept k (own_low h.own (by have := h.lt; omega)), hr, h.grow.trans k, h.lt⟩
theorem QS.alloc (h : QS B g P w p a b xs D d wr) (o : Obj) : QS B g P w p a b xs D d (wr.alloc o) :=
  ⟨h.blk.alloc o, h.res.alloc o, h.own.alloc o, h.rd.grown (World.grownBy_alloc wr o none) (fun k hk => by cases hk), grown_alloc h.grow o, h.lt⟩
theorem QS.size (h : QS B g P w p a b xs D d wr) : p < wr.heap.size := h.blk.lt
theorem QS.to (h : QS B g P w p a b xs D d wr) (hb : Below wr.heap.size wr w') : QS B g P w p a b xs D d w' :=
  ⟨h.blk.to hb, h.res.to hb, h.own.keepB hb, h.rd.far (hb.mono (by have := h.lt; have := h.size; omega)), ⟨by rw [← h.grow.os, ← hb.os], by rw [← h.grow.tape, ← hb.tape], by rw [← h.grow.output, ← hb.output], Nat.le_trans h.grow.size hb.size, fun i hi hne => (hb.block i (by have := h.grow.size; omega)).trans (h.grow.block i hi hne)⟩, h.lt⟩
theorem QS.more {Q : Nat} (h : QS B g P w p a b xs D d wr) (hq : P ≤ Q) : QS B g Q w p a b xs D d wr := ⟨h.blk, h.res, h.own, h.rd.more hq, h.grow, h.lt⟩
theorem QS.sets (h : QS B g P w p a b xs D d wr) (o : Nat) (v : Value) {a' b' : Int} {ys : List Int} {D' : Option Addr} {d' : Nat} (hb : Blk (wr.setCell ⟨p, o, none⟩ v) p 25 #[.int .i64 a', .int .i64 b', .slice D' ys.length d']) (ho : wr.ownsRow (p + 1) 3 1 (.slice D' ys.length d') ys.length (encI ys)) : QS B g P w p a' b' ys D' d' (wr.setCell ⟨p, o, none⟩ v) :=
  ⟨hb, h.res.far (p := ⟨p, o, none⟩) (by have := h.lt; simp; omega) _, ho.kept (ssetc _ _ _ _) (own_low ho (by omega)), h.rd.grown (ssetc _ _ _ _) (fun k hk => by injection hk with hk; have := h.lt; omega), grown_step h.grow (ssetc _ _ _ _) (fun k hk => by injection hk with hk; have := h.lt; omega), h.lt⟩
theorem QS.set0 (h : QS B g P w p a b xs D d wr) (a' : Int) : QS B g P w p a' b xs D d (wr.setCell ⟨p, 0, none⟩ (.int .i64 a')) := h.sets 0 _ (by simpa using h.blk.set_ 0 (.int .i64 a')) h.own
theorem QS.set1 (h : QS B g P w p a b xs D d wr) (b' : Int) : QS B g P w p a b' xs D d (wr.setCell ⟨p, 1, none⟩ (.int .i64 b')) := h.sets 1 _ (by simpa using h.blk.set_ 1 (.int .i64 b')) h.own
theorem QS.set2 {D' : Option Addr} {d' m : Nat} (h : QS B g P w p a b xs D d wr) (ys : List Int) (hm : ys.length = m) (ho : wr.ownsRow (p + 1) 3 1 (.slice D' m d') m (encI ys)) : QS B g P w p a b ys D' d' (wr.setCell ⟨p, 2, none⟩ (.slice D' m d')) := by
  subst hm
  exact h.sets 2 _ (by simpa using h.blk.set_ 2 (.slice D' ys.length d')) ho
theorem QS.app {ys : List Int} {D' : Option Addr} {d' m : Nat} (h : QS B g P w p a b xs D d wr) (hm : ys.length = m) (k : wr.grownBy w' (Value.slice D xs.length d).ownBlock) (ho : w'.ownsRow (p + 1) 3 1 (.slice D' m d') m (encI ys)) : QS B g P w p a b ys D' d' (w'.setCell ⟨p, 2, none⟩ (.slice D' m d')) := by
  subst hm
  have hne : ∀ q, q ≤ p → some q ≠ (Value.slice D xs.length d).ownBlock := fun q hq e => by have := (h.own.lt q e.symm).1; omega
  have hlt := h.lt
  have hbig : ∀ k, (Value.slice D xs.length d).ownBlock = some k → p < k := fun k hk => (h.own.lt k hk).1
  exact ⟨by simpa using (h.blk.grown k (hne _ (Nat.le_refl _))).set_ 2 (.slice D' ys.length d'), (h.res.grown k (hne _ (by omega))).far (p := ⟨p, 2, none⟩) (by simp; omega) _, ho.kept (ssetc _ _ _ _) (own_low ho (by omega)), (h.rd.grown k (fun q hq => by have := hbig q hq; omega)).grown (ssetc _ _ _ _) (fun k hk => by injection hk; omega), grown_step (grown_step h.grow k (fun q hq => by have := hbig q hq; omega)) (ssetc _ _ _ _) (fun k hk => by injection hk; omega), h.lt⟩
theorem QS.app_cell (h : QS B g P w p a b xs D d wr) (k : wr.grownBy w' (Value.slice D xs.length d).ownBlock) : w'.cell? ⟨p, 2, none⟩ = some (.slice D xs.length d) ∧ w'.frozen? ⟨p, 2, none⟩ = false := by
  have hb := h.blk.grown k (fun e => by have := (h.own.lt p e.symm).1; omega)
  exact ⟨hb.cell 2, hb.frozen 2⟩
/-- All three numbers anew. -/
theorem QS.put {a' b' : Int} {ys : List Int} {D' : Option Addr} {d' : Nat} (h : QS B g P w p a b xs D d wr) (ho : wr.ownsRow (p + 1) 3 1 (.slice D' ys.length d') ys.length (encI ys)) : QS B g P w p a' b' ys D' d' (((wr.setCell ⟨p, 0, none⟩ (.int .i64 a')).setCell ⟨p, 1, none⟩ (.int .i64 b')).setCell ⟨p, 2, none⟩ (.slice D' ys.length d')) :=
  ((h.set0 a').set1 b').set2 ys rfl ((ho.kept (ssetc _ _ _ _) (own_low ho (by omega))).kept (ssetc _ _ _ _) (own_low ho (by omega)))
/-- A station anew. -/
theorem QS.st {q i : Nat} {y : Int} (h : QS B g P w p a b xs (some ⟨q, 0, none⟩) d wr) (hi : i < xs.length) : QS B g P w p a b (xs.set i y) (some ⟨q, 0, none⟩) d (wr.setCell ⟨q, i, none⟩ (.int .i64 y)) := by
  have hq := (h.own.lt q rfl).1
  have hlt := h.lt
  have ho := (h.own.stored i (.int .i64 y)).1
  rw [show (encI xs).set i (.int .i64 y) = encI (xs.set i y) by simp [encI, List.map_set]] at ho
  refine ⟨?_, h.res.far (p := ⟨q, i, none⟩) (by simp; omega) _, ?_, h.rd.grown (ssetc _ _ _ _) (fun k hk => by injection hk with hk; omega), grown_step h.grow (ssetc _ _ _ _) (fun k hk => by injection hk with hk; omega), h.lt⟩
  · rw [List.length_set]; exact h.blk.far (p := ⟨q, i, none⟩) (by simp; omega) _
  · rw [List.length_set]; exact ho
theorem QS.done {Q : Nat} {u v x : Value} (h : QS B g P w p a b xs D d wr) (ha : 0 ≤ a ∧ a ≤ 100) (hb : 0 ≤ b ∧ b ≤ 101) (hl : xs.length ≤ 5) (hq : P ≤ Q) : DrawnR B g Q w (.returned (.agg #[.int .i64 a, .int .i64 b, .slice D xs.length d])) (((wr.setCell ⟨w.heap.size, 0, none⟩ u).setCell ⟨w.heap.size, 1, none⟩ v).setCell ⟨w.heap.size, 2, none⟩ x) := by
  have hlt := h.lt
  have hn := own_low h.own (q := w.heap.size) (by omega)
  exact ⟨a, b, xs, D, d, ha, hb, hl, rfl, own_mono (((h.own.kept (ssetc _ _ _ _) hn).kept (ssetc _ _ _ _) hn).kept (ssetc _ _ _ _) hn) (by omega), (((h.rd.grown (ssetc _ _ _ _) (fun k hk => by injection hk; omega)).grown (ssetc _ _ _ _) (fun k hk => by injection hk; omega)).grown (ssetc _ _ _ _) (fun k hk => by injection hk; omega)).more hq, grown_step (grown_step (grown_step h.grow (ssetc _ _ _ _) (fun k hk => by injection hk; omega)) (ssetc _ _ _ _) (fun k hk => by injection hk; omega)) (ssetc _ _ _ _) (fun k hk => by injection hk; omega)⟩
theorem QS.ret {Q n : Nat} {act : Act} (h : QS B g P w p a b xs D d wr) (ha : 0 ≤ a ∧ a ≤ 100) (hb : 0 ≤ b ∧ b ≤ 101) (hn : xs.length = n) (hl : xs.length ≤ 5) (hq : P ≤ Q) (h4 : act.tmps[4]?.getD undef = .pointer (some ⟨w.heap.size, 0, none⟩)) (hd : act.defers = []) :
    bodyPost Tryd.prog Tryd.f30 (DrawnR B g Q w) .ret act (((wr.setCell ⟨w.heap.size, 0, none⟩ (.int .i64 a)).setCell ⟨w.heap.size, 1, none⟩ (.int .i64 b)).setCell ⟨w.heap.size, 2, none⟩ (.slice D n d)) := by
  subst hn
  have hB := ((h.res.set_ 0 (.int .i64 a)).set_ 1 (.int .i64 b)).set_ 2 (.slice D xs.length d)
  have p0 := (hB.cell 0).trans (show _ = some (.int .i64 a) by simp)
  have p1 := (hB.cell 1).trans (show _ = some (.int .i64 b) by simp)
  have p2 := (hB.cell 2).trans (show _ = some (.slice D xs.length d) by simp)
  exact bodyPost_ret (v := .agg #[.int .i64 a, .int .i64 b, .slice D xs.length d]) (by simp [results, Tryd.results30, go_sem, h4, p0, p1, p2]) hd (h.done ha hb hl hq)
theorem QS.first (hr : RdU B wr g P) (hg : w.grownBy wr (some g)) (h0 : Blk wr w.heap.size 25 #[.int .i64 0, .int .i64 0, .slice none 0 0]) (hgw : g < w.heap.size) : QS B g P w wr.heap.size a b [] none 0 (wr.alloc (.cells #[.int .i64 a, .int .i64 b, .slice none 0 0] 25)) :=
  ⟨Blk.new _ _ _, h0.alloc _, World.ownsRow_nil _ _ _ _, hr.grown (World.grownBy_alloc wr _ none) (fun k hk => by cases hk), grown_alloc hg _, ⟨hgw, h0.lt⟩⟩
end

end Go.Proofs.YtgkgdbmmhcdohaaDoor
