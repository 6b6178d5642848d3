/-
  A radial network while the reference draws it: what is known of the world. Of what is drawn only lengths are said.
-/
import Derived.Test.YtbebhbcjdiahcaaDoorTaps
import Derived.Test.YtbebhbcjdiahcaaDoorAppThree
import Derived.Test.YtbebhbcjdiahcaaDoorAppNew
import Derived.Test.YtbebhbcjdiahcaaDoorCycS
import Derived.Test.YtbebhbcjdiahcaaDoorBut
import Derived.Deep.AppendLies
import Derived.Deep.RegionLaw
import Derived.Deep.RegionHeld3
namespace Go.Proofs.YtbebhbcjdiahcaaDoor
open Go.RowKit
set_option linter.unusedVariables false

theorem infoBusK : (Tryd.prog.info? 54).map (fun i => (i.zero, i.size, i.bytes)) = some (some (.agg #[.int .i64 0, .int .i64 0]), 2, 16) := by kernel_rfl
theorem infoLineK : (Tryd.prog.info? 60).map (fun i => (i.zero, i.size, i.bytes)) = some (some (.agg #[.int .i64 0, .int .i64 0, .int .i64 0]), 3, 24) := by kernel_rfl
theorem enc2_oneK (xs : List (Int × Int)) : ∀ u ∈ enc2 xs, u.oneCell' = true := by
  intro u hu
  simp [enc2] at hu
  obtain ⟨a, b, _, rfl | rfl⟩ := hu <;> rfl

/-- Appending one element; where the list lies behind it is told. -/
theorem app_gen {ops : Array Oper} {rest : List Oper} {o : Oper} {a : Act} {Q : Exit → Act → World → Prop} (wr : World) (hgd : o.guard = none) (s x : Operand) (t e : TypeId) (z : Value) (size bytes : Nat) (ht : Tryd.prog.underlying t = some (.slice e)) (hinfo : (Tryd.prog.info? e).map (fun i => (i.zero, i.size, i.bytes)) = some (some z, size, bytes)) (hzs : z.cells.size = size) (hsz : 0 < size) (hby : bytes ≤ 100)
    (ho : o.op = .call { callee := .builtin .append, args := #[s, x], argTypes := #[t, t] })
    (base : Nat) (A : Option Addr) (n c : Nat) (cs : List Value) (news : Array Value) (hs : a.eval s = .slice A n c) (hown : wr.ownsRow base e size (.slice A n c) n cs) (H : Nat) (hH : wr.heap.size = H) (hx : a.eval x = .slice (some ⟨H, 0, none⟩) 1 1) (hns : news.size = size) (h1 : ∀ u ∈ news.toList, u.oneCell' = true)
    (hb : base ≤ wr.heap.size) (hn : n ≤ 1048576)
    (h : ∀ D d w', w'.ownsRow base e size (.slice D (n + 1) d) (n + 1) (cs ++ news.toList) → wr.grownBy w' (Value.slice A n c).ownBlock → (∀ g, (Value.slice D (n + 1) d).ownBlock = some g → (Value.slice A n c).ownBlock = some g ∨ wr.heap.size ≤ g) → wpList Tryd.prog ops Q rest (a.put o.dst (.slice D (n + 1) d)) w') :
    wpList Tryd.prog ops Q (o :: rest) a (wr.alloc (.cells news e)) := by
  subst hH
  obtain ⟨i0, hi, hz0, hz1, hz2⟩ := info_parts hinfo
  refine wpList_append_own_at _ hgd s x t ho base e i0 z size bytes ht hi hz0 hz1 hz2 hzs hsz (.slice A n c) n cs hs (hown.alloc _) ⟨wr.heap.size, 0, none⟩ 1 1 news.toList hx (by simp [hns]) (World.news_of_block (Blk.new wr e news)) h1 (by unfold maxLen; omega) (by
    have : (n + 1) * bytes ≤ (n + 1) * 100 := Nat.mul_le_mul_left _ hby
    omega) (by simp; omega) ?_
  intro v' w' ho' hg _ hw
  obtain ⟨D, d, rfl, _, _⟩ := own_slice ho'
  refine h D d w' ho' ⟨hg.os, hg.tape, hg.output, Nat.le_trans (by simp) hg.size, fun i hi' hne => (hg.block i (by simp; omega) hne).trans (Below.heap_alloc wr _ i hi')⟩ fun g hgb => ?_
  rcases hw with hw | hw
  · exact .inl (by rw [← hw]; exact hgb)
  · rw [hw] at hgb
    injection hgb with hgb
    simp at hgb
    exact .inr (by omega)
/-- A line is appended, as a step of a region that draws. -/
theorem step_appL {ops : Array Oper} {o : Oper} {a : Act} {w : World} {K : Act → World → Prop} {Q : Exit → Act → World → Prop} {E : Prop}
    (hgd : o.guard = none) (s x : Operand) (ho : o.op = .call { callee := .builtin .append, args := #[s, x], argTypes := #[23, 23] })
    (base : Nat) (A : Option Addr) (n c : Nat) (ord : List (Int × Int × Int)) (k1 k2 k3 : Int) (hs : a.eval s = .slice A n c) (hown : w.ownsRow base 60 3 (.slice A n c) n (enc3 ord)) (H : Nat) (hB : Blk w H 60 #[.int .i64 k1, .int .i64 k2, .int .i64 k3]) (hx : a.eval x = .slice (some ⟨H, 0, none⟩) 1 1)
    (hb : base ≤ w.heap.size) (hn : n ≤ 1048576)
    (h : ∀ g cap w', w'.ownsRow base 60 3 (.slice (some ⟨g, 0, none⟩) (n + 1) cap) (n + 1) (enc3 (ord ++ [(k1, k2, k3)])) → w.grownBy w' (Value.slice A n c).ownBlock → (∀ q, (Value.slice (some ⟨g, 0, none⟩) (n + 1) cap).ownBlock = some q → (Value.slice A n c).ownBlock = some q ∨ w.heap.size ≤ q) → K (a.put o.dst (.slice (some ⟨g, 0, none⟩) (n + 1) cap)) w') :
    if Region.wanted o (yielded ops a.tmps) = true then Oper.wp Tryd.prog o a w K Q else E := by
  obtain ⟨i0, hi, hz0, hz1, hz2⟩ := info_parts infoLineK
  refine step_append_lies w hgd s x 23 ho base 60 i0 (.agg #[.int .i64 0, .int .i64 0, .int .i64 0]) 3 24 Tryd.underlying23 hi hz0 hz1 hz2 rfl (by decide) (.slice A n c) n (enc3 ord) hs hown ⟨H, 0, none⟩ 1 1 (enc3 [(k1, k2, k3)]) hx rfl (fun j u hu => World.news_of_block (cs := #[.int .i64 k1, .int .i64 k2, .int .i64 k3]) hB j u (by simpa [enc3] using hu)) (enc3_one _) (by decide) (by unfold maxLen; omega) (by omega) hb w.heap.size rfl ?_
  intro g cap w' h1 h2 h3 _
  refine h g cap w' (by rw [show enc3 (ord ++ [(k1, k2, k3)]) = enc3 ord ++ enc3 [(k1, k2, k3)] by simp [enc3]]; exact h1) h2 fun q hq => ?_
  have hgq : g = q := by simpa [Value.ownBlock] using hq
  subst hgq
  exact h3.imp id (by omega)

theorem enc2_set0 (xs : List (Int × Int)) (k : Nat) (v : Int) : ∃ ys : List (Int × Int), ys.length = xs.length ∧ enc2 ys = (enc2 xs).set (k * 2) (.int .i64 v) := by
  induction xs generalizing k with
  | nil => exact ⟨[], rfl, by simp [enc2]⟩
  | cons p t ih =>
    cases k with
    | zero => exact ⟨(v, p.2) :: t, rfl, by simp [enc2]⟩
    | succ k =>
      obtain ⟨ys, h1, h2⟩ := ih k
      refine ⟨p :: ys, by simp [h1], ?_⟩
      have e : ∀ zs : List (Int × Int), enc2 (p :: zs) = .int .i64 p.1 :: .int .i64 p.2 :: enc2 zs := fun zs => by simp [enc2]
      rw [e, e, h2, show (k + 1) * 2 = k * 2 + 2 by omega]
      rfl

theorem setc_grownK (w : World) (b o : Nat) (v : Value) : w.grownBy (w.setCell ⟨b, o, none⟩ v) (some b) :=
  ⟨rfl, rfl, rfl, by simp [World.setCell], fun i hi hne => Below.heap_setCell w ⟨b, o, none⟩ v i (fun e => hne (by rw [e]))⟩
theorem RdU.drewK {B g P : Nat} {wr : World} (h : RdU B wr g P) : RdU B wr.drew g P := h.far (Below.refl _ _).drew

/-- A network with its state and its buses, while they are drawn. -/
structure QS (B g P : Nat) (w : World) (p : Nat) (b : Int) (xs : List (Int × Int × Int)) (D : Option Addr) (d : Nat) (os : List Bool) (E : Option Addr) (e : Nat) (bu : List (Int × Int)) (F : Option Addr) (f : Nat) (wr : World) : Prop where
  blk : Blk wr p 25 #[.int .i64 b, .slice D xs.length d]
  res : Blk wr w.heap.size 25 #[.int .i64 0, .slice none 0 0]
  own : wr.ownsRow (p + 1) 60 3 (.slice D xs.length d) xs.length (enc3 xs)
  oon : wr.ownsRow (p + 1) 4 1 (.slice E os.length e) os.length (encB os)
  obu : wr.ownsRow (p + 1) 54 2 (.slice F bu.length f) bu.length (enc2 bu)
  n1 : ∀ k, (Value.slice D xs.length d).ownBlock = some k → ¬ (Value.slice E os.length e).ownBlock = some k
  n2 : ∀ k, (Value.slice D xs.length d).ownBlock = some k → ¬ (Value.slice F bu.length f).ownBlock = some k
  n3 : ∀ k, (Value.slice E os.length e).ownBlock = some k → ¬ (Value.slice F bu.length f).ownBlock = some k
  rd : RdU B wr g P
  grow : w.grownBy wr (some g)
  lt : g < w.heap.size ∧ w.heap.size < p
section
variable {B g P p d e f : Nat} {w wr w' : World} {b : Int} {xs : List (Int × Int × Int)} {D E F : Option Addr} {os : List Bool} {bu : List (Int × Int)}
theorem QS.size (h : QS B g P w p b xs D d os E e bu F f wr) : p < wr.heap.size := h.blk.lt
theorem QS.more {Q : Nat} (h : QS B g P w p b xs D d os E e bu F f wr) (hq : P ≤ Q) : QS B g Q w p b xs D d os E e bu F f wr := ⟨h.blk, h.res, h.own, h.oon, h.obu, h.n1, h.n2, h.n3, h.rd.more hq, h.grow, h.lt⟩
theorem QS.drew (h : QS B g P w p b xs D d os E e bu F f wr) : QS B g P w p b xs D d os E e bu F f wr.drew := ⟨h.blk, h.res, h.own, h.oon, h.obu, h.n1, h.n2, h.n3, h.rd.drewK, ⟨h.grow.os, h.grow.tape, h.grow.output, h.grow.size, h.grow.block⟩, h.lt⟩
theorem QS.only {Q : Nat} (h : QS B g P w p b xs D d os E e bu F f wr) (k : Only g wr w') (hr : RdU B w' g Q) : QS B g Q w p b xs D d os E e bu F f w' := by
  have := h.lt
  exact ⟨h.blk.grown k.1 (fun e => by injection e; omega), h.res.grown k.1 (fun e => by injection e; omega), k.own h.own (by omega), k.own h.oon (by omega), k.own h.obu (by omega), h.n1, h.n2, h.n3, hr, h.grow.trans k.1, h.lt⟩
theorem QS.alloc (h : QS B g P w p b xs D d os E e bu F f wr) (o : Obj) : QS B g P w p b xs D d os E e bu F f (wr.alloc o) :=
  ⟨h.blk.alloc o, h.res.alloc o, h.own.alloc o, h.oon.alloc o, h.obu.alloc o, h.n1, h.n2, h.n3, h.rd.grown (World.grownBy_alloc wr o none) (fun k hk => by cases hk), grown_alloc h.grow o, h.lt⟩
theorem QS.appL {D' : Option Addr} {d' m : Nat} {ys : List (Int × Int × Int)} (h : QS B g P w p b xs D d os E e bu F f wr) (hm : ys.length = m) (k : wr.grownBy w' (Value.slice D xs.length d).ownBlock) (ho : w'.ownsRow (p + 1) 60 3 (.slice D' m d') m (enc3 ys)) (hl : ∀ q, (Value.slice D' m d').ownBlock = some q → (Value.slice D xs.length d).ownBlock = some q ∨ wr.heap.size ≤ q) :
    QS B g P w p b ys D' d' os E e bu F f (w'.setCell ⟨p, 1, none⟩ (.slice D' m d')) := by
  subst hm
  have hlt := h.lt
  have hbig : ∀ q, (Value.slice D xs.length d).ownBlock = some q → p < q := fun q hq => (h.own.lt q hq).1
  have hs := setc_grownK w' p 1 (.slice D' ys.length d')
  have far : ∀ {ty size n : Nat} {v : Value} {cs : List Value}, w'.ownsRow (p + 1) ty size v n cs → (w'.setCell ⟨p, 1, none⟩ (.slice D' ys.length d')).ownsRow (p + 1) ty size v n cs := fun ho => own_apart (v' := .slice (some ⟨p, 0, none⟩) 1 1) ho (by simpa [Value.ownBlock] using hs) (fun q hq he => by have := (ho.lt q hq).1; simp [Value.ownBlock] at he; omega)
  have sep : ∀ {v : Value}, (∀ q, v.ownBlock = some q → p < q ∧ q < wr.heap.size) → (∀ q, (Value.slice D xs.length d).ownBlock = some q → ¬ v.ownBlock = some q) → ∀ q, (Value.slice D' ys.length d').ownBlock = some q → ¬ v.ownBlock = some q := fun hv hn q hq he => by
    rcases hl q hq with h1 | h1
    · exact hn q h1 he
    · have := hv q he; omega
  refine ⟨?_, ?_, far ho, far (own_apart h.oon k fun q hq he => h.n1 q he hq), far (own_apart h.obu k fun q hq he => h.n2 q he hq), sep (fun q hq => by have := h.oon.lt q hq; omega) h.n1, sep (fun q hq => by have := h.obu.lt q hq; omega) h.n2, h.n3, ?_, ?_, h.lt⟩
  · simpa using (h.blk.grown k (fun he => by have := hbig p he.symm; omega)).set_ 1 (.slice D' ys.length d')
  · exact (h.res.grown k (fun he => by have := hbig _ he.symm; omega)).far (p := ⟨p, 1, none⟩) (by simp; omega) _
  · exact (h.rd.grown k (fun q hq => by have := hbig q hq; omega)).grown hs (fun q hq => by injection hq; omega)
  · exact grown_step (grown_step h.grow k (fun q hq => by have := hbig q hq; omega)) hs (fun q hq => by injection hq; omega)
theorem QS.appB {E' : Option Addr} {e' m : Nat} {ys : List Bool} (h : QS B g P w p b xs D d os E e bu F f wr) (hm : ys.length = m) (k : wr.grownBy w' (Value.slice E os.length e).ownBlock) (ho : w'.ownsRow (p + 1) 4 1 (.slice E' m e') m (encB ys)) (hl : ∀ q, (Value.slice E' m e').ownBlock = some q → (Value.slice E os.length e).ownBlock = some q ∨ wr.heap.size ≤ q) :
    QS B g P w p b xs D d ys E' e' bu F f w' := by
  subst hm
  have hlt := h.lt
  have hbig : ∀ q, (Value.slice E os.length e).ownBlock = some q → p < q := fun q hq => (h.oon.lt q hq).1
  refine ⟨h.blk.grown k (fun he => by have := hbig p he.symm; omega), h.res.grown k (fun he => by have := hbig _ he.symm; omega), own_apart h.own k fun q hq he => h.n1 q hq he, ho, own_apart h.obu k fun q hq he => h.n3 q he hq, fun q hq he => ?_, h.n2, fun q hq he => ?_, h.rd.grown k (fun q hq => by have := hbig q hq; omega), grown_step h.grow k (fun q hq => by have := hbig q hq; omega), h.lt⟩
  · rcases hl q he with h1 | h1
    · exact h.n1 q hq h1
    · have := (h.own.lt q hq).2; omega
  · rcases hl q hq with h1 | h1
    · exact h.n3 q h1 he
    · have := (h.obu.lt q he).2; omega
theorem QS.appU {F' : Option Addr} {f' m : Nat} {ys : List (Int × Int)} (h : QS B g P w p b xs D d os E e bu F f wr) (hm : ys.length = m) (k : wr.grownBy w' (Value.slice F bu.length f).ownBlock) (ho : w'.ownsRow (p + 1) 54 2 (.slice F' m f') m (enc2 ys)) (hl : ∀ q, (Value.slice F' m f').ownBlock = some q → (Value.slice F bu.length f).ownBlock = some q ∨ wr.heap.size ≤ q) :
    QS B g P w p b xs D d os E e ys F' f' w' := by
  subst hm
  have hlt := h.lt
  have hbig : ∀ q, (Value.slice F bu.length f).ownBlock = some q → p < q := fun q hq => (h.obu.lt q hq).1
  refine ⟨h.blk.grown k (fun he => by have := hbig p he.symm; omega), h.res.grown k (fun he => by have := hbig _ he.symm; omega), own_apart h.own k fun q hq he => h.n2 q hq he, own_apart h.oon k fun q hq he => h.n3 q hq he, ho, h.n1, fun q hq he => ?_, fun q hq he => ?_, h.rd.grown k (fun q hq => by have := hbig q hq; omega), grown_step h.grow k (fun q hq => by have := hbig q hq; omega), h.lt⟩
  · rcases hl q he with h1 | h1
    · exact h.n2 q hq h1
    · have := (h.own.lt q hq).2; omega
  · rcases hl q he with h1 | h1
    · exact h.n3 q hq h1
    · have := (h.oon.lt q hq).2; omega
theorem QS.setB {q k : Nat} {v : Bool} (h : QS B g P w p b xs D d os (some ⟨q, 0, none⟩) e bu F f wr) : QS B g P w p b xs D d (os.set k v) (some ⟨q, 0, none⟩) e bu F f (wr.setCell ⟨q, k, none⟩ (.bool v)) := by
  have s := h.oon.stored k (.bool v)
  exact h.appB (ys := os.set k v) (by simp) s.2 (by rw [encB_setK]; exact s.1) (fun q' hq => .inl hq)
theorem QS.setU {q k : Nat} {v : Int} (h : QS B g P w p b xs D d os E e bu (some ⟨q, 0, none⟩) f wr) : ∃ bv : List (Int × Int), bv.length = bu.length ∧ QS B g P w p b xs D d os E e bv (some ⟨q, 0, none⟩) f (wr.setCell ⟨q, k * 2, none⟩ (.int .i64 v)) := by
  obtain ⟨ys, h1, h2⟩ := enc2_set0 bu k v
  have s := h.obu.stored (k * 2) (.int .i64 v)
  exact ⟨ys, h1, h.appU (ys := ys) h1 s.2 (by rw [h2]; exact s.1) (fun q' hq => .inl hq)⟩
theorem QS.cell0 (h : QS B g P w p b xs D d os E e bu F f wr) : wr.cell? ⟨p, 0, none⟩ = some (.int .i64 b) := h.blk.cell 0
theorem QS.cell1 (h : QS B g P w p b xs D d os E e bu F f wr) : wr.cell? ⟨p, 1, none⟩ = some (.slice D xs.length d) := h.blk.cell 1
theorem QS.app_cell (h : QS B g P w p b xs D d os E e bu F f wr) (k : wr.grownBy w' (Value.slice D xs.length d).ownBlock) : w'.cell? ⟨p, 1, none⟩ = some (.slice D xs.length d) ∧ w'.frozen? ⟨p, 1, none⟩ = false := by
  have hb := h.blk.grown k (fun e => by have := (h.own.lt p e.symm).1; omega)
  exact ⟨hb.cell 1, hb.frozen 1⟩
end

end Go.Proofs.YtbebhbcjdiahcaaDoor
