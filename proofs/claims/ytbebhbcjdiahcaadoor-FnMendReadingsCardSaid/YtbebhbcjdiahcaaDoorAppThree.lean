/-
  Appending to lists of structs of three numbers of the call's own. Plain laws over the program's table of types.
-/
import Derived.Test.YtbebhbcjdiahcaaDoorAppAny
namespace Go.Proofs.YtbebhbcjdiahcaaDoor
open Go.RowKit
set_option linter.unusedVariables false

theorem enc3_one (xs : List (Int × Int × Int)) : ∀ u ∈ enc3 xs, u.oneCell' = true := by
  intro u hu
  simp only [enc3, List.mem_flatMap] at hu
  obtain ⟨p, _, hp⟩ := hu
  simp at hp
  rcases hp with rfl | rfl | rfl <;> rfl

theorem app_three {ops : Array Oper} {rest : List Oper} {o : Oper} {a : Act} {Q : Exit → Act → World → Prop} (t e : TypeId) (ht : Tryd.prog.underlying t = some (.slice e)) (hinfo : (Tryd.prog.info? e).map (fun i => (i.zero, i.size, i.bytes)) = some (some (.agg #[.int .i64 0, .int .i64 0, .int .i64 0]), 3, 24))
    (wr : World) (hw : Region.wanted o (yielded ops a.tmps) = true) (s x : Operand)
    (ho : o.op = .call { callee := .builtin .append, args := #[s, x], argTypes := #[t, t] })
    (base : Nat) (A : Option Addr) (n c : Nat) (ord : List (Int × Int × Int)) (k : Int × Int × Int) (hs : a.eval s = .slice A n c) (hown : wr.ownsRow base e 3 (.slice A n c) n (enc3 ord)) (H : Nat) (hH : wr.heap.size = H) (hx : a.eval x = .slice (some ⟨H, 0, none⟩) 1 1)
    (hb : base ≤ wr.heap.size) (hn : n ≤ 1048576)
    (h : ∀ D d w', w'.ownsRow base e 3 (.slice D (n + 1) d) (n + 1) (enc3 (ord ++ [k])) → wr.grownBy w' (Value.slice A n c).ownBlock → wpList Tryd.prog ops Q rest (a.put o.dst (.slice D (n + 1) d)) w') :
    wpList Tryd.prog ops Q (o :: rest) a (wr.alloc (.cells #[.int .i64 k.1, .int .i64 k.2.1, .int .i64 k.2.2] e)) := by
  subst hH
  obtain ⟨i0, hi, hz0, hz1, hz2⟩ := info_parts hinfo
  have hr : Sl (wr.alloc (.cells #[.int .i64 k.1, .int .i64 k.2.1, .int .i64 k.2.2] e)) (wr.heap.size + 1) 3 (some ⟨wr.heap.size, 0, none⟩) 1 (enc3 [k]) := ⟨rfl, fun _ => ⟨wr.heap.size, 0, rfl, by omega, fun j u hu => by
    have hB := Blk.new wr e #[.int .i64 k.1, .int .i64 k.2.1, .int .i64 k.2.2]
    have := hB.cell (0 + j)
    rw [this, Nat.zero_add]
    simpa [enc3] using hu⟩⟩
  refine wpList_append_any _ hw s x t ho base e i0 (.agg #[.int .i64 0, .int .i64 0, .int .i64 0]) 3 24 ht hi hz0 hz1 hz2 rfl (by decide) (.slice A n c) n (enc3 ord) hs (hown.alloc _) _ _ 1 1 (enc3 [k]) hx hr (enc3_one _) (by unfold maxLen; omega) (by omega) (by simp; omega) ?_
  intro v' w' ho' hg
  obtain ⟨D, d, rfl, _, _⟩ := own_slice ho'
  refine h D d w' (by rw [show enc3 (ord ++ [k]) = enc3 ord ++ enc3 [k] by simp [enc3]]; exact ho') ?_
  exact ⟨hg.os, hg.tape, hg.output, Nat.le_trans (by simp) hg.size, fun i hi' hne => (hg.block i (by simp; omega) hne).trans (Below.heap_alloc wr _ i hi')⟩

theorem app_threes {ops : Array Oper} {rest : List Oper} {o : Oper} {a : Act} {Q : Exit → Act → World → Prop} (t e : TypeId) (ht : Tryd.prog.underlying t = some (.slice e)) (hinfo : (Tryd.prog.info? e).map (fun i => (i.zero, i.size, i.bytes)) = some (some (.agg #[.int .i64 0, .int .i64 0, .int .i64 0]), 3, 24))
    (wr : World) (hw : Region.wanted o (yielded ops a.tmps) = true) (s x : Operand)
    (ho : o.op = .call { callee := .builtin .append, args := #[s, x], argTypes := #[t, t] })
    (base : Nat) (A : Option Addr) (n c : Nat) (ord : List (Int × Int × Int)) (hs : a.eval s = .slice A n c) (hown : wr.ownsRow base e 3 (.slice A n c) n (enc3 ord))
    (B : Nat) (A2 : Option Addr) (m c2 : Nat) (ys : List (Int × Int × Int)) (hx : a.eval x = .slice A2 m c2) (hr : Sl wr B 3 A2 m (enc3 ys))
    (hb : base ≤ wr.heap.size) (hn : n ≤ 1048576) (hm : m ≤ 1048576)
    (h : ∀ D d w', w'.ownsRow base e 3 (.slice D (n + m) d) (n + m) (enc3 (ord ++ ys)) → wr.grownBy w' (Value.slice A n c).ownBlock → wpList Tryd.prog ops Q rest (a.put o.dst (.slice D (n + m) d)) w') :
    wpList Tryd.prog ops Q (o :: rest) a wr := by
  obtain ⟨i0, hi, hz0, hz1, hz2⟩ := info_parts hinfo
  refine wpList_append_any wr hw s x t ho base e i0 (.agg #[.int .i64 0, .int .i64 0, .int .i64 0]) 3 24 ht hi hz0 hz1 hz2 rfl (by decide) (.slice A n c) n (enc3 ord) hs hown B A2 m c2 (enc3 ys) hx hr (enc3_one ys) (by unfold maxLen; omega) (by omega) hb ?_
  intro v' w' ho' hg
  obtain ⟨D, d, rfl, _, _⟩ := own_slice ho'
  exact h D d w' (by rw [show enc3 (ord ++ ys) = enc3 ord ++ enc3 ys by simp [enc3]]; exact ho') hg

end Go.Proofs.YtbebhbcjdiahcaaDoor
