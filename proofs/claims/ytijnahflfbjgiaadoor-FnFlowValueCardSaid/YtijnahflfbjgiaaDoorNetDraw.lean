/-
  The reference's drawing of networks, of their lines' states and of zones. Of what is drawn only lengths are said.
-/
import Derived.Test.YtijnahflfbjgiaaDoorTaps
import Derived.Test.YtijnahflfbjgiaaDoorTriples
import Derived.Test.YtijnahflfbjgiaaDoorAppThree
import Derived.Test.YtijnahflfbjgiaaDoorFnTaps
import Derived.Deep.AppendLies
import Derived.Deep.RegionLaw
import Derived.Deep.RegionHeld3
namespace Go.Proofs.YtijnahflfbjgiaaDoor
open Go.RowKit
set_option linter.unusedVariables false

theorem step_app3 {ops : Array Oper} {o : Oper} {a : Act} {w : World} {K : Act → World → Prop} {Q : Exit → Act → World → Prop} {E : Prop} (t e : TypeId) (ht : Tryd.prog.underlying t = some (.slice e)) (hinfo : (Tryd.prog.info? e).map (fun i => (i.zero, i.size, i.bytes)) = some (some (.agg #[.int .i64 0, .int .i64 0, .int .i64 0]), 3, 24))
    (hgd : o.guard = none) (s x : Operand) (ho : o.op = .call { callee := .builtin .append, args := #[s, x], argTypes := #[t, t] })
    (base : Nat) (A : Option Addr) (n c : Nat) (ord : List (Int × Int × Int)) (k1 k2 k3 : Int) (hs : a.eval s = .slice A n c) (hown : w.ownsRow base e 3 (.slice A n c) n (enc3 ord)) (H : Nat) (hB : Blk w H e #[.int .i64 k1, .int .i64 k2, .int .i64 k3]) (hx : a.eval x = .slice (some ⟨H, 0, none⟩) 1 1)
    (hb : base ≤ w.heap.size) (hn : n ≤ 1048576)
    (h : ∀ g cap w', w'.ownsRow base e 3 (.slice (some ⟨g, 0, none⟩) (n + 1) cap) (n + 1) (enc3 (ord ++ [(k1, k2, k3)])) → w.grownBy w' (Value.slice A n c).ownBlock → K (a.put o.dst (.slice (some ⟨g, 0, none⟩) (n + 1) cap)) w') :
    if Region.wanted o (yielded ops a.tmps) = true then Oper.wp Tryd.prog o a w K Q else E := by
  obtain ⟨i0, hi, hz0, hz1, hz2⟩ := info_parts hinfo
  refine step_append_lies w hgd s x t ho base e i0 (.agg #[.int .i64 0, .int .i64 0, .int .i64 0]) 3 24 ht hi hz0 hz1 hz2 rfl (by decide) (.slice A n c) n (enc3 ord) hs hown ⟨H, 0, none⟩ 1 1 (enc3 [(k1, k2, k3)]) hx rfl (fun j u hu => World.news_of_block (cs := #[.int .i64 k1, .int .i64 k2, .int .i64 k3]) hB j u (by simpa [enc3] using hu)) (enc3_one _) (by omega) (by unfold maxLen; omega) (by omega) hb _ rfl ?_
  intro g cap w' h1 h2 _ _
  exact h g cap w' (by rw [show enc3 (ord ++ [(k1, k2, k3)]) = enc3 ord ++ enc3 [(k1, k2, k3)] by simp [enc3]]; exact h1) h2

/-- A drawn network. -/
def DrawnN (B g P : Nat) (w : World) (en : Ending) (w' : World) : Prop :=
  ∃ (b : Int) (xs : List (Int × Int × Int)) (D : Option Addr) (d : Nat), (-1 ≤ b ∧ b ≤ 9) ∧ xs.length ≤ 11 ∧ en = .returned (.agg #[.int .i64 b, .slice D xs.length d]) ∧ w'.ownsRow w.heap.size 76 3 (.slice D xs.length d) xs.length (enc3 xs) ∧ RdU B w' g P ∧ w.grownBy w' (some g)

theorem make11Line (w : World) : (Instr.makeSlice 48 (.int .i64 11) (.int .i64 11)).run Tryd.prog w = .ok (.slice (some ⟨w.heap.size, 0, none⟩) 11 11) (w.alloc (.cells (zrow 33) 76)) :=
  run_make_z (P := Tryd.prog) 48 76 _ 3 24 Tryd.underlying48 infoLine rfl (by decide) 11 11 (by decide) (by decide) (by decide) w

theorem two_cell {w : World} {g : Nat} {t : TypeId} {a b r : Int} (h : Blk w g t #[.int .i64 a, .int .i64 b]) (h0 : 0 ≤ r) (h1 : r < 2) : ∃ y, w.cell? ⟨g, r.toNat, none⟩ = some (.int .i64 y) := by
  rcases (by omega : r = 0 ∨ r = 1) with rfl | rfl
  · exact ⟨a, h.cell 0⟩
  · exact ⟨b, h.cell 1⟩
/-- A network that is being drawn, in block p. -/
structure NS (B g P : Nat) (w : World) (p : Nat) (b : Int) (xs : List (Int × Int × Int)) (D : Option Addr) (d : Nat) (wr : World) : Prop where
  blk : Blk wr p 50 #[.int .i64 b, .slice D xs.length d]
  res : Blk wr w.heap.size 50 #[.int .i64 0, .slice none 0 0]
  own : wr.ownsRow (p + 1) 76 3 (.slice D xs.length d) xs.length (enc3 xs)
  rd : RdU B wr g P
  grow : w.grownBy wr (some g)
  lt : g < w.heap.size ∧ w.heap.size < p
section
variable {B g P p d : Nat} {w wr w' : World} {b : Int} {xs : List (Int × Int × Int)} {D : Option Addr}
theorem grown_drew {w wr : World} {row : Option Nat} (h : w.grownBy wr row) : w.grownBy wr.drew row := ⟨h.os, h.tape, h.output, h.size, h.block⟩
theorem RdU.drew (h : RdU B wr g P) : RdU B wr.drew g P := h.far (Below.refl _ _).drew
theorem NS.drew (h : NS B g P w p b xs D d wr) : NS B g P w p b xs D d wr.drew := ⟨h.blk, h.res, h.own, h.rd.drew, grown_drew h.grow, h.lt⟩
theorem NS.only {Q : Nat} (h : NS B g P w p b xs D d wr) (k : Only g wr w') (hr : RdU B w' g Q) : NS B g Q w p b xs D d w' :=
  ⟨h.blk.grown k.1 (fun e => by injection e with e; have := h.lt; omega), h.res.grown k.1 (fun e => by injection e with e; have := h.lt; omega), k.own h.own (by have := h.lt; omega), hr, h.grow.trans k.1, h.lt⟩
theorem NS.alloc (h : NS B g P w p b xs D d wr) (o : Obj) : NS B g P w p b xs D d (wr.alloc o) :=
  ⟨h.blk.alloc o, h.res.alloc o, h.own.alloc o, h.rd.grown (World.grownBy_alloc wr o none) (fun k hk => by cases hk), grown_alloc h.grow o, h.lt⟩
theorem setc_grown (w : World) (b o : Nat) (v : Value) : w.grownBy (w.setCell ⟨b, o, none⟩ v) (some b) :=
  ⟨rfl, rfl, rfl, by simp [World.setCell], fun i hi hne => Below.heap_setCell w ⟨b, o, none⟩ v i (fun e => hne (by rw [e]))⟩
theorem own_not_low {base e size n q : Nat} {v : Value} {cs : List Value} (ho : wr.ownsRow base e size v n cs) (hq : q < base) : v.ownBlock = none ∨ v.ownBlock ≠ some q := by
  cases hv : v.ownBlock with
  | none => exact .inl rfl
  | some k => exact .inr fun he => by have := (ho.lt k hv).1; injection he; omega
theorem NS.set0 (h : NS B g P w p b xs D d wr) (b' : Int) : NS B g P w p b' xs D d (wr.setCell ⟨p, 0, none⟩ (.int .i64 b')) :=
  ⟨by simpa using h.blk.set_ 0 (.int .i64 b'), h.res.far (p := ⟨p, 0, none⟩) (by have := h.lt; simp; omega) _, h.own.kept (setc_grown _ _ _ _) (own_not_low h.own (by omega)), h.rd.grown (setc_grown _ _ _ _) (fun k hk => by injection hk with hk; have := h.lt; omega), grown_step h.grow (setc_grown _ _ _ _) (fun k hk => by injection hk with hk; have := h.lt; omega), h.lt⟩
theorem NS.app {ys : List (Int × Int × Int)} {D' : Option Addr} {d' m : Nat} (h : NS B g P w p b xs D d wr) (hm : ys.length = m) (k : wr.grownBy w' (Value.slice D xs.length d).ownBlock) (ho : w'.ownsRow (p + 1) 76 3 (.slice D' m d') m (enc3 ys)) : NS B g P w p b ys D' d' (w'.setCell ⟨p, 1, none⟩ (.slice D' m d')) := by
  subst hm
  have hne : ∀ q, q ≤ p → some q ≠ (Value.slice D xs.length d).ownBlock := fun q hq e => by have := (h.own.lt q e.symm).1; omega
  have hlt := h.lt
  have hbig : ∀ k, (Value.slice D xs.length d).ownBlock = some k → p < k := fun k hk => (h.own.lt k hk).1
  exact ⟨by simpa using (h.blk.grown k (hne _ (Nat.le_refl _))).set_ 1 (.slice D' ys.length d'), (h.res.grown k (hne _ (by omega))).far (p := ⟨p, 1, none⟩) (by simp; omega) _, ho.kept (setc_grown _ _ _ _) (own_not_low ho (by omega)), (h.rd.grown k (fun q hq => by have := hbig q hq; omega)).grown (setc_grown _ _ _ _) (fun k hk => by injection hk; omega), grown_step (grown_step h.grow k (fun q hq => by have := hbig q hq; omega)) (setc_grown _ _ _ _) (fun k hk => by injection hk; omega), h.lt⟩
theorem NS.put {D' : Option Addr} {d' m : Nat} (h : NS B g P w p b xs D d wr) (ys : List (Int × Int × Int)) (hm : ys.length = m) (ho : wr.ownsRow (p + 1) 76 3 (.slice D' m d') m (enc3 ys)) : NS B g P w p b ys D' d' (wr.setCell ⟨p, 1, none⟩ (.slice D' m d')) := by
  subst hm
  have hlt := h.lt
  exact ⟨by simpa using h.blk.set_ 1 (.slice D' ys.length d'), h.res.far (p := ⟨p, 1, none⟩) (by simp; omega) _, ho.kept (setc_grown _ _ _ _) (own_not_low ho (by omega)), h.rd.grown (setc_grown _ _ _ _) (fun k hk => by injection hk; omega), grown_step h.grow (setc_grown _ _ _ _) (fun k hk => by injection hk; omega), h.lt⟩
theorem NS.app_cell (h : NS B g P w p b xs D d wr) (k : wr.grownBy w' (Value.slice D xs.length d).ownBlock) : w'.cell? ⟨p, 1, none⟩ = some (.slice D xs.length d) ∧ w'.frozen? ⟨p, 1, none⟩ = false := by
  have hb := h.blk.grown k (fun e => by have := (h.own.lt p e.symm).1; omega)
  exact ⟨hb.cell 1, hb.frozen 1⟩
theorem NS.app_more (h : NS B g P w p b xs D d wr) (k : wr.grownBy w' (Value.slice D xs.length d).ownBlock) : w'.cell? ⟨p, 1, none⟩ = some (.slice D xs.length d) ∧ w'.frozen? ⟨p, 1, none⟩ = false ∧ w'.cell? ⟨p, 0, none⟩ = some (.int .i64 b) ∧ (w'.cell? ⟨w.heap.size, 0, none⟩ = some (.int .i64 0) ∧ w'.cell? ⟨w.heap.size, 1, none⟩ = some (.slice none 0 0)) ∧ w'.frozen? ⟨w.heap.size, 0, none⟩ = false ∧ w'.frozen? ⟨w.heap.size, 1, none⟩ = false := by
  have hb := h.blk.grown k (fun e => by have := (h.own.lt p e.symm).1; omega)
  have hr := h.res.grown k (fun e => by have := (h.own.lt _ e.symm).1; have := h.lt; omega)
  exact ⟨hb.cell 1, hb.frozen 1, hb.cell 0, hr.two, hr.frozen 0, hr.frozen 1⟩
theorem NS.cell0 (h : NS B g P w p b xs D d wr) : wr.cell? ⟨p, 0, none⟩ = some (.int .i64 b) := h.blk.cell 0
theorem NS.cell1 (h : NS B g P w p b xs D d wr) : wr.cell? ⟨p, 1, none⟩ = some (.slice D xs.length d) := h.blk.cell 1
theorem NS.done {Q : Nat} {u v : Value} (h : NS B g P w p b xs D d wr) (hb : -1 ≤ b ∧ b ≤ 9) (hl : xs.length ≤ 11) (hq : P ≤ Q) : DrawnN B g Q w (.returned (.agg #[.int .i64 b, .slice D xs.length d])) ((wr.setCell ⟨w.heap.size, 0, none⟩ u).setCell ⟨w.heap.size, 1, none⟩ v) := by
  have hlt := h.lt
  have hn := own_not_low h.own (q := w.heap.size) (by omega)
  refine ⟨b, xs, D, d, hb, hl, rfl, own_mono ((h.own.kept (setc_grown _ _ _ _) hn).kept (setc_grown _ _ _ _) hn) (by omega), ((h.rd.grown (setc_grown _ _ _ _) (fun k hk => by injection hk; omega)).grown (setc_grown _ _ _ _) (fun k hk => by injection hk; omega)).more hq, grown_step (grown_step h.grow (setc_grown _ _ _ _) (fun k hk => by injection hk; omega)) (setc_grown _ _ _ _) (fun k hk => by injection hk; omega)⟩
theorem NS.donec (h : NS B g P w p b xs D d wr) : ((wr.setCell ⟨w.heap.size, 0, none⟩ (.int .i64 b)).setCell ⟨w.heap.size, 1, none⟩ (.slice D xs.length d)).cell? ⟨w.heap.size, 0, none⟩ = some (.int .i64 b) ∧ ((wr.setCell ⟨w.heap.size, 0, none⟩ (.int .i64 b)).setCell ⟨w.heap.size, 1, none⟩ (.slice D xs.length d)).cell? ⟨w.heap.size, 1, none⟩ = some (.slice D xs.length d) := by
  have hB := (h.res.set_ 0 (.int .i64 b)).set_ 1 (.slice D xs.length d)
  exact ⟨(hB.cell 0).trans (by simp), (hB.cell 1).trans (by simp)⟩
theorem NS.ret {Q n : Nat} {a : Act} (h : NS B g P w p b xs D d wr) (hb : -1 ≤ b ∧ b ≤ 9) (hn : xs.length = n) (hl : xs.length ≤ 11) (hq : P ≤ Q) (h4 : a.tmps[4]?.getD undef = .pointer (some ⟨w.heap.size, 0, none⟩)) (hd : a.defers = []) :
    bodyPost Tryd.prog Tryd.f100 (DrawnN B g Q w) .ret a ((wr.setCell ⟨w.heap.size, 0, none⟩ (.int .i64 b)).setCell ⟨w.heap.size, 1, none⟩ (.slice D n d)) := by
  subst hn
  obtain ⟨p0, p1⟩ := h.donec
  exact bodyPost_ret (v := .agg #[.int .i64 b, .slice D xs.length d]) (by simp [results, Tryd.results100, go_sem, h4, p0, p1]) hd (h.done hb hl hq)
theorem NS.size (h : NS B g P w p b xs D d wr) : p < wr.heap.size := h.blk.lt
theorem NS.more {Q : Nat} (h : NS B g P w p b xs D d wr) (hq : P ≤ Q) : NS B g Q w p b xs D d wr := ⟨h.blk, h.res, h.own, h.rd.more hq, h.grow, h.lt⟩
theorem NS.first (hr : RdU B wr g P) (hg : w.grownBy wr (some g)) (h0 : Blk wr w.heap.size 50 #[.int .i64 0, .slice none 0 0]) (hgw : g < w.heap.size) : NS B g P w wr.heap.size b [] none 0 (wr.alloc (.cells #[.int .i64 b, .slice none 0 0] 50)) :=
  ⟨Blk.new _ _ _, h0.alloc _, World.ownsRow_nil _ _ _ _, hr.grown (World.grownBy_alloc wr _ none) (fun k hk => by cases hk), grown_alloc hg _, ⟨hgw, h0.lt⟩⟩
end

set_option maxRecDepth 8000 in
set_option maxHeartbeats 4000000 in
theorem l20Net_any (B g P : Nat) (n : Int) (w : World) (h : RdU B w g P) (hp : P ≤ 1000) (hn : n ≤ 1000000) :
    Calls Tryd.prog 100 #[.pointer (some ⟨g, 0, none⟩), .int .i64 n] w (DrawnN B g (P + 60) w) := by
  have hgw := h.lt
  have G0 := hide (grown_alloc (World.grownBy.refl w (some g)) (.cells #[.int .i64 0, .slice none 0 0] 50))
  have R0 := hide (h.grown (World.grownBy_alloc w (.cells #[.int .i64 0, .slice none 0 0] 50) none) (fun k hk => by cases hk))
  have Z0 := hide (Blk.new w 50 #[.int .i64 0, .slice none 0 0])
  clear h
  go_enter Tryd.func100, Tryd.ntmps100
  go_wp2_with fail
  refine (pick_u B g P 8 _ R0.out (by omega)).mono ?_
  rintro e w1 ⟨v, v1, v2, _, rfl, h1, o1⟩
  have v3 := v2 (by omega)
  have ST1 := hide (NS.first (b := 1 + v) h1 (G0.out.trans o1.1) (Z0.out.grown o1.1 (fun he => by injection he; omega)) hgw)
  clear v2 h1 o1 G0 R0 Z0
  go_wp2_with fail
  refine (pick_u B g _ 3 _ ST1.out.rd (by omega)).mono ?_
  rintro e w2 ⟨u, u1, u2, _, rfl, h2, o2⟩
  have ST2 := hide (ST1.out.only o2 h2)
  clear u2 h2 o2 ST1
  by_cases hu : 0 < u
  · go_wp2_with fail
    refine (pick_u B g _ 4 _ ST2.out.rd (by omega)).mono ?_
    rintro e w3 ⟨z, z1, z2, _, rfl, h2, o2⟩
    have z3 := z2 (by omega)
    have ST3 := hide (ST2.out.only o2 h2)
    have c0 := ST3.out.cell0
    have f0 := ST3.out.blk.frozen 0
    have ST := hide (ST3.out.set0 (4 + z))
    clear z2 h2 o2 ST2 ST3
    go_wp2_with fail
    generalize hbe : 4 + z = b at *
    have hb0 : 1 ≤ b ∧ b ≤ 8 := by omega
    clear hbe
    have hps := ST.out.size
    have hlt := ST.out.lt
    generalize w1.heap.size = p at *
    refine (pick_u B g _ 11 _ ST.out.rd (by omega)).mono ?_
    rintro e w4 ⟨m0', u1, u2, _, rfl, h2, o2⟩
    have u3 := u2 (by omega)
    have ST4 := hide (ST.out.only o2 h2)
    clear u2 h2 o2 ST
    obtain ⟨m0, rfl⟩ := Int.eq_ofNat_of_zero_le u1
    go_wp2_with fail
    go_loopw [6, 7, 8] (fun k _ _ wr => ∃ (xs : List (Int × Int × Int)) (D : Option Addr) (d : Nat) (m : Nat), k = .int .i64 m ∧ xs.length + m ≤ 10 ∧ NS B g (P + 4 + 3 * xs.length) w p b xs D d wr) (fun k _ _ _ => (intOf k).toNat)
    case atStart => exact ⟨[], _, _, m0, rfl, by simp; omega, ST4.out.more (by omega)⟩
    case round =>
      obtain ⟨xs, D, d, m, rfl, hl, hst⟩ := hrel
      have ST := hide hst
      have c0 := hst.cell0
      have c1 := hst.cell1
      clear hst
      by_cases hm : 0 < m
      · by_cases hb : 1 < b
        · go_wp2_with fail
          refine (pick_u B g _ b _ ST.out.rd (by omega)).mono ?_
          rintro e w5 ⟨x, x1, x2, _, rfl, h2, o2⟩
          have ST5 := hide (ST.out.only o2 h2)
          clear x2 h2 o2 ST c0 c1
          have c0 := ST5.out.cell0
          have hbz : (b == 0) = false := by simp; omega
          have hb1 : ¬ b = 0 := by omega
          go_wp2_with fail
          go_region_held3 (fun w' => w'.cell? ⟨p, 0, none⟩ = some (.int .i64 b))
            (first | assumption | go_keep)
            ((go_at_call 54; refine (pick_u B g (P + 4 + 3 * xs.length + 1) _ _ ?_ ?_).mono ?_; exact ST5.out.drew.rd; omega; rintro _ w6 ⟨y, y1, y2, _, rfl, h6, o6⟩; have ST6 := hide (ST5.out.drew.only o6 h6); have v0 := ST6.out.cell0))
          clear y2 h6 o6 ST5 c0 v0
          have c1 := ST6.out.cell1
          generalize (IntKind.i64.wrap (IntKind.i64.wrap (x + 1) + y)).tmod b = q
          go_wp2_with fail
          have hs6 := ST6.out.size
          go_region_law (first | (refine step_app3 48 76 Tryd.underlying48 infoLine rfl (.tmp 47) (.tmp 54) rfl (p + 1) D xs.length d xs _ _ _ (by simp [Act.eval]) (ST7.out.alloc _).own _ (Blk.new _ _ _) (by simp [Act.eval]) ?_ ?_ ?_; exact (ST7.out.alloc _).size; omega; intro gq cap w8 ho8 hg8; obtain ⟨v8, f8⟩ := (ST7.out.alloc _).app_cell hg8; have ST9 := hide (NS.app (ST7.out.alloc _) (by simp) hg8 ho8)) | (go_simp; go_at_call 54; refine (pick_u B g (P + 4 + 3 * xs.length + 1 + 1) _ _ ?_ ?_).mono ?_; exact ST6.out.drew.rd; omega; rintro _ w7 ⟨r, r1, r2, _, rfl, h7, o7⟩; have ST7 := hide (ST6.out.drew.only o7 h7); have v0 := ST7.out.cell1; have hs7 := ST7.out.size))
          all_goals go_wp2_with fail
          all_goals exact ⟨⟨xs ++ [_], _, _, m - 1, by go_num, by simp; omega, ST9.out.more (by simp; omega)⟩, by simp [intOf]; omega⟩
        · skip
          go_wp2_with fail
          refine (odd_u B g _ n _ ST.out.rd (by omega) hn).mono ?_
          rintro e w5 ⟨bo, rfl, h2, o2⟩
          have ST5 := hide (ST.out.only o2 h2)
          clear h2 o2 ST c0 c1
          cases bo
          · have ST9 := ST5
            clear ST5
            have c0 := ST9.out.cell0
            have c1 := ST9.out.cell1
            have r0 := ST9.out.res.two
            have r1 := ST9.out.res.frozen 0
            have r2 := ST9.out.res.frozen 1
            go_wp2_with fail
            refine ST9.out.ret ?_ ?_ ?_ ?_ rfl rfl
            · omega
            · first | rfl | (simp; done)
            · first | omega | (simp; done) | (simp; omega)
            · omega
          · go_wp2_with fail
            refine (pick_u B g _ 5 _ ST5.out.rd (by omega)).mono ?_
            rintro e w6 ⟨v, u1, u2, _, rfl, h3, o3⟩
            have u3 := u2 (by omega)
            have ST6 := hide (ST5.out.only o3 h3)
            have c0 := ST6.out.cell0
            have c1 := ST6.out.cell1
            have hs6 := ST6.out.size
            clear u2 h3 o3 ST5
            rcases (by omega : v = 0 ∨ v = 1 ∨ v = 2 ∨ v = 3 ∨ v = 4) with rfl | rfl | rfl | rfl | rfl
            · have ST7 := hide (ST6.out.alloc (.cells #[.int .i64 0, .int .i64 (-1), .int .i64 9] 3))
              have BT := hide (Blk.new w6 3 #[.int .i64 0, .int .i64 (-1), .int .i64 9])
              clear c0 c1
              go_wp2_with fail
              refine (pick_u B g _ 3 _ ST7.out.rd (by omega)).mono ?_
              rintro e w8 ⟨t, t1, t2, _, rfl, h5, o5⟩
              have t3 := t2 (by omega)
              have ST8 := hide (ST7.out.only o5 h5)
              have BT8 := hide (BT.out.grown o5.1 (fun he => by injection he; omega))
              obtain ⟨y, hy, hcell⟩ : ∃ y : Int, (-1 ≤ y ∧ y ≤ 9) ∧ w8.cell? ⟨w6.heap.size, t.toNat, none⟩ = some (.int .i64 y) := by
                rcases (by omega : t = 0 ∨ t = 1 ∨ t = 2) with rfl | rfl | rfl
                · exact ⟨0, by omega, BT8.out.cell 0⟩
                · exact ⟨-1, by omega, BT8.out.cell 1⟩
                · exact ⟨9, by omega, BT8.out.cell 2⟩
              obtain ⟨nt, rfl⟩ := Int.eq_ofNat_of_zero_le t1
              rw [Int.toNat_natCast] at hcell
              have ST9 := hide (ST8.out.set0 y)
              have c0 := ST8.out.cell0
              have c1 := ST8.out.cell1
              have r0 := ST8.out.res.two
              have r1 := ST8.out.res.frozen 0
              have r2 := ST8.out.res.frozen 1
              have f0 := ST8.out.blk.frozen 0
              clear t2 h5 o5 ST6 ST7 BT BT8 ST8
              go_wp2_with fail
              refine ST9.out.ret ?_ ?_ ?_ ?_ rfl rfl
              · omega
              · first | rfl | (simp; done)
              · first | omega | (simp; done) | (simp; omega)
              · omega
            · go_wp2_with (at_builtin; refine app_three 48 76 Tryd.underlying48 infoLine w6 rfl (.tmp 75) (.tmp 79) rfl (p + 1) D xs.length d xs (0, b, 5) rfl ST6.out.own w6.heap.size rfl rfl hs6 (by omega) ?_; intro D2 d2 w7 ho7 hg7; obtain ⟨v8, f8, k0, k1, k2, k3⟩ := ST6.out.app_more hg7; have ST9 := hide (NS.app ST6.out (by simp) hg7 ho7); clear ho7 hg7)
              refine ST9.out.ret ?_ ?_ ?_ ?_ rfl rfl
              · omega
              · first | rfl | (simp; done)
              · first | omega | (simp; done) | (simp; omega)
              · omega
            · go_wp2_with (at_builtin; refine app_three 48 76 Tryd.underlying48 infoLine w6 rfl (.tmp 85) (.tmp 87) rfl (p + 1) D xs.length d xs (0, 0, 5) rfl ST6.out.own w6.heap.size rfl rfl hs6 (by omega) ?_; intro D2 d2 w7 ho7 hg7; obtain ⟨v8, f8, k0, k1, k2, k3⟩ := ST6.out.app_more hg7; have ST9 := hide (NS.app ST6.out (by simp) hg7 ho7); clear ho7 hg7)
              refine ST9.out.ret ?_ ?_ ?_ ?_ rfl rfl
              · omega
              · first | rfl | (simp; done)
              · first | omega | (simp; done) | (simp; omega)
              · omega
            · clear c0 c1
              have c1 := ST6.out.cell1
              have ST6a := hide (ST6.out.drew.alloc (.cells #[.int .i64 0, .int .i64 1000] 3))
              have BT := hide (Blk.new w6.drew 3 #[.int .i64 0, .int .i64 1000])
              go_wp2_with fail
              go_region_law (first | (refine step_app3 48 76 Tryd.underlying48 infoLine rfl (.tmp 93) (.tmp 100) rfl (p + 1) D xs.length d xs _ _ _ (by simp [Act.eval]) (ST7.out.alloc _).own _ (Blk.new _ _ _) (by simp [Act.eval]) ?_ ?_ ?_; exact (ST7.out.alloc _).size; omega; intro gq cap w8 ho8 hg8; obtain ⟨v8, f8, k0, k1, k2, k3⟩ := (ST7.out.alloc _).app_more hg8; have ST9 := hide (NS.app (ST7.out.alloc _) (by simp) hg8 ho8)) | (refine step_app3 48 76 Tryd.underlying48 infoLine rfl (.tmp 93) (.tmp 100) rfl (p + 1) D xs.length d xs _ _ _ (by simp [Act.eval]) ((ST7.out.alloc _).alloc _).own _ (Blk.new _ _ _) (by simp [Act.eval]) ?_ ?_ ?_; exact ((ST7.out.alloc _).alloc _).size; omega; intro gq cap w8 ho8 hg8; obtain ⟨v8, f8, k0, k1, k2, k3⟩ := ((ST7.out.alloc _).alloc _).app_more hg8; have ST9 := hide (NS.app ((ST7.out.alloc _).alloc _) (by simp) hg8 ho8)) | (go_simp; go_at_call 54; refine (pick_u B g (P + 5 + 3 * xs.length + 1) _ _ ?_ ?_).mono ?_; exact ST6a.out.rd.more (by omega); omega; rintro _ w7 ⟨r, r1, r2, _, rfl, h7, o7⟩; have r3 := r2 (by omega); have ST7 := hide (ST6a.out.only o7 h7); have v0 := ST7.out.cell1; have hs7 := ST7.out.size; have BT8 := BT.out.grown o7.1 (fun he => by injection he with he; have e0 : w6.drew.heap.size = w6.heap.size := rfl; omega); obtain ⟨nr, rfl⟩ := Int.eq_ofNat_of_zero_le r1; obtain ⟨y, hcell⟩ := two_cell BT8 r1 r3; rw [Int.toNat_natCast] at hcell; replace hcell : w7.cell? ⟨w6.heap.size, nr, none⟩ = some (.int .i64 y) := hcell; clear BT8 r2 h7 o7) | (go_simp; go_at_call 54; refine (pick_u B g (P + 5 + 3 * xs.length + 1) _ _ ?_ ?_).mono ?_; exact ST6.out.drew.rd.more (by omega); omega; rintro _ w7 ⟨r, r1, r2, _, rfl, h7, o7⟩; have r3 := r2 (by omega); have ST7 := hide (ST6.out.drew.only o7 h7); have v0 := ST7.out.cell1; have hs7 := ST7.out.size; obtain ⟨nr, rfl⟩ := Int.eq_ofNat_of_zero_le r1; obtain ⟨y, hcell⟩ := two_cell (Blk.new w7 3 #[.int .i64 0, .int .i64 1000]) r1 r3; rw [Int.toNat_natCast] at hcell; have hcell2 := (Blk.cell (Blk.new w7 3 #[.int .i64 0, .int .i64 1000]) nr).symm.trans hcell; clear r2 h7 o7))
              all_goals (go_wp2_with fail; refine ST9.out.ret ?_ ?_ ?_ ?_ rfl rfl <;> first | omega | rfl | (simp; done) | (simp; omega))
            · skip
              have c0 := ST6.out.cell0
              have c1 := ST6.out.cell1
              have r0 := ST6.out.res.two
              have r1 := ST6.out.res.frozen 0
              have r2 := ST6.out.res.frozen 1
              have HM := hide (own_made (w := w6) (e := 76) (size := 3) (n := 11) (cs := enc3 (List.replicate 11 (0, 0, 0))) (by simp [enc3]) (by unfold maxLen; omega))
              have mk := make11Line w6
              have f1 := ST6.out.blk.frozen 1
              have q1 : w.heap.size < w6.heap.size := by omega
              have q2 : ¬ w.heap.size = w6.heap.size := by omega
              have q3 : ¬ p = w6.heap.size := by omega
              have q4 : ¬ p = w.heap.size := by omega
              have q5 : ¬ w.heap.size = p := by omega
              have ST9 := hide ((ST6.out.alloc (.cells (zrow 33) 76)).put (List.replicate 11 (0, 0, 0)) (by simp) (own_mono HM.out (by omega)))
              go_wp2_with fail
              rw [← World.setCell_alloc_past _ _ _ _ (show w.heap.size < ((w6.setCell _ _).setCell _ _).heap.size by simp [World.setCell]; omega), ← World.setCell_alloc_past _ _ _ _ (show w.heap.size < (w6.setCell _ _).heap.size by simp [World.setCell]; omega), ← World.setCell_alloc_past _ _ _ _ hs6]
              refine ST9.out.ret ?_ ?_ ?_ ?_ rfl rfl
              · omega
              · first | rfl | (simp; done)
              · first | omega | (simp; done) | (simp; omega)
              · omega
      · skip
        go_wp2_with fail
        refine (odd_u B g _ n _ ST.out.rd (by omega) hn).mono ?_
        rintro e w5 ⟨bo, rfl, h2, o2⟩
        have ST5 := hide (ST.out.only o2 h2)
        clear h2 o2 ST c0 c1
        cases bo
        · have ST9 := ST5
          clear ST5
          have c0 := ST9.out.cell0
          have c1 := ST9.out.cell1
          have r0 := ST9.out.res.two
          have r1 := ST9.out.res.frozen 0
          have r2 := ST9.out.res.frozen 1
          go_wp2_with fail
          refine ST9.out.ret ?_ ?_ ?_ ?_ rfl rfl
          · omega
          · first | rfl | (simp; done)
          · first | omega | (simp; done) | (simp; omega)
          · omega
        · go_wp2_with fail
          refine (pick_u B g _ 5 _ ST5.out.rd (by omega)).mono ?_
          rintro e w6 ⟨v, u1, u2, _, rfl, h3, o3⟩
          have u3 := u2 (by omega)
          have ST6 := hide (ST5.out.only o3 h3)
          have c0 := ST6.out.cell0
          have c1 := ST6.out.cell1
          have hs6 := ST6.out.size
          clear u2 h3 o3 ST5
          rcases (by omega : v = 0 ∨ v = 1 ∨ v = 2 ∨ v = 3 ∨ v = 4) with rfl | rfl | rfl | rfl | rfl
          · have ST7 := hide (ST6.out.alloc (.cells #[.int .i64 0, .int .i64 (-1), .int .i64 9] 3))
            have BT := hide (Blk.new w6 3 #[.int .i64 0, .int .i64 (-1), .int .i64 9])
            clear c0 c1
            go_wp2_with fail
            refine (pick_u B g _ 3 _ ST7.out.rd (by omega)).mono ?_
            rintro e w8 ⟨t, t1, t2, _, rfl, h5, o5⟩
            have t3 := t2 (by omega)
            have ST8 := hide (ST7.out.only o5 h5)
            have BT8 := hide (BT.out.grown o5.1 (fun he => by injection he; omega))
            obtain ⟨y, hy, hcell⟩ : ∃ y : Int, (-1 ≤ y ∧ y ≤ 9) ∧ w8.cell? ⟨w6.heap.size, t.toNat, none⟩ = some (.int .i64 y) := by
              rcases (by omega : t = 0 ∨ t = 1 ∨ t = 2) with rfl | rfl | rfl
              · exact ⟨0, by omega, BT8.out.cell 0⟩
              · exact ⟨-1, by omega, BT8.out.cell 1⟩
              · exact ⟨9, by omega, BT8.out.cell 2⟩
            obtain ⟨nt, rfl⟩ := Int.eq_ofNat_of_zero_le t1
            rw [Int.toNat_natCast] at hcell
            have ST9 := hide (ST8.out.set0 y)
            have c0 := ST8.out.cell0
            have c1 := ST8.out.cell1
            have r0 := ST8.out.res.two
            have r1 := ST8.out.res.frozen 0
            have r2 := ST8.out.res.frozen 1
            have f0 := ST8.out.blk.frozen 0
            clear t2 h5 o5 ST6 ST7 BT BT8 ST8
            go_wp2_with fail
            refine ST9.out.ret ?_ ?_ ?_ ?_ rfl rfl
            · omega
            · first | rfl | (simp; done)
            · first | omega | (simp; done) | (simp; omega)
            · omega
          · go_wp2_with (at_builtin; refine app_three 48 76 Tryd.underlying48 infoLine w6 rfl (.tmp 75) (.tmp 79) rfl (p + 1) D xs.length d xs (0, b, 5) rfl ST6.out.own w6.heap.size rfl rfl hs6 (by omega) ?_; intro D2 d2 w7 ho7 hg7; obtain ⟨v8, f8, k0, k1, k2, k3⟩ := ST6.out.app_more hg7; have ST9 := hide (NS.app ST6.out (by simp) hg7 ho7); clear ho7 hg7)
            refine ST9.out.ret ?_ ?_ ?_ ?_ rfl rfl
            · omega
            · first | rfl | (simp; done)
            · first | omega | (simp; done) | (simp; omega)
            · omega
          · go_wp2_with (at_builtin; refine app_three 48 76 Tryd.underlying48 infoLine w6 rfl (.tmp 85) (.tmp 87) rfl (p + 1) D xs.length d xs (0, 0, 5) rfl ST6.out.own w6.heap.size rfl rfl hs6 (by omega) ?_; intro D2 d2 w7 ho7 hg7; obtain ⟨v8, f8, k0, k1, k2, k3⟩ := ST6.out.app_more hg7; have ST9 := hide (NS.app ST6.out (by simp) hg7 ho7); clear ho7 hg7)
            refine ST9.out.ret ?_ ?_ ?_ ?_ rfl rfl
            · omega
            · first | rfl | (simp; done)
            · first | omega | (simp; done) | (simp; omega)
            · omega
          · clear c0 c1
            have c1 := ST6.out.cell1
            have ST6a := hide (ST6.out.drew.alloc (.cells #[.int .i64 0, .int .i64 1000] 3))
            have BT := hide (Blk.new w6.drew 3 #[.int .i64 0, .int .i64 1000])
            go_wp2_with fail
            go_region_law (first | (refine step_app3 48 76 Tryd.underlying48 infoLine rfl (.tmp 93) (.tmp 100) rfl (p + 1) D xs.length d xs _ _ _ (by simp [Act.eval]) (ST7.out.alloc _).own _ (Blk.new _ _ _) (by simp [Act.eval]) ?_ ?_ ?_; exact (ST7.out.alloc _).size; omega; intro gq cap w8 ho8 hg8; obtain ⟨v8, f8, k0, k1, k2, k3⟩ := (ST7.out.alloc _).app_more hg8; have ST9 := hide (NS.app (ST7.out.alloc _) (by simp) hg8 ho8)) | (refine step_app3 48 76 Tryd.underlying48 infoLine rfl (.tmp 93) (.tmp 100) rfl (p + 1) D xs.length d xs _ _ _ (by simp [Act.eval]) ((ST7.out.alloc _).alloc _).own _ (Blk.new _ _ _) (by simp [Act.eval]) ?_ ?_ ?_; exact ((ST7.out.alloc _).alloc _).size; omega; intro gq cap w8 ho8 hg8; obtain ⟨v8, f8, k0, k1, k2, k3⟩ := ((ST7.out.alloc _).alloc _).app_more hg8; have ST9 := hide (NS.app ((ST7.out.alloc _).alloc _) (by simp) hg8 ho8)) | (go_simp; go_at_call 54; refine (pick_u B g (P + 5 + 3 * xs.length + 1) _ _ ?_ ?_).mono ?_; exact ST6a.out.rd.more (by omega); omega; rintro _ w7 ⟨r, r1, r2, _, rfl, h7, o7⟩; have r3 := r2 (by omega); have ST7 := hide (ST6a.out.only o7 h7); have v0 := ST7.out.cell1; have hs7 := ST7.out.size; have BT8 := BT.out.grown o7.1 (fun he => by injection he with he; have e0 : w6.drew.heap.size = w6.heap.size := rfl; omega); obtain ⟨nr, rfl⟩ := Int.eq_ofNat_of_zero_le r1; obtain ⟨y, hcell⟩ := two_cell BT8 r1 r3; rw [Int.toNat_natCast] at hcell; replace hcell : w7.cell? ⟨w6.heap.size, nr, none⟩ = some (.int .i64 y) := hcell; clear BT8 r2 h7 o7) | (go_simp; go_at_call 54; refine (pick_u B g (P + 5 + 3 * xs.length + 1) _ _ ?_ ?_).mono ?_; exact ST6.out.drew.rd.more (by omega); omega; rintro _ w7 ⟨r, r1, r2, _, rfl, h7, o7⟩; have r3 := r2 (by omega); have ST7 := hide (ST6.out.drew.only o7 h7); have v0 := ST7.out.cell1; have hs7 := ST7.out.size; obtain ⟨nr, rfl⟩ := Int.eq_ofNat_of_zero_le r1; obtain ⟨y, hcell⟩ := two_cell (Blk.new w7 3 #[.int .i64 0, .int .i64 1000]) r1 r3; rw [Int.toNat_natCast] at hcell; have hcell2 := (Blk.cell (Blk.new w7 3 #[.int .i64 0, .int .i64 1000]) nr).symm.trans hcell; clear r2 h7 o7))
            all_goals (go_wp2_with fail; refine ST9.out.ret ?_ ?_ ?_ ?_ rfl rfl <;> first | omega | rfl | (simp; done) | (simp; omega))
          · skip
            have c0 := ST6.out.cell0
            have c1 := ST6.out.cell1
            have r0 := ST6.out.res.two
            have r1 := ST6.out.res.frozen 0
            have r2 := ST6.out.res.frozen 1
            have HM := hide (own_made (w := w6) (e := 76) (size := 3) (n := 11) (cs := enc3 (List.replicate 11 (0, 0, 0))) (by simp [enc3]) (by unfold maxLen; omega))
            have mk := make11Line w6
            have f1 := ST6.out.blk.frozen 1
            have q1 : w.heap.size < w6.heap.size := by omega
            have q2 : ¬ w.heap.size = w6.heap.size := by omega
            have q3 : ¬ p = w6.heap.size := by omega
            have q4 : ¬ p = w.heap.size := by omega
            have q5 : ¬ w.heap.size = p := by omega
            have ST9 := hide ((ST6.out.alloc (.cells (zrow 33) 76)).put (List.replicate 11 (0, 0, 0)) (by simp) (own_mono HM.out (by omega)))
            go_wp2_with fail
            rw [← World.setCell_alloc_past _ _ _ _ (show w.heap.size < ((w6.setCell _ _).setCell _ _).heap.size by simp [World.setCell]; omega), ← World.setCell_alloc_past _ _ _ _ (show w.heap.size < (w6.setCell _ _).heap.size by simp [World.setCell]; omega), ← World.setCell_alloc_past _ _ _ _ hs6]
            refine ST9.out.ret ?_ ?_ ?_ ?_ rfl rfl
            · omega
            · first | rfl | (simp; done)
            · first | omega | (simp; done) | (simp; omega)
            · omega
  · have ST := ST2
    clear ST2
    go_wp2_with fail
    generalize hbe : 1 + v = b at *
    have hb0 : 1 ≤ b ∧ b ≤ 8 := by omega
    clear hbe
    have hps := ST.out.size
    have hlt := ST.out.lt
    generalize w1.heap.size = p at *
    refine (pick_u B g _ 11 _ ST.out.rd (by omega)).mono ?_
    rintro e w4 ⟨m0', u1, u2, _, rfl, h2, o2⟩
    have u3 := u2 (by omega)
    have ST4 := hide (ST.out.only o2 h2)
    clear u2 h2 o2 ST
    obtain ⟨m0, rfl⟩ := Int.eq_ofNat_of_zero_le u1
    go_wp2_with fail
    go_loopw [6, 7, 8] (fun k _ _ wr => ∃ (xs : List (Int × Int × Int)) (D : Option Addr) (d : Nat) (m : Nat), k = .int .i64 m ∧ xs.length + m ≤ 10 ∧ NS B g (P + 4 + 3 * xs.length) w p b xs D d wr) (fun k _ _ _ => (intOf k).toNat)
    case atStart => exact ⟨[], _, _, m0, rfl, by simp; omega, ST4.out.more (by omega)⟩
    case round =>
      obtain ⟨xs, D, d, m, rfl, hl, hst⟩ := hrel
      have ST := hide hst
      have c0 := hst.cell0
      have c1 := hst.cell1
      clear hst
      by_cases hm : 0 < m
      · by_cases hb : 1 < b
        · go_wp2_with fail
          refine (pick_u B g _ b _ ST.out.rd (by omega)).mono ?_
          rintro e w5 ⟨x, x1, x2, _, rfl, h2, o2⟩
          have ST5 := hide (ST.out.only o2 h2)
          clear x2 h2 o2 ST c0 c1
          have c0 := ST5.out.cell0
          have hbz : (b == 0) = false := by simp; omega
          have hb1 : ¬ b = 0 := by omega
          go_wp2_with fail
          go_region_held3 (fun w' => w'.cell? ⟨p, 0, none⟩ = some (.int .i64 b))
            (first | assumption | go_keep)
            ((go_at_call 54; refine (pick_u B g (P + 4 + 3 * xs.length + 1) _ _ ?_ ?_).mono ?_; exact ST5.out.drew.rd; omega; rintro _ w6 ⟨y, y1, y2, _, rfl, h6, o6⟩; have ST6 := hide (ST5.out.drew.only o6 h6); have v0 := ST6.out.cell0))
          clear y2 h6 o6 ST5 c0 v0
          have c1 := ST6.out.cell1
          generalize (IntKind.i64.wrap (IntKind.i64.wrap (x + 1) + y)).tmod b = q
          go_wp2_with fail
          have hs6 := ST6.out.size
          go_region_law (first | (refine step_app3 48 76 Tryd.underlying48 infoLine rfl (.tmp 47) (.tmp 54) rfl (p + 1) D xs.length d xs _ _ _ (by simp [Act.eval]) (ST7.out.alloc _).own _ (Blk.new _ _ _) (by simp [Act.eval]) ?_ ?_ ?_; exact (ST7.out.alloc _).size; omega; intro gq cap w8 ho8 hg8; obtain ⟨v8, f8⟩ := (ST7.out.alloc _).app_cell hg8; have ST9 := hide (NS.app (ST7.out.alloc _) (by simp) hg8 ho8)) | (go_simp; go_at_call 54; refine (pick_u B g (P + 4 + 3 * xs.length + 1 + 1) _ _ ?_ ?_).mono ?_; exact ST6.out.drew.rd; omega; rintro _ w7 ⟨r, r1, r2, _, rfl, h7, o7⟩; have ST7 := hide (ST6.out.drew.only o7 h7); have v0 := ST7.out.cell1; have hs7 := ST7.out.size))
          all_goals go_wp2_with fail
          all_goals exact ⟨⟨xs ++ [_], _, _, m - 1, by go_num, by simp; omega, ST9.out.more (by simp; omega)⟩, by simp [intOf]; omega⟩
        · skip
          go_wp2_with fail
          refine (odd_u B g _ n _ ST.out.rd (by omega) hn).mono ?_
          rintro e w5 ⟨bo, rfl, h2, o2⟩
          have ST5 := hide (ST.out.only o2 h2)
          clear h2 o2 ST c0 c1
          cases bo
          · have ST9 := ST5
            clear ST5
            have c0 := ST9.out.cell0
            have c1 := ST9.out.cell1
            have r0 := ST9.out.res.two
            have r1 := ST9.out.res.frozen 0
            have r2 := ST9.out.res.frozen 1
            go_wp2_with fail
            refine ST9.out.ret ?_ ?_ ?_ ?_ rfl rfl
            · omega
            · first | rfl | (simp; done)
            · first | omega | (simp; done) | (simp; omega)
            · omega
          · go_wp2_with fail
            refine (pick_u B g _ 5 _ ST5.out.rd (by omega)).mono ?_
            rintro e w6 ⟨v, u1, u2, _, rfl, h3, o3⟩
            have u3 := u2 (by omega)
            have ST6 := hide (ST5.out.only o3 h3)
            have c0 := ST6.out.cell0
            have c1 := ST6.out.cell1
            have hs6 := ST6.out.size
            clear u2 h3 o3 ST5
            rcases (by omega : v = 0 ∨ v = 1 ∨ v = 2 ∨ v = 3 ∨ v = 4) with rfl | rfl | rfl | rfl | rfl
            · have ST7 := hide (ST6.out.alloc (.cells #[.int .i64 0, .int .i64 (-1), .int .i64 9] 3))
              have BT := hide (Blk.new w6 3 #[.int .i64 0, .int .i64 (-1), .int .i64 9])
              clear c0 c1
              go_wp2_with fail
              refine (pick_u B g _ 3 _ ST7.out.rd (by omega)).mono ?_
              rintro e w8 ⟨t, t1, t2, _, rfl, h5, o5⟩
              have t3 := t2 (by omega)
              have ST8 := hide (ST7.out.only o5 h5)
              have BT8 := hide (BT.out.grown o5.1 (fun he => by injection he; omega))
              obtain ⟨y, hy, hcell⟩ : ∃ y : Int, (-1 ≤ y ∧ y ≤ 9) ∧ w8.cell? ⟨w6.heap.size, t.toNat, none⟩ = some (.int .i64 y) := by
                rcases (by omega : t = 0 ∨ t = 1 ∨ t = 2) with rfl | rfl | rfl
                · exact ⟨0, by omega, BT8.out.cell 0⟩
                · exact ⟨-1, by omega, BT8.out.cell 1⟩
                · exact ⟨9, by omega, BT8.out.cell 2⟩
              obtain ⟨nt, rfl⟩ := Int.eq_ofNat_of_zero_le t1
              rw [Int.toNat_natCast] at hcell
              have ST9 := hide (ST8.out.set0 y)
              have c0 := ST8.out.cell0
              have c1 := ST8.out.cell1
              have r0 := ST8.out.res.two
              have r1 := ST8.out.res.frozen 0
              have r2 := ST8.out.res.frozen 1
              have f0 := ST8.out.blk.frozen 0
              clear t2 h5 o5 ST6 ST7 BT BT8 ST8
              go_wp2_with fail
              refine ST9.out.ret ?_ ?_ ?_ ?_ rfl rfl
              · omega
              · first | rfl | (simp; done)
              · first | omega | (simp; done) | (simp; omega)
              · omega
            · go_wp2_with (at_builtin; refine app_three 48 76 Tryd.underlying48 infoLine w6 rfl (.tmp 75) (.tmp 79) rfl (p + 1) D xs.length d xs (0, b, 5) rfl ST6.out.own w6.heap.size rfl rfl hs6 (by omega) ?_; intro D2 d2 w7 ho7 hg7; obtain ⟨v8, f8, k0, k1, k2, k3⟩ := ST6.out.app_more hg7; have ST9 := hide (NS.app ST6.out (by simp) hg7 ho7); clear ho7 hg7)
              refine ST9.out.ret ?_ ?_ ?_ ?_ rfl rfl
              · omega
              · first | rfl | (simp; done)
              · first | omega | (simp; done) | (simp; omega)
              · omega
            · go_wp2_with (at_builtin; refine app_three 48 76 Tryd.underlying48 infoLine w6 rfl (.tmp 85) (.tmp 87) rfl (p + 1) D xs.length d xs (0, 0, 5) rfl ST6.out.own w6.heap.size rfl rfl hs6 (by omega) ?_; intro D2 d2 w7 ho7 hg7; obtain ⟨v8, f8, k0, k1, k2, k3⟩ := ST6.out.app_more hg7; have ST9 := hide (NS.app ST6.out (by simp) hg7 ho7); clear ho7 hg7)
              refine ST9.out.ret ?_ ?_ ?_ ?_ rfl rfl
              · omega
              · first | rfl | (simp; done)
              · first | omega | (simp; done) | (simp; omega)
              · omega
            · clear c0 c1
              have c1 := ST6.out.cell1
              have ST6a := hide (ST6.out.drew.alloc (.cells #[.int .i64 0, .int .i64 1000] 3))
              have BT := hide (Blk.new w6.drew 3 #[.int .i64 0, .int .i64 1000])
              go_wp2_with fail
              go_region_law (first | (refine step_app3 48 76 Tryd.underlying48 infoLine rfl (.tmp 93) (.tmp 100) rfl (p + 1) D xs.length d xs _ _ _ (by simp [Act.eval]) (ST7.out.alloc _).own _ (Blk.new _ _ _) (by simp [Act.eval]) ?_ ?_ ?_; exact (ST7.out.alloc _).size; omega; intro gq cap w8 ho8 hg8; obtain ⟨v8, f8, k0, k1, k2, k3⟩ := (ST7.out.alloc _).app_more hg8; have ST9 := hide (NS.app (ST7.out.alloc _) (by simp) hg8 ho8)) | (refine step_app3 48 76 Tryd.underlying48 infoLine rfl (.tmp 93) (.tmp 100) rfl (p + 1) D xs.length d xs _ _ _ (by simp [Act.eval]) ((ST7.out.alloc _).alloc _).own _ (Blk.new _ _ _) (by simp [Act.eval]) ?_ ?_ ?_; exact ((ST7.out.alloc _).alloc _).size; omega; intro gq cap w8 ho8 hg8; obtain ⟨v8, f8, k0, k1, k2, k3⟩ := ((ST7.out.alloc _).alloc _).app_more hg8; have ST9 := hide (NS.app ((ST7.out.alloc _).alloc _) (by simp) hg8 ho8)) | (go_simp; go_at_call 54; refine (pick_u B g (P + 5 + 3 * xs.length + 1) _ _ ?_ ?_).mono ?_; exact ST6a.out.rd.more (by omega); omega; rintro _ w7 ⟨r, r1, r2, _, rfl, h7, o7⟩; have r3 := r2 (by omega); have ST7 := hide (ST6a.out.only o7 h7); have v0 := ST7.out.cell1; have hs7 := ST7.out.size; have BT8 := BT.out.grown o7.1 (fun he => by injection he with he; have e0 : w6.drew.heap.size = w6.heap.size := rfl; omega); obtain ⟨nr, rfl⟩ := Int.eq_ofNat_of_zero_le r1; obtain ⟨y, hcell⟩ := two_cell BT8 r1 r3; rw [Int.toNat_natCast] at hcell; replace hcell : w7.cell? ⟨w6.heap.size, nr, none⟩ = some (.int .i64 y) := hcell; clear BT8 r2 h7 o7) | (go_simp; go_at_call 54; refine (pick_u B g (P + 5 + 3 * xs.length + 1) _ _ ?_ ?_).mono ?_; exact ST6.out.drew.rd.more (by omega); omega; rintro _ w7 ⟨r, r1, r2, _, rfl, h7, o7⟩; have r3 := r2 (by omega); have ST7 := hide (ST6.out.drew.only o7 h7); have v0 := ST7.out.cell1; have hs7 := ST7.out.size; obtain ⟨nr, rfl⟩ := Int.eq_ofNat_of_zero_le r1; obtain ⟨y, hcell⟩ := two_cell (Blk.new w7 3 #[.int .i64 0, .int .i64 1000]) r1 r3; rw [Int.toNat_natCast] at hcell; have hcell2 := (Blk.cell (Blk.new w7 3 #[.int .i64 0, .int .i64 1000]) nr).symm.trans hcell; clear r2 h7 o7))
              all_goals (go_wp2_with fail; refine ST9.out.ret ?_ ?_ ?_ ?_ rfl rfl <;> first | omega | rfl | (simp; done) | (simp; omega))
            · skip
              have c0 := ST6.out.cell0
              have c1 := ST6.out.cell1
              have r0 := ST6.out.res.two
              have r1 := ST6.out.res.frozen 0
              have r2 := ST6.out.res.frozen 1
              have HM := hide (own_made (w := w6) (e := 76) (size := 3) (n := 11) (cs := enc3 (List.replicate 11 (0, 0, 0))) (by simp [enc3]) (by unfold maxLen; omega))
              have mk := make11Line w6
              have f1 := ST6.out.blk.frozen 1
              have q1 : w.heap.size < w6.heap.size := by omega
              have q2 : ¬ w.heap.size = w6.heap.size := by omega
              have q3 : ¬ p = w6.heap.size := by omega
              have q4 : ¬ p = w.heap.size := by omega
              have q5 : ¬ w.heap.size = p := by omega
              have ST9 := hide ((ST6.out.alloc (.cells (zrow 33) 76)).put (List.replicate 11 (0, 0, 0)) (by simp) (own_mono HM.out (by omega)))
              go_wp2_with fail
              rw [← World.setCell_alloc_past _ _ _ _ (show w.heap.size < ((w6.setCell _ _).setCell _ _).heap.size by simp [World.setCell]; omega), ← World.setCell_alloc_past _ _ _ _ (show w.heap.size < (w6.setCell _ _).heap.size by simp [World.setCell]; omega), ← World.setCell_alloc_past _ _ _ _ hs6]
              refine ST9.out.ret ?_ ?_ ?_ ?_ rfl rfl
              · omega
              · first | rfl | (simp; done)
              · first | omega | (simp; done) | (simp; omega)
              · omega
      · skip
        go_wp2_with fail
        refine (odd_u B g _ n _ ST.out.rd (by omega) hn).mono ?_
        rintro e w5 ⟨bo, rfl, h2, o2⟩
        have ST5 := hide (ST.out.only o2 h2)
        clear h2 o2 ST c0 c1
        cases bo
        · have ST9 := ST5
          clear ST5
          have c0 := ST9.out.cell0
          have c1 := ST9.out.cell1
          have r0 := ST9.out.res.two
          have r1 := ST9.out.res.frozen 0
          have r2 := ST9.out.res.frozen 1
          go_wp2_with fail
          refine ST9.out.ret ?_ ?_ ?_ ?_ rfl rfl
          · omega
          · first | rfl | (simp; done)
          · first | omega | (simp; done) | (simp; omega)
          · omega
        · go_wp2_with fail
          refine (pick_u B g _ 5 _ ST5.out.rd (by omega)).mono ?_
          rintro e w6 ⟨v, u1, u2, _, rfl, h3, o3⟩
          have u3 := u2 (by omega)
          have ST6 := hide (ST5.out.only o3 h3)
          have c0 := ST6.out.cell0
          have c1 := ST6.out.cell1
          have hs6 := ST6.out.size
          clear u2 h3 o3 ST5
          rcases (by omega : v = 0 ∨ v = 1 ∨ v = 2 ∨ v = 3 ∨ v = 4) with rfl | rfl | rfl | rfl | rfl
          · have ST7 := hide (ST6.out.alloc (.cells #[.int .i64 0, .int .i64 (-1), .int .i64 9] 3))
            have BT := hide (Blk.new w6 3 #[.int .i64 0, .int .i64 (-1), .int .i64 9])
            clear c0 c1
            go_wp2_with fail
            refine (pick_u B g _ 3 _ ST7.out.rd (by omega)).mono ?_
            rintro e w8 ⟨t, t1, t2, _, rfl, h5, o5⟩
            have t3 := t2 (by omega)
            have ST8 := hide (ST7.out.only o5 h5)
            have BT8 := hide (BT.out.grown o5.1 (fun he => by injection he; omega))
            obtain ⟨y, hy, hcell⟩ : ∃ y : Int, (-1 ≤ y ∧ y ≤ 9) ∧ w8.cell? ⟨w6.heap.size, t.toNat, none⟩ = some (.int .i64 y) := by
              rcases (by omega : t = 0 ∨ t = 1 ∨ t = 2) with rfl | rfl | rfl
              · exact ⟨0, by omega, BT8.out.cell 0⟩
              · exact ⟨-1, by omega, BT8.out.cell 1⟩
              · exact ⟨9, by omega, BT8.out.cell 2⟩
            obtain ⟨nt, rfl⟩ := Int.eq_ofNat_of_zero_le t1
            rw [Int.toNat_natCast] at hcell
            have ST9 := hide (ST8.out.set0 y)
            have c0 := ST8.out.cell0
            have c1 := ST8.out.cell1
            have r0 := ST8.out.res.two
            have r1 := ST8.out.res.frozen 0
            have r2 := ST8.out.res.frozen 1
            have f0 := ST8.out.blk.frozen 0
            clear t2 h5 o5 ST6 ST7 BT BT8 ST8
            go_wp2_with fail
            refine ST9.out.ret ?_ ?_ ?_ ?_ rfl rfl
            · omega
            · first | rfl | (simp; done)
            · first | omega | (simp; done) | (simp; omega)
            · omega
          · go_wp2_with (at_builtin; refine app_three 48 76 Tryd.underlying48 infoLine w6 rfl (.tmp 75) (.tmp 79) rfl (p + 1) D xs.length d xs (0, b, 5) rfl ST6.out.own w6.heap.size rfl rfl hs6 (by omega) ?_; intro D2 d2 w7 ho7 hg7; obtain ⟨v8, f8, k0, k1, k2, k3⟩ := ST6.out.app_more hg7; have ST9 := hide (NS.app ST6.out (by simp) hg7 ho7); clear ho7 hg7)
            refine ST9.out.ret ?_ ?_ ?_ ?_ rfl rfl
            · omega
            · first | rfl | (simp; done)
            · first | omega | (simp; done) | (simp; omega)
            · omega
          · go_wp2_with (at_builtin; refine app_three 48 76 Tryd.underlying48 infoLine w6 rfl (.tmp 85) (.tmp 87) rfl (p + 1) D xs.length d xs (0, 0, 5) rfl ST6.out.own w6.heap.size rfl rfl hs6 (by omega) ?_; intro D2 d2 w7 ho7 hg7; obtain ⟨v8, f8, k0, k1, k2, k3⟩ := ST6.out.app_more hg7; have ST9 := hide (NS.app ST6.out (by simp) hg7 ho7); clear ho7 hg7)
            refine ST9.out.ret ?_ ?_ ?_ ?_ rfl rfl
            · omega
            · first | rfl | (simp; done)
            · first | omega | (simp; done) | (simp; omega)
            · omega
          · clear c0 c1
            have c1 := ST6.out.cell1
            have ST6a := hide (ST6.out.drew.alloc (.cells #[.int .i64 0, .int .i64 1000] 3))
            have BT := hide (Blk.new w6.drew 3 #[.int .i64 0, .int .i64 1000])
            go_wp2_with fail
            go_region_law (first | (refine step_app3 48 76 Tryd.underlying48 infoLine rfl (.tmp 93) (.tmp 100) rfl (p + 1) D xs.length d xs _ _ _ (by simp [Act.eval]) (ST7.out.alloc _).own _ (Blk.new _ _ _) (by simp [Act.eval]) ?_ ?_ ?_; exact (ST7.out.alloc _).size; omega; intro gq cap w8 ho8 hg8; obtain ⟨v8, f8, k0, k1, k2, k3⟩ := (ST7.out.alloc _).app_more hg8; have ST9 := hide (NS.app (ST7.out.alloc _) (by simp) hg8 ho8)) | (refine step_app3 48 76 Tryd.underlying48 infoLine rfl (.tmp 93) (.tmp 100) rfl (p + 1) D xs.length d xs _ _ _ (by simp [Act.eval]) ((ST7.out.alloc _).alloc _).own _ (Blk.new _ _ _) (by simp [Act.eval]) ?_ ?_ ?_; exact ((ST7.out.alloc _).alloc _).size; omega; intro gq cap w8 ho8 hg8; obtain ⟨v8, f8, k0, k1, k2, k3⟩ := ((ST7.out.alloc _).alloc _).app_more hg8; have ST9 := hide (NS.app ((ST7.out.alloc _).alloc _) (by simp) hg8 ho8)) | (go_simp; go_at_call 54; refine (pick_u B g (P + 5 + 3 * xs.length + 1) _ _ ?_ ?_).mono ?_; exact ST6a.out.rd.more (by omega); omega; rintro _ w7 ⟨r, r1, r2, _, rfl, h7, o7⟩; have r3 := r2 (by omega); have ST7 := hide (ST6a.out.only o7 h7); have v0 := ST7.out.cell1; have hs7 := ST7.out.size; have BT8 := BT.out.grown o7.1 (fun he => by injection he with he; have e0 : w6.drew.heap.size = w6.heap.size := rfl; omega); obtain ⟨nr, rfl⟩ := Int.eq_ofNat_of_zero_le r1; obtain ⟨y, hcell⟩ := two_cell BT8 r1 r3; rw [Int.toNat_natCast] at hcell; replace hcell : w7.cell? ⟨w6.heap.size, nr, none⟩ = some (.int .i64 y) := hcell; clear BT8 r2 h7 o7) | (go_simp; go_at_call 54; refine (pick_u B g (P + 5 + 3 * xs.length + 1) _ _ ?_ ?_).mono ?_; exact ST6.out.drew.rd.more (by omega); omega; rintro _ w7 ⟨r, r1, r2, _, rfl, h7, o7⟩; have r3 := r2 (by omega); have ST7 := hide (ST6.out.drew.only o7 h7); have v0 := ST7.out.cell1; have hs7 := ST7.out.size; obtain ⟨nr, rfl⟩ := Int.eq_ofNat_of_zero_le r1; obtain ⟨y, hcell⟩ := two_cell (Blk.new w7 3 #[.int .i64 0, .int .i64 1000]) r1 r3; rw [Int.toNat_natCast] at hcell; have hcell2 := (Blk.cell (Blk.new w7 3 #[.int .i64 0, .int .i64 1000]) nr).symm.trans hcell; clear r2 h7 o7))
            all_goals (go_wp2_with fail; refine ST9.out.ret ?_ ?_ ?_ ?_ rfl rfl <;> first | omega | rfl | (simp; done) | (simp; omega))
          · skip
            have c0 := ST6.out.cell0
            have c1 := ST6.out.cell1
            have r0 := ST6.out.res.two
            have r1 := ST6.out.res.frozen 0
            have r2 := ST6.out.res.frozen 1
            have HM := hide (own_made (w := w6) (e := 76) (size := 3) (n := 11) (cs := enc3 (List.replicate 11 (0, 0, 0))) (by simp [enc3]) (by unfold maxLen; omega))
            have mk := make11Line w6
            have f1 := ST6.out.blk.frozen 1
            have q1 : w.heap.size < w6.heap.size := by omega
            have q2 : ¬ w.heap.size = w6.heap.size := by omega
            have q3 : ¬ p = w6.heap.size := by omega
            have q4 : ¬ p = w.heap.size := by omega
            have q5 : ¬ w.heap.size = p := by omega
            have ST9 := hide ((ST6.out.alloc (.cells (zrow 33) 76)).put (List.replicate 11 (0, 0, 0)) (by simp) (own_mono HM.out (by omega)))
            go_wp2_with fail
            rw [← World.setCell_alloc_past _ _ _ _ (show w.heap.size < ((w6.setCell _ _).setCell _ _).heap.size by simp [World.setCell]; omega), ← World.setCell_alloc_past _ _ _ _ (show w.heap.size < (w6.setCell _ _).heap.size by simp [World.setCell]; omega), ← World.setCell_alloc_past _ _ _ _ hs6]
            refine ST9.out.ret ?_ ?_ ?_ ?_ rfl rfl
            · omega
            · first | rfl | (simp; done)
            · first | omega | (simp; done) | (simp; omega)
            · omega

end Go.Proofs.YtijnahflfbjgiaaDoor
