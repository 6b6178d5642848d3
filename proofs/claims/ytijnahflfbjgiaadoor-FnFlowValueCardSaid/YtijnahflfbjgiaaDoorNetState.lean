/-
  The reference's drawing of lines' states and of zones. Of what is drawn only lengths are said.
-/
import Derived.Test.YtijnahflfbjgiaaDoorTaps
import Derived.Test.YtijnahflfbjgiaaDoorTriples
import Derived.Test.YtijnahflfbjgiaaDoorAppThree
import Derived.Test.YtijnahflfbjgiaaDoorFnTaps
import Derived.Deep.AppendLies
import Derived.Deep.RegionLaw
import Derived.Deep.RegionHeldLaw
import Derived.Deep.RegionHeld3
namespace Go.Proofs.YtijnahflfbjgiaaDoor
open Go.RowKit
set_option linter.unusedVariables false

theorem infoBl : (Tryd.prog.info? 4).map (fun i => (i.zero, i.size, i.bytes)) = some (some (.bool false), 1, 1) := by kernel_rfl
theorem encB_one (xs : List Bool) : ∀ u ∈ encB xs, u.oneCell' = true := by
  intro u hu
  simp only [encB, List.mem_map] at hu
  obtain ⟨p, _, rfl⟩ := hu
  rfl

theorem app_bool {ops : Array Oper} {rest : List Oper} {o : Oper} {a : Act} {Q : Exit → Act → World → Prop} (wr : World) (hw : Region.wanted o (yielded ops a.tmps) = true) (s x : Operand)
    (ho : o.op = .call { callee := .builtin .append, args := #[s, x], argTypes := #[51, 51] })
    (base : Nat) (A : Option Addr) (n c : Nat) (ord : List Bool) (k : Bool) (hs : a.eval s = .slice A n c) (hown : wr.ownsRow base 4 1 (.slice A n c) n (encB ord)) (H : Nat) (hH : wr.heap.size = H) (hx : a.eval x = .slice (some ⟨H, 0, none⟩) 1 1)
    (hb : base ≤ wr.heap.size) (hn : n ≤ 1048576)
    (h : ∀ D d w', w'.ownsRow base 4 1 (.slice D (n + 1) d) (n + 1) (encB (ord ++ [k])) → wr.grownBy w' (Value.slice A n c).ownBlock → wpList Tryd.prog ops Q rest (a.put o.dst (.slice D (n + 1) d)) w') :
    wpList Tryd.prog ops Q (o :: rest) a (wr.alloc (.cells #[.bool k] 4)) := by
  subst hH
  obtain ⟨i0, hi, hz0, hz1, hz2⟩ := info_parts infoBl
  have hr : Sl (wr.alloc (.cells #[.bool k] 4)) (wr.heap.size + 1) 1 (some ⟨wr.heap.size, 0, none⟩) 1 (encB [k]) := ⟨rfl, fun _ => ⟨wr.heap.size, 0, rfl, by omega, fun j u hu => by
    have hj : j = 0 := by
      have := (List.getElem?_eq_some_iff.1 hu).1
      simp [encB] at this
      exact this
    subst hj
    exact cell_one_new wr (.bool k) 4 0 u hu⟩⟩
  refine wpList_append_any _ hw s x 51 ho base 4 i0 (.bool false) 1 1 Tryd.underlying51 hi hz0 hz1 hz2 rfl (by decide) (.slice A n c) n (encB ord) hs (hown.alloc _) _ _ 1 1 (encB [k]) hx hr (encB_one _) (by unfold maxLen; omega) (by omega) (by simp; omega) ?_
  intro v' w' ho' hg
  obtain ⟨D, d, rfl, _, _⟩ := own_slice ho'
  refine h D d w' (by rw [show encB (ord ++ [k]) = encB ord ++ encB [k] by simp [encB]]; exact ho') ?_
  exact ⟨hg.os, hg.tape, hg.output, Nat.le_trans (by simp) hg.size, fun i hi' hne => (hg.block i (by simp; omega) hne).trans (Below.heap_alloc wr _ i hi')⟩

theorem step_app1 {ops : Array Oper} {o : Oper} {a : Act} {w : World} {K : Act → World → Prop} {Q : Exit → Act → World → Prop} {E : Prop}
    (hgd : o.guard = none) (s x : Operand) (ho : o.op = .call { callee := .builtin .append, args := #[s, x], argTypes := #[36, 36] })
    (base : Nat) (A : Option Addr) (n c : Nat) (ord : List Int) (k : Int) (hs : a.eval s = .slice A n c) (hown : w.ownsRow base 3 1 (.slice A n c) n (encI ord)) (H : Nat) (hB : Blk w H 3 #[.int .i64 k]) (hx : a.eval x = .slice (some ⟨H, 0, none⟩) 1 1)
    (hb : base ≤ w.heap.size) (hn : n ≤ 1048576)
    (h : ∀ g cap w', w'.ownsRow base 3 1 (.slice (some ⟨g, 0, none⟩) (n + 1) cap) (n + 1) (encI (ord ++ [k])) → w.grownBy w' (Value.slice A n c).ownBlock → K (a.put o.dst (.slice (some ⟨g, 0, none⟩) (n + 1) cap)) w') :
    if Region.wanted o (yielded ops a.tmps) = true then Oper.wp Tryd.prog o a w K Q else E := by
  obtain ⟨i0, hi, hz0, hz1, hz2⟩ := info_parts infoI
  refine step_append_lies w hgd s x 36 ho base 3 i0 (.int .i64 0) 1 8 Tryd.underlying36 hi hz0 hz1 hz2 rfl (by decide) (.slice A n c) n (encI ord) hs hown ⟨H, 0, none⟩ 1 1 (encI [k]) hx rfl (fun j u hu => World.news_of_block (cs := #[.int .i64 k]) hB j u (by simpa [encI] using hu)) (encI_one _) (by omega) (by unfold maxLen; omega) (by omega) hb _ rfl ?_
  intro g cap w' h1 h2 _ _
  exact h g cap w' (by rw [show encI (ord ++ [k]) = encI ord ++ encI [k] by simp [encI]]; exact h1) h2

/-- A list that is being drawn beside a network in block p. -/
structure ZS (B g P : Nat) (w : World) (p : Nat) (b : Int) (A : Option Addr) (m c : Nat) (e : TypeId) (cs : List Value) (n : Nat) (D : Option Addr) (d : Nat) (wr : World) : Prop where
  blk : Blk wr p 50 #[.int .i64 b, .slice A m c]
  own : wr.ownsRow (p + 1) e 1 (.slice D n d) n cs
  rd : RdU B wr g P
  grow : w.grownBy wr (some g)
  lt : g < w.heap.size ∧ w.heap.size ≤ p
section
variable {B g P p d m c n : Nat} {w wr w' : World} {b : Int} {A D : Option Addr} {e : TypeId} {cs : List Value}
theorem grown_drew' {w wr : World} {row : Option Nat} (h : w.grownBy wr row) : w.grownBy wr.drew row := ⟨h.os, h.tape, h.output, h.size, h.block⟩
theorem ZS.drew (h : ZS B g P w p b A m c e cs n D d wr) : ZS B g P w p b A m c e cs n D d wr.drew := ⟨h.blk, h.own, h.rd.far (Below.refl _ _).drew, grown_drew' h.grow, h.lt⟩
theorem ZS.only {Q : Nat} (h : ZS B g P w p b A m c e cs n D d wr) (k : Only g wr w') (hr : RdU B w' g Q) : ZS B g Q w p b A m c e cs n D d w' :=
  ⟨h.blk.grown k.1 (fun e => by injection e with e; have := h.lt; omega), k.own h.own (by have := h.lt; omega), hr, h.grow.trans k.1, h.lt⟩
theorem ZS.alloc (h : ZS B g P w p b A m c e cs n D d wr) (o : Obj) : ZS B g P w p b A m c e cs n D d (wr.alloc o) :=
  ⟨h.blk.alloc o, h.own.alloc o, h.rd.grown (World.grownBy_alloc wr o none) (fun k hk => by cases hk), grown_alloc h.grow o, h.lt⟩
theorem ZS.app {cs' : List Value} {n' : Nat} {D' : Option Addr} {d' : Nat} (h : ZS B g P w p b A m c e cs n D d wr) (k : wr.grownBy w' (Value.slice D n d).ownBlock) (ho : w'.ownsRow (p + 1) e 1 (.slice D' n' d') n' cs') : ZS B g P w p b A m c e cs' n' D' d' w' := by
  have hne : ∀ q, q ≤ p → some q ≠ (Value.slice D n d).ownBlock := fun q hq e => by have := (h.own.lt q e.symm).1; omega
  have hlt := h.lt
  have hbig : ∀ k, (Value.slice D n d).ownBlock = some k → p < k := fun k hk => (h.own.lt k hk).1
  exact ⟨h.blk.grown k (hne _ (Nat.le_refl _)), ho, h.rd.grown k (fun q hq => by have := hbig q hq; omega), grown_step h.grow k (fun q hq => by have := hbig q hq; omega), h.lt⟩
theorem ZS.cell0 (h : ZS B g P w p b A m c e cs n D d wr) : wr.cell? ⟨p, 0, none⟩ = some (.int .i64 b) := h.blk.cell 0
theorem ZS.cell1 (h : ZS B g P w p b A m c e cs n D d wr) : wr.cell? ⟨p, 1, none⟩ = some (.slice A m c) := h.blk.cell 1
theorem ZS.size (h : ZS B g P w p b A m c e cs n D d wr) : p < wr.heap.size := h.blk.lt
theorem ZS.more {Q : Nat} (h : ZS B g P w p b A m c e cs n D d wr) (hq : P ≤ Q) : ZS B g Q w p b A m c e cs n D d wr := ⟨h.blk, h.own, h.rd.more hq, h.grow, h.lt⟩
theorem ZS.first (h : RdU B w g P) (b : Int) (A : Option Addr) (m c : Nat) (e : TypeId) : ZS B g P w w.heap.size b A m c e [] 0 (some ⟨w.heap.size + 1, 0, none⟩) 0 ((w.alloc (.cells #[.int .i64 b, .slice A m c] 50)).alloc (.cells #[] e)) := by
  have h1 := (Blk.new w 50 #[.int .i64 b, .slice A m c]).alloc (.cells #[] e)
  refine ⟨h1, ?_, ?_, grown_alloc (grown_alloc (World.grownBy.refl _ _) _) _, h.lt, Nat.le_refl _⟩
  · have := World.ownsRow_lit (base := w.heap.size + 1) (e := e) (size := 1) (w.alloc (.cells #[.int .i64 b, .slice A m c] 50)) #[] 0 (by simp) (Nat.zero_le _) rfl
    simpa using this
  · exact (h.grown (World.grownBy_alloc w _ none) (fun k hk => by cases hk)).grown (World.grownBy_alloc _ _ none) (fun k hk => by cases hk)
end

theorem pair_cell {w : World} {g : Nat} {t : TypeId} {a b r : Int} (h : Blk w g t #[.int .i64 a, .int .i64 b]) (h0 : 0 ≤ r) (h1 : r < 2) : ∃ y, w.cell? ⟨g, r.toNat, none⟩ = some (.int .i64 y) := by
  rcases (by omega : r = 0 ∨ r = 1) with rfl | rfl
  · exact ⟨a, h.cell 0⟩
  · exact ⟨b, h.cell 1⟩
/-- A drawn list of states. -/
def DrawnB (B g P L : Nat) (w : World) (en : Ending) (w' : World) : Prop :=
  ∃ (os : List Bool) (D : Option Addr) (d : Nat), os.length ≤ L ∧ en = .returned (.slice D os.length d) ∧ w'.ownsRow w.heap.size 4 1 (.slice D os.length d) os.length (encB os) ∧ RdU B w' g P ∧ w.grownBy w' (some g)
/-- A drawn zone. -/
def DrawnZ (B g P L : Nat) (w : World) (en : Ending) (w' : World) : Prop :=
  ∃ (zs : List Int) (D : Option Addr) (d : Nat), zs.length ≤ L ∧ en = .returned (.slice D zs.length d) ∧ w'.ownsRow w.heap.size 3 1 (.slice D zs.length d) zs.length (encI zs) ∧ RdU B w' g P ∧ w.grownBy w' (some g)

set_option maxHeartbeats 1000000 in
theorem l20State_any (B g P : Nat) (b : Int) (A : Option Addr) (m c : Nat) (n : Int) (w : World) (h : RdU B w g P) (hp : P ≤ 1000) (hm : m ≤ 11) (hn : n ≤ 1000000) :
    Calls Tryd.prog 101 #[.pointer (some ⟨g, 0, none⟩), .agg #[.int .i64 b, .slice A m c], .int .i64 n] w (DrawnB B g (P + 20) 12 w) := by
  have hgw := h.lt
  have ST := hide (ZS.first h b A m c 4)
  clear h
  go_enter Tryd.func101, Tryd.ntmps101
  go_wp2_with fail
  refine (pick_u B g P 4 _ ST.out.rd (by omega)).mono ?_
  rintro e w1 ⟨v, v1, v2, _, rfl, h1, o1⟩
  have v3 := v2 (by omega)
  have ST1 := hide (ST.out.only o1 h1)
  clear v2 h1 o1 ST
  go_wp2_with fail
  go_loopw [7, 9] (fun out k wr => ∃ (os : List Bool) (D : Option Addr) (d : Nat), out = .slice D os.length d ∧ k = .int .i64 os.length ∧ os.length ≤ m ∧ ZS B g (P + 1 + os.length) w w.heap.size b A m c 4 (encB os) os.length D d wr) (fun _ k _ => m - (intOf k).toNat)
  case atStart => exact ⟨[], _, _, rfl, rfl, Nat.zero_le _, ST1.out⟩
  case round =>
    obtain ⟨os, D, d, rfl, rfl, hl, hst⟩ := hrel
    have ST := hide hst
    have c1 := hst.cell1
    clear hst
    by_cases hlt : os.length < m
    · go_wp2_with fail
      refine (pick_u B g _ 4 _ ST.out.rd (by omega)).mono ?_
      rintro e w2 ⟨x, x1, x2, _, rfl, h2, o2⟩
      have ST2 := hide (ST.out.only o2 h2)
      have hs2 := ST2.out.size
      clear x2 h2 o2 ST c1
      go_wp2_with (at_builtin; refine app_bool w2 rfl (.tmp 21) (.tmp 26) rfl (w.heap.size + 1) D os.length d os _ rfl ST2.out.own w2.heap.size rfl rfl hs2 (by omega) ?_; intro D2 d2 w3 ho3 hg3; have ST3 := hide (ST2.out.app hg3 ho3); clear ho3 hg3)
      go_roundw
      case rel => exact ⟨os ++ [_], D2, d2, by simp, by simp, by simp; omega, by simpa using ST3.out.more (by omega)⟩
      case measure => simp [intOf]; omega
    · go_wp2_with fail
      refine (odd_u B g _ n _ ST.out.rd (by omega) hn).mono ?_
      rintro e w2 ⟨bo, rfl, h2, o2⟩
      have ST2 := hide (ST.out.only o2 h2)
      have hs2 := ST2.out.size
      clear h2 o2 ST c1
      cases bo
      · go_wp2_with fail
        go_ret
        exact ⟨os, D, d, by omega, rfl, own_mono ST2.out.own (by omega), ST2.out.rd.more (by omega), ST2.out.grow⟩
      · go_wp2_with (at_builtin; refine app_bool w2 rfl (.tmp 31) (.tmp 32) rfl (w.heap.size + 1) D os.length d os _ rfl ST2.out.own w2.heap.size rfl rfl hs2 (by omega) ?_; intro D2 d2 w3 ho3 hg3; have ST3 := hide (ST2.out.app hg3 ho3); clear ho3 hg3)
        go_ret
        exact ⟨os ++ [_], D2, d2, by simp; omega, by simp, by simpa using own_mono ST3.out.own (by omega), ST3.out.rd.more (by omega), ST3.out.grow⟩

set_option maxRecDepth 8000 in
set_option maxHeartbeats 1000000 in
theorem l20Zone_any (B g P : Nat) (b : Int) (A : Option Addr) (m c : Nat) (n : Int) (w : World) (h : RdU B w g P) (hp : P ≤ 1000) (hb : b ≤ 9) (hn : n ≤ 1000000) :
    Calls Tryd.prog 72 #[.pointer (some ⟨g, 0, none⟩), .agg #[.int .i64 b, .slice A m c], .int .i64 n] w (DrawnZ B g (P + 20) 10 w) := by
  have hgw := h.lt
  have ST1 := hide (ZS.first h b A m c 3)
  clear h
  go_enter Tryd.func72, Tryd.ntmps72
  go_wp2_with fail
  go_loopw [7, 8] (fun out k wr => ∃ (zs : List Int) (D : Option Addr) (d i : Nat), out = .slice D zs.length d ∧ k = .int .i64 i ∧ zs.length ≤ i ∧ i ≤ 9 ∧ ZS B g (P + i) w w.heap.size b A m c 3 (encI zs) zs.length D d wr) (fun _ k _ => 9 - (intOf k).toNat)
  case atStart => exact ⟨[], _, _, 0, rfl, rfl, Nat.zero_le _, by omega, ST1.out⟩
  case round =>
    obtain ⟨zs, D, d, i, rfl, rfl, hl, hi, hst⟩ := hrel
    have ST := hide hst
    have c0 := hst.cell0
    clear hst
    by_cases hlt : (i : Int) < b
    · go_wp2_with fail
      refine (pick_u B g _ 2 _ ST.out.rd (by omega)).mono ?_
      rintro e w2 ⟨x, x1, x2, _, rfl, h2, o2⟩
      have ST2 := hide (ST.out.only o2 h2)
      have hs2 := ST2.out.size
      clear x2 h2 o2 ST c0
      by_cases hx : x = 0
      · subst hx
        go_wp2_with (at_builtin; refine app_int w2 rfl (.tmp 19) (.tmp 21) rfl (w.heap.size + 1) D zs.length d zs _ rfl ST2.out.own w2.heap.size rfl rfl hs2 (by omega) ?_; intro D2 d2 w3 ho3 hg3; have ST3 := hide (ST2.out.app hg3 ho3); clear ho3 hg3)
        go_roundw
        case rel => exact ⟨zs ++ [_], D2, d2, i + 1, by simp, by go_num, by simp; omega, by omega, by simpa using ST3.out.more (by omega)⟩
        case measure => simp [intOf]; omega
      · have hxe : (x == 0) = false := by simp [hx]
        go_wp2_with fail
        go_roundw
        case rel => exact ⟨zs, D, d, i + 1, rfl, by go_num, by omega, by omega, ST2.out.more (by omega)⟩
        case measure => simp [intOf]; omega
    · go_wp2_with fail
      refine (odd_u B g _ n _ ST.out.rd (by omega) hn).mono ?_
      rintro e w2 ⟨bo, rfl, h2, o2⟩
      have ST2 := hide (ST.out.only o2 h2)
      have hs2 := ST2.out.size
      clear h2 o2 ST c0
      cases bo
      · go_wp2_with fail
        go_ret
        exact ⟨zs, D, d, by omega, rfl, own_mono ST2.out.own (by omega), ST2.out.rd.more (by omega), ST2.out.grow⟩
      · have c0 := ST2.out.cell0
        have STa := hide (ST2.out.drew.alloc (.cells #[.int .i64 0, .int .i64 b] 3))
        have BT := hide (Blk.new w2.drew 3 #[.int .i64 0, .int .i64 b])
        go_wp2_with fail
        go_region_law (first | (refine step_app1 rfl (.tmp 26) (.tmp 34) rfl (w.heap.size + 1) D zs.length d zs _ (by simp [Act.eval]) (ST7.out.alloc _).own _ (Blk.new _ _ _) (by simp [Act.eval]) ?_ ?_ ?_; exact (ST7.out.alloc _).size; omega; intro gq cap w8 ho8 hg8; have ST9 := hide (ZS.app (ST7.out.alloc _) hg8 ho8); have v8 := ST9.out.cell0) | (refine step_app1 rfl (.tmp 26) (.tmp 34) rfl (w.heap.size + 1) D zs.length d zs _ (by simp [Act.eval]) ((ST7.out.alloc _).alloc _).own _ (Blk.new _ _ _) (by simp [Act.eval]) ?_ ?_ ?_; exact ((ST7.out.alloc _).alloc _).size; omega; intro gq cap w8 ho8 hg8; have ST9 := hide (ZS.app ((ST7.out.alloc _).alloc _) hg8 ho8); have v8 := ST9.out.cell0) | (go_simp; go_at_call 54; refine (pick_u B g (P + i + 1) _ _ ?_ ?_).mono ?_; exact STa.out.rd; omega; rintro _ w7 ⟨r, r1, r2, _, rfl, h7, o7⟩; have r3 := r2 (by omega); have ST7 := hide (STa.out.only o7 h7); have v0 := ST7.out.cell0; have hs7 := ST7.out.size; have BT8 := BT.out.grown o7.1 (fun he => by injection he with he; have e0 : w2.drew.heap.size = w2.heap.size := rfl; omega); obtain ⟨nr, rfl⟩ := Int.eq_ofNat_of_zero_le r1; obtain ⟨y, hcell⟩ := pair_cell BT8 r1 r3; rw [Int.toNat_natCast] at hcell; replace hcell : w7.cell? ⟨w2.heap.size, nr, none⟩ = some (.int .i64 y) := hcell; clear BT8 r2 h7 o7) | (go_simp; go_at_call 54; refine (pick_u B g (P + i + 1) _ _ ?_ ?_).mono ?_; exact ST2.out.drew.rd; omega; rintro _ w7 ⟨r, r1, r2, _, rfl, h7, o7⟩; have r3 := r2 (by omega); have ST7 := hide (ST2.out.drew.only o7 h7); have v0 := ST7.out.cell0; have hs7 := ST7.out.size; obtain ⟨nr, rfl⟩ := Int.eq_ofNat_of_zero_le r1; obtain ⟨y, hcell⟩ := pair_cell (Blk.new w7 3 #[.int .i64 0, .int .i64 b]) r1 r3; rw [Int.toNat_natCast] at hcell; have hcell2 := (Blk.cell (Blk.new w7 3 #[.int .i64 0, .int .i64 b]) nr).symm.trans hcell; clear r2 h7 o7))
        all_goals go_wp2_with fail
        all_goals go_ret
        all_goals exact ⟨zs ++ [y], some ⟨gq, 0, none⟩, cap, by simp; omega, by simp [Act.put], by simpa using own_mono ST9.out.own (by omega), ST9.out.rd.more (by omega), ST9.out.grow⟩

end Go.Proofs.YtijnahflfbjgiaaDoor
