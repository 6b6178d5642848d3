/-
  The reference's drawing of networks with their states and two buses. Of what is drawn only lengths are said.
-/
import Derived.Test.YtijnahflfbjgiaaDoorNetDraw
import Derived.Test.YtijnahflfbjgiaaDoorNetState
namespace Go.Proofs.YtijnahflfbjgiaaDoor
open Go.RowKit
set_option linter.unusedVariables false

/-- A drawn network with a state of its lines. -/
def DrawnS (B g P : Nat) (w : World) (en : Ending) (w' : World) : Prop :=
  ∃ (b : Int) (ls : List (Int × Int × Int)) (D : Option Addr) (d : Nat) (os : List Bool) (E : Option Addr) (f : Nat), (-1 ≤ b ∧ b ≤ 9) ∧ ls.length ≤ 11 ∧ os.length ≤ 12 ∧ en = .returned (.tuple #[.agg #[.int .i64 b, .slice D ls.length d], .slice E os.length f]) ∧
    w'.ownsRow w.heap.size 76 3 (.slice D ls.length d) ls.length (enc3 ls) ∧ w'.ownsRow w.heap.size 4 1 (.slice E os.length f) os.length (encB os) ∧ RdU B w' g P ∧ w.grownBy w' (some g)
theorem grown_own {w w' : World} {g base e size n : Nat} {v : Value} {cs : List Value} (hg : w.grownBy w' (some g)) (ho : w.ownsRow base e size v n cs) (h : g < base) : w'.ownsRow base e size v n cs := ho.kept hg (own_not_low ho h)
theorem grown_set {w wr : World} {g p : Nat} (h : w.grownBy wr (some g)) (hp : w.heap.size ≤ p) (o : Nat) (v : Value) : w.grownBy (wr.setCell ⟨p, o, none⟩ v) (some g) := grown_step h (setc_grown _ _ _ _) (fun k hk => by injection hk; omega)
theorem RdU.set {B g P p : Nat} {w : World} (h : RdU B w g P) (hp : g < p) (o : Nat) (v : Value) : RdU B (w.setCell ⟨p, o, none⟩ v) g P := h.grown (setc_grown _ _ _ _) (fun k hk => by injection hk; omega)
theorem own_set {w : World} {base e size n p : Nat} {v : Value} {cs : List Value} (ho : w.ownsRow base e size v n cs) (hp : p < base) (o : Nat) (x : Value) : (w.setCell ⟨p, o, none⟩ x).ownsRow base e size v n cs := ho.kept (setc_grown _ _ _ _) (own_not_low ho hp)
theorem Blk.drew {w : World} {g : Nat} {t : TypeId} {cs : Array Value} (h : Blk w g t cs) : Blk w.drew g t cs := h
theorem Blk.two_set {w : World} {g : Nat} {t : TypeId} {a b u v : Value} (h : Blk w g t #[a, b]) : ((w.setCell ⟨g, 0, none⟩ u).setCell ⟨g, 1, none⟩ v).cell? ⟨g, 0, none⟩ = some u ∧ ((w.setCell ⟨g, 0, none⟩ u).setCell ⟨g, 1, none⟩ v).cell? ⟨g, 1, none⟩ = some v := by
  have hB := (h.set_ 0 u).set_ 1 v
  exact ⟨(hB.cell 0).trans (by simp), (hB.cell 1).trans (by simp)⟩

set_option maxRecDepth 8000 in
set_option maxHeartbeats 1000000 in
theorem l20Switched_any (B g P : Nat) (n : Int) (w : World) (h : RdU B w g P) (hp : P ≤ 900) (h0 : 0 ≤ n) (hn : n ≤ 100000) :
    Calls Tryd.prog 71 #[.pointer (some ⟨g, 0, none⟩), .int .i64 n] w (DrawnS B g (P + 80) w) := by
  have hgw := h.lt
  have hw : IntKind.i64.wrap (2 * n) = 2 * n := IntWalk.i64_in _ (by omega)
  have G0 := hide (grown_alloc (World.grownBy.refl w (some g)) (.cells #[.int .i64 0, .slice none 0 0] 50))
  have R0 := hide (h.grown (World.grownBy_alloc w (.cells #[.int .i64 0, .slice none 0 0] 50) none) (fun k hk => by cases hk))
  have Z0 := hide (Blk.new w 50 #[.int .i64 0, .slice none 0 0])
  clear h
  go_enter Tryd.func71, Tryd.ntmps71
  go_wp2_with fail
  refine (l20Net_any B g P _ _ R0.out (by omega) (by omega)).mono ?_
  rintro e w1 ⟨b, ls, D, d, hb, hl, rfl, ho1, hr1, hg1⟩
  have hs1 := hg1.size
  have e0 : (w.alloc (.cells #[.int .i64 0, .slice none 0 0] 50)).heap.size = w.heap.size + 1 := by simp
  rw [e0] at hs1 ho1
  clear e0
  have HB := hide hb
  have OL := hide ho1
  have G1 := hide (G0.out.trans hg1)
  have Z1 := hide (Z0.out.grown hg1 (fun he => by injection he; omega))
  have X1 := hide (Blk.new w1 50 #[.int .i64 b, .slice D ls.length d])
  have R1 := hide ((hr1.grown (World.grownBy_alloc w1 (.cells #[.int .i64 b, .slice D ls.length d] 50) none) (fun k hk => by cases hk)).drew)
  obtain ⟨c0, c1⟩ := X1.out.two
  have q1 : ¬ w.heap.size = w1.heap.size := by omega
  have q2 : ¬ w1.heap.size = w.heap.size := by omega
  clear hb ho1 hr1 hg1 Z0 R0 G0
  go_wp2_with fail
  go_region_held3 (fun w' => w'.cell? ⟨w1.heap.size, 0, none⟩ = some (.int .i64 b) ∧ w'.cell? ⟨w1.heap.size, 1, none⟩ = some (.slice D ls.length d))
    (refine ⟨?_, ?_⟩ <;> first | assumption | go_keep | (go_simp; done))
    ((go_at_call 101; refine (l20State_any B g (P + 60) b D ls.length d _ _ ?_ ?_ ?_ ?_).mono ?_; exact R1.out; omega; omega; (first | omega | (rw [hw]; omega)); rintro _ w2 ⟨os, E, f, hol, rfl, ho2, hr2, hg2⟩; have X2 := X1.out.drew.grown hg2 (fun he => by injection he; omega); have Z2 := (Z1.out.alloc (.cells #[.int .i64 b, .slice D ls.length d] 50)).drew.grown hg2 (fun he => by injection he; omega); obtain ⟨v0, v1⟩ := X2.two; obtain ⟨z0, z3⟩ := Z2.two; have z1 := Z2.frozen 0; have z2 := Z2.frozen 1))
  obtain ⟨p0, p1⟩ := Z2.two_set (u := .int .i64 b) (v := .slice D ls.length d)
  have hlt := HB.out
  go_wp2_with fail
  refine bodyPost_ret (v := .tuple #[.agg #[.int .i64 b, .slice D ls.length d], .slice E os.length f]) (by simp [results, Tryd.results71, go_sem, p0, p1]) rfl ?_
  have K2 := (grown_alloc G1.out (.cells #[.int .i64 b, .slice D ls.length d] 50))
  have K3 : w.grownBy (w1.alloc (.cells #[.int .i64 b, .slice D ls.length d] 50)).drew (some g) := grown_drew K2
  have OL2 := grown_own hg2 (show (w1.alloc (.cells #[.int .i64 b, .slice D ls.length d] 50)).drew.ownsRow _ _ _ _ _ _ from OL.out.alloc _) (by omega)
  have hs2 := hg2.size
  have e2 : (w1.alloc (.cells #[.int .i64 b, .slice D ls.length d] 50)).drew.heap.size = w1.heap.size + 1 := by simp
  rw [e2] at ho2
  exact ⟨b, ls, D, d, os, E, f, hlt, hl, by omega, rfl, own_mono (own_set (own_set OL2 (by omega) _ _) (by omega) _ _) (by omega), own_mono (own_set (own_set ho2 (by omega) _ _) (by omega) _ _) (by omega), (RdU.set (RdU.set hr2 (by omega) _ _) (by omega) _ _).more (by omega), grown_set (grown_set (K3.trans hg2) (Nat.le_refl _) _ _) (Nat.le_refl _) _ _⟩

/-- A network with a state that has been drawn, in block p, beside a result's block. -/
structure ES (B g P : Nat) (w : World) (p : Nat) (b : Int) (ls : List (Int × Int × Int)) (D : Option Addr) (d : Nat) (os : List Bool) (E : Option Addr) (f : Nat) (wr : World) : Prop where
  blk : Blk wr p 50 #[.int .i64 b, .slice D ls.length d]
  res : Blk wr w.heap.size 50 #[.int .i64 0, .slice none 0 0]
  ol : wr.ownsRow (w.heap.size + 1) 76 3 (.slice D ls.length d) ls.length (enc3 ls)
  ob : wr.ownsRow (w.heap.size + 1) 4 1 (.slice E os.length f) os.length (encB os)
  rd : RdU B wr g P
  grow : w.grownBy wr (some g)
  lt : g < w.heap.size ∧ w.heap.size < p
section
variable {B g P p d f : Nat} {w wr w' : World} {b : Int} {ls : List (Int × Int × Int)} {D E : Option Addr} {os : List Bool}
theorem ES.drew (h : ES B g P w p b ls D d os E f wr) : ES B g P w p b ls D d os E f wr.drew := ⟨h.blk, h.res, h.ol, h.ob, h.rd.drew, grown_drew h.grow, h.lt⟩
theorem ES.only {Q : Nat} (h : ES B g P w p b ls D d os E f wr) (k : Only g wr w') (hr : RdU B w' g Q) : ES B g Q w p b ls D d os E f w' :=
  ⟨h.blk.grown k.1 (fun e => by injection e with e; have := h.lt; omega), h.res.grown k.1 (fun e => by injection e with e; have := h.lt; omega), k.own h.ol (by have := h.lt; omega), k.own h.ob (by have := h.lt; omega), hr, h.grow.trans k.1, h.lt⟩
end

/-- A drawn network with a state of its lines and two buses. -/
def DrawnE (B g P : Nat) (w : World) (en : Ending) (w' : World) : Prop :=
  ∃ (b : Int) (ls : List (Int × Int × Int)) (D : Option Addr) (d : Nat) (os : List Bool) (E : Option Addr) (f : Nat) (from_ to : Int), (-1 ≤ b ∧ b ≤ 9) ∧ ls.length ≤ 11 ∧ os.length ≤ 12 ∧ en = .returned (.tuple #[.agg #[.int .i64 b, .slice D ls.length d], .slice E os.length f, .int .i64 from_, .int .i64 to]) ∧
    w'.ownsRow w.heap.size 76 3 (.slice D ls.length d) ls.length (enc3 ls) ∧ w'.ownsRow w.heap.size 4 1 (.slice E os.length f) os.length (encB os) ∧ RdU B w' g P ∧ w.grownBy w' (some g)

theorem ES.ret {B g P Q p d f n k : Nat} {w wr : World} {b : Int} {ls : List (Int × Int × Int)} {D E : Option Addr} {os : List Bool} {a : Act} {from_ to : Int} (h : ES B g P w p b ls D d os E f wr) (hb : -1 ≤ b ∧ b ≤ 9) (hl : ls.length ≤ 11) (hol : os.length ≤ 12) (hq : P ≤ Q) (hn : ls.length = n) (hk : os.length = k)
    (h4 : a.tmps[4]?.getD undef = .pointer (some ⟨w.heap.size, 0, none⟩)) (h5 : a.tmps[5]?.getD undef = .slice E k f) (h6 : a.tmps[6]?.getD undef = .int .i64 from_) (h7 : a.tmps[7]?.getD undef = .int .i64 to) (hd : a.defers = []) :
    bodyPost Tryd.prog Tryd.f80 (DrawnE B g Q w) .ret a ((wr.setCell ⟨w.heap.size, 0, none⟩ (.int .i64 b)).setCell ⟨w.heap.size, 1, none⟩ (.slice D n d)) := by
  subst hn
  subst hk
  have hlt := h.lt
  obtain ⟨p0, p1⟩ := h.res.two_set (u := .int .i64 b) (v := .slice D ls.length d)
  refine bodyPost_ret (v := .tuple #[.agg #[.int .i64 b, .slice D ls.length d], .slice E os.length f, .int .i64 from_, .int .i64 to]) (by simp [results, Tryd.results80, go_sem, h4, h5, h6, h7, p0, p1]) hd ?_
  exact ⟨b, ls, D, d, os, E, f, from_, to, hb, hl, hol, rfl, own_mono (own_set (own_set h.ol (by omega) _ _) (by omega) _ _) (by omega), own_mono (own_set (own_set h.ob (by omega) _ _) (by omega) _ _) (by omega), (RdU.set (RdU.set h.rd (by omega) _ _) (by omega) _ _).more hq, grown_set (grown_set h.grow (Nat.le_refl _) _ _) (Nat.le_refl _) _ _⟩

set_option maxRecDepth 8000 in
set_option maxHeartbeats 2000000 in
theorem l20Ends_any (B g P : Nat) (n : Int) (w : World) (h : RdU B w g P) (hp : P ≤ 800) (h0 : 0 ≤ n) (hn : n ≤ 40000) :
    Calls Tryd.prog 80 #[.pointer (some ⟨g, 0, none⟩), .int .i64 n] w (DrawnE B g (P + 100) w) := by
  have hgw := h.lt
  have hw : IntKind.i64.wrap (2 * n) = 2 * n := IntWalk.i64_in _ (by omega)
  have G0 := hide (grown_alloc (World.grownBy.refl w (some g)) (.cells #[.int .i64 0, .slice none 0 0] 50))
  have R0 := hide (h.grown (World.grownBy_alloc w (.cells #[.int .i64 0, .slice none 0 0] 50) none) (fun k hk => by cases hk))
  have Z0 := hide (Blk.new w 50 #[.int .i64 0, .slice none 0 0])
  clear h
  go_enter Tryd.func80, Tryd.ntmps80
  go_wp2_with fail
  refine (l20Switched_any B g P _ _ R0.out (by omega) (by omega) (by omega)).mono ?_
  rintro e w1 ⟨b, ls, D, d, os, E, f, hb, hl, hol, rfl, ho1, ho2, hr1, hg1⟩
  have hs1 := hg1.size
  have e0 : (w.alloc (.cells #[.int .i64 0, .slice none 0 0] 50)).heap.size = w.heap.size + 1 := by simp
  rw [e0] at hs1 ho1 ho2
  have ST : Hid (ES B g (P + 80) w w1.heap.size b ls D d os E f (w1.alloc (.cells #[.int .i64 b, .slice D ls.length d] 50))) :=
    hide ⟨Blk.new _ _ _, (Z0.out.grown hg1 (fun he => by injection he; omega)).alloc _, ho1.alloc _, ho2.alloc _, hr1.grown (World.grownBy_alloc w1 _ none) (fun k hk => by cases hk), grown_alloc (G0.out.trans hg1) _, hgw, by omega⟩
  have HB := hide hb
  obtain ⟨c0, c1⟩ := ST.out.blk.two
  clear e0 hb ho1 ho2 hr1 hg1 Z0 R0 G0
  by_cases hb1 : 1 < b
  · have hx1 : max b 1 = b := by omega
    have hx2 : ¬ b ≤ 1 := by omega
    have hx3 : 1 ≤ b := by omega
    have hx4 : ¬ b < 1 := by omega
    go_wp2_with fail
    refine (pick_u B g _ _ _ ST.out.rd (by omega)).mono ?_
    rintro e w2 ⟨fr, fr1, fr2, _, rfl, h2, o2⟩
    have ST2 := hide (ST.out.only o2 h2)
    clear fr2 h2 o2 ST c0 c1
    obtain ⟨c0, c1⟩ := ST2.out.blk.two
    generalize hpp : w1.heap.size = p at *
    clear hpp
    go_wp2_with fail
    refine (pick_u B g _ _ _ ST2.out.rd (by omega)).mono ?_
    rintro e w3 ⟨t0, t1, t2, _, rfl, h3, o3⟩
    have ST3 := hide (ST2.out.only o3 h3)
    clear t2 h3 o3 ST2 c0 c1
    go_wp2_with fail
    refine (pick_u B g _ _ _ ST3.out.rd (by omega)).mono ?_
    rintro e w4 ⟨z, z1, z2, _, rfl, h4, o4⟩
    have ST4 := hide (ST3.out.only o4 h4)
    clear z2 h4 o4 ST3
    obtain ⟨c0, c1⟩ := ST4.out.blk.two
    by_cases hz : 0 < z
    · have hbz : (b == 0) = false := by simp; omega
      have hb2 : ¬ b = 0 := by omega
      have HB8 := HB.out
      go_wp2_with fail
      go_region_held3 (fun w' => w'.cell? ⟨p, 0, none⟩ = some (.int .i64 b))
        (first | assumption | go_keep)
        ((go_at_call 54; refine (pick_u B g (P + 83) _ _ ?_ ?_).mono ?_; exact ST4.out.drew.rd; omega; rintro _ w6 ⟨y, y1, y2, _, rfl, h6, o6⟩; have ST8 := hide (ST4.out.drew.only o6 h6); have v0 := ST8.out.blk.two.1))
      clear y2 h6 o6 ST4 c0 c1 v0
      generalize (IntKind.i64.wrap (IntKind.i64.wrap (fr + 1) + y)).tmod b = q
      obtain ⟨c0, c1⟩ := ST8.out.blk.two
      go_wp2_with fail
      go_region_held3 (fun w' => w'.cell? ⟨p, 0, none⟩ = some (.int .i64 b) ∧ w'.cell? ⟨p, 1, none⟩ = some (.slice D ls.length d))
        (refine ⟨?_, ?_⟩ <;> first | assumption | go_keep | (go_simp; done))
        ((go_at_call 54; refine (pick_u B g (P + 90) _ _ ?_ ?_).mono ?_; exact ST8.out.drew.rd.more (by omega); omega; rintro _ w9 ⟨y, y1, y2, _, rfl, h9, o9⟩; have ST9 := hide (ST8.out.drew.only o9 h9); obtain ⟨v0, v1⟩ := ST9.out.blk.two; obtain ⟨z0, z3⟩ := ST9.out.res.two; have z1 := ST9.out.res.frozen 0; have z2 := ST9.out.res.frozen 1))
      go_wp2_with fail
      exact ST9.out.ret HB.out hl hol (by omega) rfl rfl rfl rfl rfl rfl rfl
    · have ST8 := ST4
      clear ST4 c0 c1
      have HB8 := HB.out
      obtain ⟨c0, c1⟩ := ST8.out.blk.two
      go_wp2_with fail
      go_region_held3 (fun w' => w'.cell? ⟨p, 0, none⟩ = some (.int .i64 b) ∧ w'.cell? ⟨p, 1, none⟩ = some (.slice D ls.length d))
        (refine ⟨?_, ?_⟩ <;> first | assumption | go_keep | (go_simp; done))
        ((go_at_call 54; refine (pick_u B g (P + 90) _ _ ?_ ?_).mono ?_; exact ST8.out.drew.rd.more (by omega); omega; rintro _ w9 ⟨y, y1, y2, _, rfl, h9, o9⟩; have ST9 := hide (ST8.out.drew.only o9 h9); obtain ⟨v0, v1⟩ := ST9.out.blk.two; obtain ⟨z0, z3⟩ := ST9.out.res.two; have z1 := ST9.out.res.frozen 0; have z2 := ST9.out.res.frozen 1))
      go_wp2_with fail
      exact ST9.out.ret HB.out hl hol (by omega) rfl rfl rfl rfl rfl rfl rfl
  · by_cases hb2 : b < 1
    · have hx2 : b ≤ 1 := by omega
      go_wp2_with fail
      refine (pick_u B g _ _ _ ST.out.rd (by omega)).mono ?_
      rintro e w2 ⟨fr, fr1, fr2, _, rfl, h2, o2⟩
      have ST2 := hide (ST.out.only o2 h2)
      clear fr2 h2 o2 ST c0 c1
      obtain ⟨c0, c1⟩ := ST2.out.blk.two
      generalize hpp : w1.heap.size = p at *
      clear hpp
      go_wp2_with fail
      refine (pick_u B g _ _ _ ST2.out.rd (by omega)).mono ?_
      rintro e w3 ⟨t0, t1, t2, _, rfl, h3, o3⟩
      have ST3 := hide (ST2.out.only o3 h3)
      clear t2 h3 o3 ST2 c0 c1
      go_wp2_with fail
      refine (pick_u B g _ _ _ ST3.out.rd (by omega)).mono ?_
      rintro e w4 ⟨z, z1, z2, _, rfl, h4, o4⟩
      have ST4 := hide (ST3.out.only o4 h4)
      clear z2 h4 o4 ST3
      obtain ⟨c0, c1⟩ := ST4.out.blk.two
      by_cases hz : 0 < z
      · have ST8 := ST4
        clear ST4 c0 c1
        have HB8 := HB.out
        have d0 := ST8.out.blk.two.1
        obtain ⟨c0, c1⟩ := ST8.out.blk.two
        go_wp2_with fail
        go_region_held3 (fun w' => w'.cell? ⟨p, 0, none⟩ = some (.int .i64 b) ∧ w'.cell? ⟨p, 1, none⟩ = some (.slice D ls.length d))
          (refine ⟨?_, ?_⟩ <;> first | assumption | go_keep | (go_simp; done))
          ((go_at_call 54; refine (pick_u B g (P + 90) _ _ ?_ ?_).mono ?_; exact ST8.out.drew.rd.more (by omega); omega; rintro _ w9 ⟨y, y1, y2, _, rfl, h9, o9⟩; have ST9 := hide (ST8.out.drew.only o9 h9); obtain ⟨v0, v1⟩ := ST9.out.blk.two; obtain ⟨z0, z3⟩ := ST9.out.res.two; have z1 := ST9.out.res.frozen 0; have z2 := ST9.out.res.frozen 1))
        go_wp2_with fail
        exact ST9.out.ret HB.out hl hol (by omega) rfl rfl rfl rfl rfl rfl rfl
      · have ST8 := ST4
        clear ST4 c0 c1
        have HB8 := HB.out
        obtain ⟨c0, c1⟩ := ST8.out.blk.two
        go_wp2_with fail
        go_region_held3 (fun w' => w'.cell? ⟨p, 0, none⟩ = some (.int .i64 b) ∧ w'.cell? ⟨p, 1, none⟩ = some (.slice D ls.length d))
          (refine ⟨?_, ?_⟩ <;> first | assumption | go_keep | (go_simp; done))
          ((go_at_call 54; refine (pick_u B g (P + 90) _ _ ?_ ?_).mono ?_; exact ST8.out.drew.rd.more (by omega); omega; rintro _ w9 ⟨y, y1, y2, _, rfl, h9, o9⟩; have ST9 := hide (ST8.out.drew.only o9 h9); obtain ⟨v0, v1⟩ := ST9.out.blk.two; obtain ⟨z0, z3⟩ := ST9.out.res.two; have z1 := ST9.out.res.frozen 0; have z2 := ST9.out.res.frozen 1))
        go_wp2_with fail
        exact ST9.out.ret HB.out hl hol (by omega) rfl rfl rfl rfl rfl rfl rfl
    · have hx2 : b ≤ 1 := by omega
      go_wp2_with fail
      refine (pick_u B g _ _ _ ST.out.rd (by omega)).mono ?_
      rintro e w2 ⟨fr, fr1, fr2, _, rfl, h2, o2⟩
      have ST2 := hide (ST.out.only o2 h2)
      clear fr2 h2 o2 ST c0 c1
      obtain ⟨c0, c1⟩ := ST2.out.blk.two
      generalize hpp : w1.heap.size = p at *
      clear hpp
      go_wp2_with fail
      refine (pick_u B g _ _ _ ST2.out.rd (by omega)).mono ?_
      rintro e w3 ⟨t0, t1, t2, _, rfl, h3, o3⟩
      have ST3 := hide (ST2.out.only o3 h3)
      clear t2 h3 o3 ST2 c0 c1
      go_wp2_with fail
      refine (pick_u B g _ _ _ ST3.out.rd (by omega)).mono ?_
      rintro e w4 ⟨z, z1, z2, _, rfl, h4, o4⟩
      have ST4 := hide (ST3.out.only o4 h4)
      clear z2 h4 o4 ST3
      obtain ⟨c0, c1⟩ := ST4.out.blk.two
      by_cases hz : 0 < z
      · have ST8 := ST4
        clear ST4 c0 c1
        have HB8 := HB.out
        have d0 := ST8.out.blk.two.1
        obtain ⟨c0, c1⟩ := ST8.out.blk.two
        go_wp2_with fail
        go_region_held3 (fun w' => w'.cell? ⟨p, 0, none⟩ = some (.int .i64 b) ∧ w'.cell? ⟨p, 1, none⟩ = some (.slice D ls.length d))
          (refine ⟨?_, ?_⟩ <;> first | assumption | go_keep | (go_simp; done))
          ((go_at_call 54; refine (pick_u B g (P + 90) _ _ ?_ ?_).mono ?_; exact ST8.out.drew.rd.more (by omega); omega; rintro _ w9 ⟨y, y1, y2, _, rfl, h9, o9⟩; have ST9 := hide (ST8.out.drew.only o9 h9); obtain ⟨v0, v1⟩ := ST9.out.blk.two; obtain ⟨z0, z3⟩ := ST9.out.res.two; have z1 := ST9.out.res.frozen 0; have z2 := ST9.out.res.frozen 1))
        go_wp2_with fail
        exact ST9.out.ret HB.out hl hol (by omega) rfl rfl rfl rfl rfl rfl rfl
      · have ST8 := ST4
        clear ST4 c0 c1
        have HB8 := HB.out
        obtain ⟨c0, c1⟩ := ST8.out.blk.two
        go_wp2_with fail
        go_region_held3 (fun w' => w'.cell? ⟨p, 0, none⟩ = some (.int .i64 b) ∧ w'.cell? ⟨p, 1, none⟩ = some (.slice D ls.length d))
          (refine ⟨?_, ?_⟩ <;> first | assumption | go_keep | (go_simp; done))
          ((go_at_call 54; refine (pick_u B g (P + 90) _ _ ?_ ?_).mono ?_; exact ST8.out.drew.rd.more (by omega); omega; rintro _ w9 ⟨y, y1, y2, _, rfl, h9, o9⟩; have ST9 := hide (ST8.out.drew.only o9 h9); obtain ⟨v0, v1⟩ := ST9.out.blk.two; obtain ⟨z0, z3⟩ := ST9.out.res.two; have z1 := ST9.out.res.frozen 0; have z2 := ST9.out.res.frozen 1))
        go_wp2_with fail
        exact ST9.out.ret HB.out hl hol (by omega) rfl rfl rfl rfl rfl rfl rfl

theorem RdU.mk {B g : Nat} {w : World} (h : RdOk B w g 0) : RdU B w g 0 := ⟨0, Nat.le_refl _, h⟩
/-- A drawn network with a state and two buses, in memory of the call's own. -/
def GotE (w : World) (en : Ending) (w' : World) : Prop :=
  ∃ (b : Int) (ls : List (Int × Int × Int)) (D : Option Addr) (d : Nat) (os : List Bool) (E : Option Addr) (f : Nat) (from_ to : Int), (-1 ≤ b ∧ b ≤ 9) ∧ ls.length ≤ 11 ∧ os.length ≤ 12 ∧ en = .returned (.tuple #[.agg #[.int .i64 b, .slice D ls.length d], .slice E os.length f, .int .i64 from_, .int .i64 to]) ∧
    w'.ownsRow w.heap.size 76 3 (.slice D ls.length d) ls.length (enc3 ls) ∧ w'.ownsRow w.heap.size 4 1 (.slice E os.length f) os.length (encB os) ∧ Below w.heap.size w w'

set_option maxRecDepth 8000 in
set_option maxHeartbeats 1000000 in
theorem DrawMostFlows_any (A : Option Addr) (c : Nat) (xs : List Int) (w : World) (h : Sl w w.heap.size 1 A xs.length (encU xs)) (hc : xs.length ≤ c) (hm : c ≤ maxLen) (hx : ∀ n ∈ xs, 0 ≤ n ∧ n ≤ 255) :
    Calls Tryd.prog 41 #[.slice A xs.length c] w (GotE w) := by
  have B0 := (Below.refl w.heap.size w).alloc (Nat.le_refl _) (.cells #[.int .i64 0, .slice none 0 0] 50)
  have Z0 := hide (Blk.new w 50 #[.int .i64 0, .slice none 0 0])
  have SA := hide (h.to B0)
  have e0 : (w.alloc (.cells #[.int .i64 0, .slice none 0 0] 50)).heap.size = w.heap.size + 1 := by simp
  have E0 := hide e0
  have HB0 := hide B0
  clear B0 e0
  go_enter Tryd.func41, Tryd.ntmps41
  go_wp2_with fail
  refine (l20Open_any _ _ _ _ SA.out hc hm hx).mono ?_
  rintro e w0 ⟨rfl, hr, hb⟩
  have hr0 := RdU.mk hr
  rw [E0.out] at hr0
  have K0 := hide (HB0.out.then hb)
  have Z1 := hide (Z0.out.to hb)
  have hs := hb.size
  rw [E0.out] at hs
  clear hr hb hx
  go_wp2_with fail
  refine (l20Ends_any _ _ 0 _ _ hr0 (by omega) (by omega) (by omega)).mono ?_
  rintro e w1 ⟨b, ls, D, d, os, E, f, fr, to, hb, hl, hol, rfl, ho1, ho2, hr1, hg1⟩

  have hgt := hr0.lt

  have Z2 := hide (Z1.out.grown hg1 (fun he => by injection he; omega))
  obtain ⟨z0, z3⟩ := Z2.out.two
  have z1 := Z2.out.frozen 0
  have z2 := Z2.out.frozen 1
  obtain ⟨p0, p1⟩ := Z2.out.two_set (u := .int .i64 b) (v := .slice D ls.length d)
  have O1 := hide ho1
  have O2 := hide ho2
  have K1 := hide (K0.out.trans (below_of_grown hg1 (B := w.heap.size) (by omega) (by omega)))
  have HB := hide hb
  clear hb ho1 ho2 hr1 hg1 hr0
  go_wp2_with fail
  refine bodyPost_ret (v := .tuple #[.agg #[.int .i64 b, .slice D ls.length d], .slice E os.length f, .int .i64 fr, .int .i64 to]) (by simp [results, Tryd.results41, go_sem, p0, p1]) rfl ?_
  exact ⟨b, ls, D, d, os, E, f, fr, to, HB.out, hl, hol, rfl, own_mono (own_set (own_set O1.out (by omega) _ _) (by omega) _ _) (by omega), own_mono (own_set (own_set O2.out (by omega) _ _) (by omega) _ _) (by omega), (K1.out.setCell (p := ⟨w.heap.size, 0, none⟩) (Nat.le_refl _) _).setCell (p := ⟨w.heap.size, 1, none⟩) (Nat.le_refl _) _⟩

set_option maxRecDepth 8000 in
set_option maxHeartbeats 1000000 in
theorem DrawMostFlow_any (A : Option Addr) (c : Nat) (xs : List Int) (w : World) (h : Sl w w.heap.size 1 A xs.length (encU xs)) (hc : xs.length ≤ c) (hm : c ≤ maxLen) (hx : ∀ n ∈ xs, 0 ≤ n ∧ n ≤ 255) :
    Calls Tryd.prog 45 #[.slice A xs.length c] w (GotE w) := by
  have B0 := (Below.refl w.heap.size w).alloc (Nat.le_refl _) (.cells #[.int .i64 0, .slice none 0 0] 50)
  have Z0 := hide (Blk.new w 50 #[.int .i64 0, .slice none 0 0])
  have SA := hide (h.to B0)
  have e0 : (w.alloc (.cells #[.int .i64 0, .slice none 0 0] 50)).heap.size = w.heap.size + 1 := by simp
  have E0 := hide e0
  have HB0 := hide B0
  clear B0 e0
  go_enter Tryd.func45, Tryd.ntmps45
  go_wp2_with fail
  refine (l20Open_any _ _ _ _ SA.out hc hm hx).mono ?_
  rintro e w0 ⟨rfl, hr, hb⟩
  have hr0 := RdU.mk hr
  rw [E0.out] at hr0
  have K0 := hide (HB0.out.then hb)
  have Z1 := hide (Z0.out.to hb)
  have hs := hb.size
  rw [E0.out] at hs
  clear hr hb hx
  go_wp2_with fail
  refine (l20Ends_any _ _ 0 _ _ hr0 (by omega) (by omega) (by omega)).mono ?_
  rintro e w1 ⟨b, ls, D, d, os, E, f, fr, to, hb, hl, hol, rfl, ho1, ho2, hr1, hg1⟩

  have hgt := hr0.lt

  have Z2 := hide (Z1.out.grown hg1 (fun he => by injection he; omega))
  obtain ⟨z0, z3⟩ := Z2.out.two
  have z1 := Z2.out.frozen 0
  have z2 := Z2.out.frozen 1
  obtain ⟨p0, p1⟩ := Z2.out.two_set (u := .int .i64 b) (v := .slice D ls.length d)
  have O1 := hide ho1
  have O2 := hide ho2
  have K1 := hide (K0.out.trans (below_of_grown hg1 (B := w.heap.size) (by omega) (by omega)))
  have HB := hide hb
  clear hb ho1 ho2 hr1 hg1 hr0
  go_wp2_with fail
  refine bodyPost_ret (v := .tuple #[.agg #[.int .i64 b, .slice D ls.length d], .slice E os.length f, .int .i64 fr, .int .i64 to]) (by simp [results, Tryd.results45, go_sem, p0, p1]) rfl ?_
  exact ⟨b, ls, D, d, os, E, f, fr, to, HB.out, hl, hol, rfl, own_mono (own_set (own_set O1.out (by omega) _ _) (by omega) _ _) (by omega), own_mono (own_set (own_set O2.out (by omega) _ _) (by omega) _ _) (by omega), (K1.out.setCell (p := ⟨w.heap.size, 0, none⟩) (Nat.le_refl _) _).setCell (p := ⟨w.heap.size, 1, none⟩) (Nat.le_refl _) _⟩

set_option maxRecDepth 8000 in
set_option maxHeartbeats 1000000 in
theorem DrawWeakCut_any (A : Option Addr) (c : Nat) (xs : List Int) (w : World) (h : Sl w w.heap.size 1 A xs.length (encU xs)) (hc : xs.length ≤ c) (hm : c ≤ maxLen) (hx : ∀ n ∈ xs, 0 ≤ n ∧ n ≤ 255) :
    Calls Tryd.prog 47 #[.slice A xs.length c] w (GotE w) := by
  have B0 := (Below.refl w.heap.size w).alloc (Nat.le_refl _) (.cells #[.int .i64 0, .slice none 0 0] 50)
  have Z0 := hide (Blk.new w 50 #[.int .i64 0, .slice none 0 0])
  have SA := hide (h.to B0)
  have e0 : (w.alloc (.cells #[.int .i64 0, .slice none 0 0] 50)).heap.size = w.heap.size + 1 := by simp
  have E0 := hide e0
  have HB0 := hide B0
  clear B0 e0
  go_enter Tryd.func47, Tryd.ntmps47
  go_wp2_with fail
  refine (l20Open_any _ _ _ _ SA.out hc hm hx).mono ?_
  rintro e w0 ⟨rfl, hr, hb⟩
  have hr0 := RdU.mk hr
  rw [E0.out] at hr0
  have K0 := hide (HB0.out.then hb)
  have Z1 := hide (Z0.out.to hb)
  have hs := hb.size
  rw [E0.out] at hs
  clear hr hb hx
  go_wp2_with fail
  refine (l20Ends_any _ _ 0 _ _ hr0 (by omega) (by omega) (by omega)).mono ?_
  rintro e w1 ⟨b, ls, D, d, os, E, f, fr, to, hb, hl, hol, rfl, ho1, ho2, hr1, hg1⟩

  have hgt := hr0.lt

  have Z2 := hide (Z1.out.grown hg1 (fun he => by injection he; omega))
  obtain ⟨z0, z3⟩ := Z2.out.two
  have z1 := Z2.out.frozen 0
  have z2 := Z2.out.frozen 1
  obtain ⟨p0, p1⟩ := Z2.out.two_set (u := .int .i64 b) (v := .slice D ls.length d)
  have O1 := hide ho1
  have O2 := hide ho2
  have K1 := hide (K0.out.trans (below_of_grown hg1 (B := w.heap.size) (by omega) (by omega)))
  have HB := hide hb
  clear hb ho1 ho2 hr1 hg1 hr0
  go_wp2_with fail
  refine bodyPost_ret (v := .tuple #[.agg #[.int .i64 b, .slice D ls.length d], .slice E os.length f, .int .i64 fr, .int .i64 to]) (by simp [results, Tryd.results47, go_sem, p0, p1]) rfl ?_
  exact ⟨b, ls, D, d, os, E, f, fr, to, HB.out, hl, hol, rfl, own_mono (own_set (own_set O1.out (by omega) _ _) (by omega) _ _) (by omega), own_mono (own_set (own_set O2.out (by omega) _ _) (by omega) _ _) (by omega), (K1.out.setCell (p := ⟨w.heap.size, 0, none⟩) (Nat.le_refl _) _).setCell (p := ⟨w.heap.size, 1, none⟩) (Nat.le_refl _) _⟩

end Go.Proofs.YtijnahflfbjgiaaDoor
