/-
  The reference's drawing of readings: what is known of the world meanwhile. Of what is drawn only lengths are said.
-/
import Derived.Test.YtbebhbcjdiahcaaDoorRadW
import Derived.Test.YtbebhbcjdiahcaaDoorSpecFl
import Derived.Deep.RegionWith
namespace Go.Proofs.YtbebhbcjdiahcaaDoor
open Go.RowKit
set_option linter.unusedVariables false

theorem own_low {w w' : World} {base e size n B : Nat} {v : Value} {cs : List Value} (h : w.ownsRow base e size v n cs) (hb : Below B w w') (hk : ∀ k, v.ownBlock = some k → k < B) : w'.ownsRow base e size v n cs :=
  (show But (fun k => B ≤ k) w w' from ⟨hb.os, hb.tape, hb.output, hb.size, fun k _ hn => hb.block k (Nat.lt_of_not_le hn)⟩).own h fun k hk' hn => by have := hk k hk'; omega
/-- Buses that lie between two bounds. -/
def BusB (base top : Nat) (V : Option Addr) (f : Nat) (bu : List (Int × Int)) (wr : World) : Prop :=
  ∃ (F : Option Addr) (m : Nat) (bv : List (Int × Int)), wr.ownsRow base 54 2 (.slice F bv.length m) bv.length (enc2 bv) ∧ (∀ k, (Value.slice F bv.length m).ownBlock = some k → k < top) ∧ ((V = F ∧ bu = bv) ∨ (∃ q, F = some ⟨q, 0, none⟩ ∧ V = some ⟨q, 2, none⟩ ∧ 0 < bv.length ∧ bu = bv.tail))
theorem BusB.low {base top : Nat} {V : Option Addr} {f : Nat} {bu : List (Int × Int)} {w w' : World} (h : BusB base top V f bu w) {B : Nat} (hb : Below B w w') (ht : top ≤ B) : BusB base top V f bu w' := by
  obtain ⟨F, m, bv, h1, h2, h3⟩ := h
  exact ⟨F, m, bv, own_low h1 hb fun k hk => by have := h2 k hk; omega, h2, h3⟩
theorem BusB.only {g base top : Nat} {V : Option Addr} {f : Nat} {bu : List (Int × Int)} {w w' : World} (h : BusB base top V f bu w) (k : Only g w w') (hg : g < base) : BusB base top V f bu w' := by
  obtain ⟨F, m, bv, h1, h2, h3⟩ := h
  exact ⟨F, m, bv, k.own h1 hg, h2, h3⟩
theorem BusB.grown {g base top : Nat} {V : Option Addr} {f : Nat} {bu : List (Int × Int)} {w w' : World} (h : BusB base top V f bu w) (k : w.grownBy w' (some g)) (hg : g < base) : BusB base top V f bu w' := by
  obtain ⟨F, m, bv, h1, h2, h3⟩ := h
  exact ⟨F, m, bv, own_apart (v' := .slice (some ⟨g, 0, none⟩) 1 1) h1 (by simpa [Value.ownBlock] using k) (fun q hq he => by have := (h1.lt q hq).1; simp [Value.ownBlock] at he; omega), h2, h3⟩
theorem enc2_tail (p : Int × Int) (t : List (Int × Int)) : enc2 (p :: t) = .int .i64 p.1 :: .int .i64 p.2 :: enc2 t := by simp [enc2]
theorem BusB.sl {base top : Nat} {V : Option Addr} {f : Nat} {bu : List (Int × Int)} {w : World} (h : BusB base top V f bu w) : Sl w w.heap.size 2 V bu.length (enc2 bu) := by
  obtain ⟨F, m, bv, h1, h2, ⟨rfl, rfl⟩ | ⟨q, rfl, rfl, h4, rfl⟩⟩ := h
  · exact Sl.of_own h1
  · have s := Sl.of_own h1
    cases bv with
    | nil => simp at h4
    | cons p t =>
      obtain ⟨s1, s2⟩ := s
      refine ⟨by simpa using enc2_len t, fun hn => ?_⟩
      obtain ⟨b', off, ha, hb, hc⟩ := s2 (by simp)
      simp only [Option.some.injEq, Addr.mk.injEq] at ha
      obtain ⟨rfl, rfl, _⟩ := ha
      refine ⟨q, 2, rfl, hb, fun j u hu => ?_⟩
      have := hc (j + 2) u (by rw [enc2_tail]; exact hu)
      rw [show 2 + j = 0 + (j + 2) by omega]
      exact this
/-- A network, its state, its buses and its readings, while the readings are drawn. -/
structure VS (B g P : Nat) (w : World) (p : Nat) (b : Int) (xs : List (Int × Int × Int)) (D : Option Addr) (d : Nat) (os : List Bool) (E : Option Addr) (e : Nat) (bu : List (Int × Int)) (V : Option Addr) (f : Nat) (rs : List Int) (O : Option Addr) (o : Nat) (wr : World) : Prop where
  blk : Blk wr p 25 #[.int .i64 b, .slice D xs.length d]
  res : Blk wr w.heap.size 25 #[.int .i64 0, .slice none 0 0]
  own : wr.ownsRow (w.heap.size + 1) 60 3 (.slice D xs.length d) xs.length (enc3 xs)
  oon : wr.ownsRow (w.heap.size + 1) 4 1 (.slice E os.length e) os.length (encB os)
  bus : BusB (w.heap.size + 1) p V f bu wr
  out : wr.ownsRow (p + 1) 3 1 (.slice O rs.length o) rs.length (encI rs)
  hD : ∀ k, (Value.slice D xs.length d).ownBlock = some k → k < p
  hE : ∀ k, (Value.slice E os.length e).ownBlock = some k → k < p
  rd : RdU B wr g P
  grow : w.grownBy wr (some g)
  lt : g < w.heap.size ∧ w.heap.size < p
section
variable {B g P p d e f o : Nat} {w wr w' : World} {b : Int} {xs : List (Int × Int × Int)} {D E V O : Option Addr} {os : List Bool} {bu : List (Int × Int)} {rs : List Int}
theorem VS.size (h : VS B g P w p b xs D d os E e bu V f rs O o wr) : p < wr.heap.size := h.blk.lt
theorem VS.more {Q : Nat} (h : VS B g P w p b xs D d os E e bu V f rs O o wr) (hq : P ≤ Q) : VS B g Q w p b xs D d os E e bu V f rs O o wr := ⟨h.blk, h.res, h.own, h.oon, h.bus, h.out, h.hD, h.hE, h.rd.more hq, h.grow, h.lt⟩
theorem VS.low {rs' : List Int} {O' : Option Addr} {o' m : Nat} (h : VS B g P w p b xs D d os E e bu V f rs O o wr) (hb : Below (p + 1) wr w') (hm : rs'.length = m) (ho : w'.ownsRow (p + 1) 3 1 (.slice O' m o') m (encI rs')) : VS B g P w p b xs D d os E e bu V f rs' O' o' w' := by
  subst hm
  have hlt := h.lt
  exact ⟨h.blk.below hb (by omega), h.res.below hb (by omega), own_low h.own hb (fun k hk => by have := h.hD k hk; omega), own_low h.oon hb (fun k hk => by have := h.hE k hk; omega), h.bus.low hb (by omega), ho, h.hD, h.hE, h.rd.far (hb.mono (by omega)), ⟨hb.os.trans h.grow.os, hb.tape.trans h.grow.tape, hb.output.trans h.grow.output, Nat.le_trans h.grow.size hb.size, fun k hk hne => (hb.block k (by omega)).trans (h.grow.block k hk hne)⟩, h.lt⟩
theorem VS.to (h : VS B g P w p b xs D d os E e bu V f rs O o wr) (hb : Below wr.heap.size wr w') : VS B g P w p b xs D d os E e bu V f rs O o w' := h.low (hb.mono (by have := h.size; omega)) rfl (h.out.keepB hb)
theorem VS.drew (h : VS B g P w p b xs D d os E e bu V f rs O o wr) : VS B g P w p b xs D d os E e bu V f rs O o wr.drew := h.to (Below.refl _ _).drew
theorem VS.alloc (h : VS B g P w p b xs D d os E e bu V f rs O o wr) (ob : Obj) : VS B g P w p b xs D d os E e bu V f rs O o (wr.alloc ob) := h.to ((Below.refl _ _).alloc (Nat.le_refl _) ob)
theorem VS.only {Q : Nat} (h : VS B g P w p b xs D d os E e bu V f rs O o wr) (k : Only g wr w') (hr : RdU B w' g Q) : VS B g Q w p b xs D d os E e bu V f rs O o w' := by
  have := h.lt
  exact ⟨h.blk.grown k.1 (fun e => by injection e; omega), h.res.grown k.1 (fun e => by injection e; omega), k.own h.own (by omega), k.own h.oon (by omega), h.bus.only k (by omega), k.own h.out (by omega), h.hD, h.hE, hr, h.grow.trans k.1, h.lt⟩
theorem VS.app {rs' : List Int} {O' : Option Addr} {o' m : Nat} (h : VS B g P w p b xs D d os E e bu V f rs O o wr) (k : wr.grownBy w' (Value.slice O rs.length o).ownBlock) (hm : rs'.length = m) (ho : w'.ownsRow (p + 1) 3 1 (.slice O' m o') m (encI rs')) : VS B g P w p b xs D d os E e bu V f rs' O' o' w' :=
  h.low (grown_below h.out k h.size) hm ho
theorem VS.set {q k : Nat} {v : Int} (h : VS B g P w p b xs D d os E e bu V f rs (some ⟨q, 0, none⟩) o wr) : VS B g P w p b xs D d os E e bu V f (rs.set k v) (some ⟨q, 0, none⟩) o (wr.setCell ⟨q, k, none⟩ (.int .i64 v)) := by
  have s := h.out.stored k (.int .i64 v)
  have hq : p + 1 ≤ q := (h.out.lt _ rfl).1
  exact h.low (rs' := rs.set k v) (m := (rs.set k v).length) ((Below.refl _ _).setCell (p := ⟨q, k, none⟩) hq _) rfl (by rw [encI_setU, List.length_set]; exact s.1)
theorem VS.cell0 (h : VS B g P w p b xs D d os E e bu V f rs O o wr) : wr.cell? ⟨p, 0, none⟩ = some (.int .i64 b) := h.blk.cell 0
theorem VS.cell1 (h : VS B g P w p b xs D d os E e bu V f rs O o wr) : wr.cell? ⟨p, 1, none⟩ = some (.slice D xs.length d) := h.blk.cell 1
end

theorem BusR.toB {base n f : Nat} {V : Option Addr} {bu : List (Int × Int)} {w : World} (h : BusR base V n f bu w) : BusB base w.heap.size V f bu w := by
  obtain ⟨F, m, bv, h1, h2⟩ := h
  refine ⟨F, m, bv, h1, fun k hk => (h1.lt k hk).2, ?_⟩
  rcases h2 with ⟨rfl, _, rfl⟩ | ⟨q, rfl, rfl, h3, rfl⟩
  · exact .inl ⟨rfl, rfl⟩
  · exact .inr ⟨q, rfl, rfl, by omega, rfl⟩
/-- A drawn network with its state, its buses and its readings. -/
def DrawnV (B g P : Nat) (w : World) (en : Ending) (w' : World) : Prop :=
  ∃ (b : Int) (xs : List (Int × Int × Int)) (D : Option Addr) (d : Nat) (os : List Bool) (E : Option Addr) (e : Nat) (bu : List (Int × Int)) (V : Option Addr) (f p : Nat) (rs : List Int) (O : Option Addr) (o : Nat), xs.length ≤ 20 ∧ os.length ≤ 20 ∧ bu.length ≤ 20 ∧ rs.length ≤ 30 ∧
    en = .returned (.tuple #[.agg #[.int .i64 b, .slice D xs.length d], .slice E os.length e, .slice V bu.length f, .slice O rs.length o]) ∧ w'.ownsRow w.heap.size 60 3 (.slice D xs.length d) xs.length (enc3 xs) ∧ w'.ownsRow w.heap.size 4 1 (.slice E os.length e) os.length (encB os) ∧ BusB w.heap.size p V f bu w' ∧ w'.ownsRow w.heap.size 3 1 (.slice O rs.length o) rs.length (encI rs) ∧ RdU B w' g P ∧ w.grownBy w' (some g)
theorem VS.done {B g P Q p d e f o m : Nat} {w wr : World} {b : Int} {xs : List (Int × Int × Int)} {D E V O : Option Addr} {os : List Bool} {bu : List (Int × Int)} {rs : List Int} {a : Act} (h : VS B g P w p b xs D d os E e bu V f rs O o wr) (hq : P ≤ Q) (h1 : xs.length ≤ 20) (h2 : os.length ≤ 20) (h3 : bu.length ≤ 20) (h7 : rs.length ≤ 30) (hm : rs.length = m)
    (h4 : a.tmps[2]?.getD undef = .pointer (some ⟨w.heap.size, 0, none⟩)) (h5 : a.tmps[3]?.getD undef = .slice E os.length e) (h6 : a.tmps[4]?.getD undef = .slice V bu.length f) (h8 : a.tmps[5]?.getD undef = .slice O m o) (hd : a.defers = []) :
    bodyPost Tryd.prog Tryd.f22 (DrawnV B g Q w) .ret a ((wr.setCell ⟨w.heap.size, 0, none⟩ (.int .i64 b)).setCell ⟨w.heap.size, 1, none⟩ (.slice D xs.length d)) := by
  subst hm
  have hlt := h.lt
  have s1 := setc_grownK wr w.heap.size 0 (.int .i64 b)
  have s2 := setc_grownK (wr.setCell ⟨w.heap.size, 0, none⟩ (.int .i64 b)) w.heap.size 1 (.slice D xs.length d)
  have far : ∀ {base ty size n : Nat} {v : Value} {cs : List Value}, w.heap.size < base → wr.ownsRow base ty size v n cs → ((wr.setCell ⟨w.heap.size, 0, none⟩ (.int .i64 b)).setCell ⟨w.heap.size, 1, none⟩ (.slice D xs.length d)).ownsRow w.heap.size ty size v n cs := fun hbb ho => own_mono (own_apart (v' := .slice (some ⟨w.heap.size, 0, none⟩) 1 1) (own_apart (v' := .slice (some ⟨w.heap.size, 0, none⟩) 1 1) ho (by simpa [Value.ownBlock] using s1) (fun q hq he => by have := (ho.lt q hq).1; simp [Value.ownBlock] at he; omega)) (by simpa [Value.ownBlock] using s2) (fun q hq he => by have := (ho.lt q hq).1; simp [Value.ownBlock] at he; omega)) (by omega)
  have hB := (h.res.set_ 0 (.int .i64 b)).set_ 1 (.slice D xs.length d)
  have p0 : ((wr.setCell ⟨w.heap.size, 0, none⟩ (.int .i64 b)).setCell ⟨w.heap.size, 1, none⟩ (.slice D xs.length d)).cell? ⟨w.heap.size, 0, none⟩ = some (.int .i64 b) := (hB.cell 0).trans (by simp)
  have p1 : ((wr.setCell ⟨w.heap.size, 0, none⟩ (.int .i64 b)).setCell ⟨w.heap.size, 1, none⟩ (.slice D xs.length d)).cell? ⟨w.heap.size, 1, none⟩ = some (.slice D xs.length d) := (hB.cell 1).trans (by simp)
  refine bodyPost_ret (v := .tuple #[.agg #[.int .i64 b, .slice D xs.length d], .slice E os.length e, .slice V bu.length f, .slice O rs.length o]) (by simp [results, Tryd.results22, go_sem, h4, h5, h6, h8, p0, p1]) hd ?_
  obtain ⟨F, m2, bv, b1, b2, b3⟩ := h.bus
  exact ⟨b, xs, D, d, os, E, e, bu, V, f, p, rs, O, o, h1, h2, h3, h7, rfl, far (by omega) h.own, far (by omega) h.oon, ⟨F, m2, bv, far (by omega) b1, b2, b3⟩, far (by omega) h.out, ((h.rd.grown s1 (fun k hk => by injection hk; omega)).grown s2 (fun k hk => by injection hk; omega)).more hq, grown_step (grown_step h.grow s1 (fun k hk => by injection hk; omega)) s2 (fun k hk => by injection hk; omega)⟩

theorem two_cellK {w : World} {g : Nat} {t : TypeId} {a b r : Int} (h : Blk w g t #[.int .i64 a, .int .i64 b]) (h0 : 0 ≤ r) (h1 : r < 2) : ∃ y, w.cell? ⟨g, r.toNat, none⟩ = some (.int .i64 y) := by
  rcases (by omega : r = 0 ∨ r = 1) with rfl | rfl
  · exact ⟨a, h.cell 0⟩
  · exact ⟨b, h.cell 1⟩

set_option maxRecDepth 8000 in
set_option maxHeartbeats 8000000 in
theorem l20Readings_any (B g P : Nat) (w : World) (h : RdU B w g P) (hp : P ≤ 1000) :
    Calls Tryd.prog 22 #[.pointer (some ⟨g, 0, none⟩)] w (DrawnV B g (P + 120) w) := by
  have hgw := h.lt
  have e0 : (w.alloc (.cells #[.int .i64 0, .slice none 0 0] 25)).heap.size = w.heap.size + 1 := by simp
  have G0 := hide (grown_alloc (World.grownBy.refl w (some g)) (.cells #[.int .i64 0, .slice none 0 0] 25))
  have R0 := hide (h.grown (World.grownBy_alloc w (.cells #[.int .i64 0, .slice none 0 0] 25) none) (fun k hk => by cases hk))
  have Z0 := hide (Blk.new w 25 #[.int .i64 0, .slice none 0 0])
  have E0 := hide e0
  clear h e0
  go_enter Tryd.func22, Tryd.ntmps22
  go_wp2_with fail
  refine (l20Radial_any B g P 12 _ R0.out (by omega) (by omega)).mono ?_
  rintro en w1 ⟨b, xs, D, d, os, E, e, bu, V, n, f, lx, lo, ln, hl, rfl, o1, o2, b1, r1, k1⟩
  obtain rfl : n = bu.length := hl.symm
  clear hl
  rw [E0.out] at o1 o2 b1
  have hp1 := (Z0.out.grown k1 (fun he => by injection he; omega)).lt
  have N6 := World.ownsRow_lit (base := w1.heap.size + 1) (e := 3) (size := 1) (w1.alloc (.cells #[.int .i64 b, .slice D xs.length d] 25)) #[] 0 (by simp) (by unfold maxLen; omega) rfl
  have e1 : (w1.alloc (.cells #[.int .i64 b, .slice D xs.length d] 25)).heap.size = w1.heap.size + 1 := by simp
  rw [e1] at N6
  have ST : Hid (VS B g (P + 100) w w1.heap.size b xs D d os E e bu V f [] (some ⟨w1.heap.size + 1, 0, none⟩) 0 ((w1.alloc (.cells #[.int .i64 b, .slice D xs.length d] 25)).alloc (.cells #[] 3))) := hide
    ⟨(Blk.new _ _ _).alloc _, ((Z0.out.grown k1 (fun he => by injection he; omega)).alloc _).alloc _, (o1.alloc _).alloc _, (o2.alloc _).alloc _, b1.toB.low (((Below.refl w1.heap.size _).alloc (Nat.le_refl _) _).alloc (by simp) _) (Nat.le_refl _), N6, fun k hk => (o1.lt k hk).2, fun k hk => (o2.lt k hk).2, (r1.grown (World.grownBy_alloc w1 _ none) (fun k hk => by cases hk)).grown (World.grownBy_alloc _ _ none) (fun k hk => by cases hk), grown_alloc (grown_alloc (G0.out.trans k1) _) _, ⟨hgw, hp1⟩⟩
  clear o1 o2 b1 r1 k1 G0 R0 Z0 E0 N6 e1
  go_wp2_with fail
  generalize w1.heap.size = p at *
  go_loopw [9, 10] (fun z x wr => ∃ (k : Nat) (rs : List Int) (O : Option Addr) (o : Nat), k ≤ os.length ∧ z = .slice O rs.length o ∧ x = .int .i64 k ∧ Hid (rs.length = k) ∧ Hid (VS B g (P + 100) w p b xs D d os E e bu V f rs O o wr)) (fun _ x _ => os.length - (intOf x).toNat)
  case atStart => exact ⟨0, [], _, 0, Nat.zero_le _, rfl, rfl, hide rfl, ST⟩
  case round =>
    clear ST
    obtain ⟨k, rs, O, o, hk, rfl, rfl, HR, ST⟩ := hrel
    have c0 := ST.out.cell0
    have c1 := ST.out.cell1
    have lr : rs.length ≤ 20 := by have := HR.out; omega
    by_cases hlt : k < os.length
    · have H1 := hide (Sl.of_own ST.out.own)
      have G1 := hide (Sl.of_own ST.out.oon)
      have S1 := hide ST.out.bus.sl
      go_wp2_with fail
      refine (specLineFlow_any b k D E V d e f os.length xs os bu wr H1.out G1.out rfl S1.out (by omega) (by omega) hlt (by omega)).mono ?_
      rintro en' w2 ⟨x, x1, x2, rfl, hb2⟩
      have ST2 := hide (ST.out.to hb2)
      clear hb2 ST c0 c1 H1 G1 S1
      rcases (by omega : x < 0 ∨ x = 0 ∨ 0 < x) with hx | rfl | hx
      · skip
        go_wp2_with (at_builtin; refine app_int w2 rfl (.tmp 26) (.tmp 33) rfl (p + 1) O rs.length o rs (0) rfl ST2.out.out w2.heap.size rfl rfl ST2.out.size (by omega) ?_; intro D2 d2 w3 ho3 hg3; have ST3 := hide (ST2.out.app (rs' := rs ++ [0]) hg3 (by simp) ho3); clear ho3 hg3)
        go_roundw
        case rel => exact ⟨k + 1, rs ++ [0], D2, d2, by omega, by simp, by go_num, hide (by have := HR.out; simp; omega), ST3⟩
        case measure => simp [intOf]; omega
      · skip
        go_wp2_with (at_builtin; refine app_int w2 rfl (.tmp 26) (.tmp 33) rfl (p + 1) O rs.length o rs (0) rfl ST2.out.out w2.heap.size rfl rfl ST2.out.size (by omega) ?_; intro D2 d2 w3 ho3 hg3; have ST3 := hide (ST2.out.app (rs' := rs ++ [0]) hg3 (by simp) ho3); clear ho3 hg3)
        go_roundw
        case rel => exact ⟨k + 1, rs ++ [0], D2, d2, by omega, by simp, by go_num, hide (by have := HR.out; simp; omega), ST3⟩
        case measure => simp [intOf]; omega
      · skip
        go_wp2_with (at_builtin; refine app_int w2 rfl (.tmp 26) (.tmp 33) rfl (p + 1) O rs.length o rs (x) rfl ST2.out.out w2.heap.size rfl rfl ST2.out.size (by omega) ?_; intro D2 d2 w3 ho3 hg3; have ST3 := hide (ST2.out.app (rs' := rs ++ [x]) hg3 (by simp) ho3); clear ho3 hg3)
        go_roundw
        case rel => exact ⟨k + 1, rs ++ [x], D2, d2, by omega, by simp, by go_num, hide (by have := HR.out; simp; omega), ST3⟩
        case measure => simp [intOf]; omega
    · obtain rfl : k = os.length := by omega
      go_wp2_with fail
      refine (pick_u B g (P + 100) 3 _ ST.out.rd (by omega)).mono ?_
      rintro en' w3 ⟨m0', u1, u2, _, rfl, h3, o3⟩
      have u3 := u2 (by omega)
      have ST3 := hide (ST.out.only o3 h3)
      obtain ⟨m0, rfl⟩ := Int.eq_ofNat_of_zero_le u1
      clear u2 h3 o3 ST c0 c1
      obtain ⟨n, hrn⟩ : ∃ n, n = rs.length := ⟨_, rfl⟩
      rw [← hrn]
      have HRN := hide hrn.symm
      have lnn : n ≤ 20 := by omega
      clear hrn lr HR
      go_wp2_with fail
      go_loopw [11] (fun z wr => ∃ (m : Nat) (rs : List Int), m ≤ 2 ∧ z = .int .i64 m ∧ Hid (rs.length = n) ∧ Hid (VS B g (P + 101 + 2 * (2 - m)) w p b xs D d os E e bu V f rs O o wr)) (fun z _ => (intOf z).toNat)
      case atStart => exact ⟨m0, rs, by omega, rfl, HRN, hide (ST3.out.more (by omega))⟩
      case round =>
        clear ST3 HRN u1 u3
        obtain ⟨m, rs, hm2, rfl, HRN, ST⟩ := hrel
        by_cases hm : 0 < m
        · by_cases hn : 0 < n
          · obtain ⟨qO, cO, hO, _, _⟩ := ST.out.out.form (by have := HRN.out; omega)
            cases hO
            go_wp2_with fail
            refine (pick_u B g (P + 101 + 2 * (2 - m)) n _ ST.out.rd (by omega)).mono ?_
            rintro en' w4 ⟨j', j1, j2, _, rfl, h4, o4⟩
            have j3 := j2 (by omega)
            obtain ⟨j, rfl⟩ := Int.eq_ofNat_of_zero_le j1
            have ST4 := hide (ST.out.only o4 h4)
            clear j2 h4 o4 ST
            obtain ⟨x0, x1⟩ := own_cell ST4.out.out j (by have := HRN.out; omega)
            have x2 := ST4.out.out.cellAt j (by have := HRN.out; omega)
            rw [encI_at rs j (by have := HRN.out; omega)] at x2
            have x3 := ST4.out.out.frozenAt j
            clear x1
            go_wp2_with fail
            go_region_with ((go_at_call 46; refine (pick_u B g (P + 101 + 2 * (2 - m) + 1) _ _ ?_ ?_).mono ?_; exact ST4.out.drew.rd; omega; rintro _ w5 ⟨y, y1, y2, _, rfl, h5, o5⟩; have y3 := y2 (by omega); have ST5 := hide (ST4.out.drew.only o5 h5); have v0 := ST5.out.out.cellAt j (by have := HRN.out; omega); rw [encI_at rs j (by have := HRN.out; omega)] at v0; have v1 := ST5.out.out.frozenAt j))
            all_goals
              generalize (if IntKind.i64.wrap (IntKind.i64.wrap (at_ rs j + y) - 20) < 0 then (0 : Int) else IntKind.i64.wrap (IntKind.i64.wrap (at_ rs j + y) - 20)) = q at *
              have STz := hide (ST5.out.set (k := j) (v := q))
              clear x2 x3 v0 v1 ST4 ST5
              go_wp2_with fail
              go_roundw
              case rel => exact ⟨m - 1, rs.set j q, by omega, by go_num, hide (by rw [List.length_set]; exact HRN.out), hide (STz.out.more (by omega))⟩
              case measure => simp [intOf]; omega
          · have ST0 := hide (ST.out.more (Q := P + 106) (by omega))
            clear ST
            go_wp2_with fail
            refine (odd_u B g (P + 106) 14 _ ST0.out.rd (by omega) (by omega)).mono ?_
            rintro en' wo ⟨bo, rfl, ho, oo⟩
            have STo := hide (ST0.out.only oo ho)
            clear ho oo ST0
            cases bo
            · skip
              have c0 := STo.out.cell0
              have c1 := STo.out.cell1
              have r0 := STo.out.res.two
              have r1 := STo.out.res.frozen 0
              have r2 := STo.out.res.frozen 1
              go_wp2_with fail
              exact STo.out.done (Q := P + 120) (by omega) lx lo ln (by have := HRN.out; omega) HRN.out rfl rfl rfl rfl rfl
            · skip
              go_wp2_with (at_builtin; refine app_int wo rfl (.tmp 79) (.tmp 80) rfl (p + 1) O n o rs 0 rfl (by rw [← HRN.out]; exact STo.out.out) wo.heap.size rfl rfl STo.out.size (by omega) ?_; intro D2 d2 wz hoz hgz; have STz := hide (STo.out.app (rs' := rs ++ [0]) (by rw [HRN.out]; exact hgz) (by have := HRN.out; simp; omega) hoz); have c0 := STz.out.cell0; have c1 := STz.out.cell1; have r0 := STz.out.res.two; have r1 := STz.out.res.frozen 0; have r2 := STz.out.res.frozen 1; clear hoz hgz)
              exact STz.out.done (Q := P + 120) (by omega) lx lo ln (by have := HRN.out; simp; omega) (by have := HRN.out; simp; omega) rfl rfl rfl rfl rfl
        · have ST0 := hide (ST.out.more (Q := P + 106) (by omega))
          clear ST
          go_wp2_with fail
          refine (odd_u B g (P + 106) 14 _ ST0.out.rd (by omega) (by omega)).mono ?_
          rintro en' wo ⟨bo, rfl, ho, oo⟩
          have STo := hide (ST0.out.only oo ho)
          clear ho oo ST0
          cases bo
          · skip
            have c0 := STo.out.cell0
            have c1 := STo.out.cell1
            have r0 := STo.out.res.two
            have r1 := STo.out.res.frozen 0
            have r2 := STo.out.res.frozen 1
            go_wp2_with fail
            exact STo.out.done (Q := P + 120) (by omega) lx lo ln (by have := HRN.out; omega) HRN.out rfl rfl rfl rfl rfl
          · skip
            by_cases hn0 : 0 < n
            · go_wp2_with fail
              refine (pick_u B g (P + 106 + 1) 2 _ STo.out.rd (by omega)).mono ?_
              rintro en' wp ⟨z, z1, z2, _, rfl, hp', op⟩
              have STp := hide (STo.out.only op hp')
              clear z2 hp' op STo
              by_cases hz : z = 0
              · have hzb : (z == 0) = true := by simp [hz]
                have STq := hide (STp.out.alloc (.cells #[.int .i64 (-1), .int .i64 15985] 3))
                have BT := hide (Blk.new wp 3 #[.int .i64 (-1), .int .i64 15985])
                have hgp : g < wp.heap.size := by have := STp.out.size; have := STp.out.lt; omega
                go_wp2_with fail
                refine (pick_u B g (P + 106 + 1 + 1) 2 _ STq.out.rd (by omega)).mono ?_
                rintro en' wq ⟨t, t1, t2, _, rfl, hq', oq⟩
                have t3 := t2 (by omega)
                have STr := hide (STq.out.only oq hq')
                have BT2 := hide (BT.out.grown oq.1 (fun he => by injection he; omega))
                obtain ⟨y, hy⟩ := two_cellK BT2.out t1 t3
                obtain ⟨tn, rfl⟩ := Int.eq_ofNat_of_zero_le t1
                rw [Int.toNat_natCast] at hy
                clear t2 hq' oq STp STq BT BT2
                obtain ⟨qO, cO, hO, _, _⟩ := STr.out.out.form (by have := HRN.out; omega)
                cases hO
                obtain ⟨x0, x1⟩ := own_cell STr.out.out 0 (by have := HRN.out; omega)
                have x3 := STr.out.out.frozenAt 0
                have STs := hide (STr.out.set (k := 0) (v := y))
                have b1 := STs.out.cell0
                have b2 := STs.out.cell1
                have b3 := STs.out.res.two
                have b4 := STs.out.res.frozen 0
                have b5 := STs.out.res.frozen 1
                go_wp2_with fail
                exact STs.out.done (Q := P + 120) (by omega) lx lo ln (by rw [List.length_set]; have := HRN.out; omega) (by rw [List.length_set]; exact HRN.out) rfl rfl rfl rfl rfl
              · have hzb : (z == 0) = false := by simp [hz]
                go_wp2_with (at_builtin; refine app_int wp rfl (.tmp 79) (.tmp 80) rfl (p + 1) O n o rs 0 rfl (by rw [← HRN.out]; exact STp.out.out) wp.heap.size rfl rfl STp.out.size (by omega) ?_; intro D2 d2 wz hoz hgz; have STz := hide (STp.out.app (rs' := rs ++ [0]) (by rw [HRN.out]; exact hgz) (by have := HRN.out; simp; omega) hoz); have c0 := STz.out.cell0; have c1 := STz.out.cell1; have r0 := STz.out.res.two; have r1 := STz.out.res.frozen 0; have r2 := STz.out.res.frozen 1; clear hoz hgz)
                exact STz.out.done (Q := P + 120) (by omega) lx lo ln (by have := HRN.out; simp; omega) (by have := HRN.out; simp; omega) rfl rfl rfl rfl rfl
            · skip
              go_wp2_with (at_builtin; refine app_int wo rfl (.tmp 79) (.tmp 80) rfl (p + 1) O n o rs 0 rfl (by rw [← HRN.out]; exact STo.out.out) wo.heap.size rfl rfl STo.out.size (by omega) ?_; intro D2 d2 wz hoz hgz; have STz := hide (STo.out.app (rs' := rs ++ [0]) (by rw [HRN.out]; exact hgz) (by have := HRN.out; simp; omega) hoz); have c0 := STz.out.cell0; have c1 := STz.out.cell1; have r0 := STz.out.res.two; have r1 := STz.out.res.frozen 0; have r2 := STz.out.res.frozen 1; clear hoz hgz)
              exact STz.out.done (Q := P + 120) (by omega) lx lo ln (by have := HRN.out; simp; omega) (by have := HRN.out; simp; omega) rfl rfl rfl rfl rfl

/-- Drawn arguments, of the call's own. -/
def GotV (w : World) (en : Ending) (w' : World) : Prop :=
  ∃ (b : Int) (xs : List (Int × Int × Int)) (D : Option Addr) (d : Nat) (os : List Bool) (E : Option Addr) (e : Nat) (bu : List (Int × Int)) (V : Option Addr) (f p : Nat) (rs : List Int) (O : Option Addr) (o : Nat), xs.length ≤ 20 ∧ os.length ≤ 20 ∧ bu.length ≤ 20 ∧ rs.length ≤ 30 ∧
    en = .returned (.tuple #[.agg #[.int .i64 b, .slice D xs.length d], .slice E os.length e, .slice V bu.length f, .slice O rs.length o]) ∧ w'.ownsRow w.heap.size 60 3 (.slice D xs.length d) xs.length (enc3 xs) ∧ w'.ownsRow w.heap.size 4 1 (.slice E os.length e) os.length (encB os) ∧ BusB w.heap.size p V f bu w' ∧ w'.ownsRow w.heap.size 3 1 (.slice O rs.length o) rs.length (encI rs) ∧ Below w.heap.size w w'

set_option maxRecDepth 8000 in
set_option maxHeartbeats 2000000 in
theorem DrawResiduals_any (A : Option Addr) (c : Nat) (code : List Int) (w : World) (h : Sl w w.heap.size 1 A code.length (encU code)) (hc : code.length ≤ c) (hm : c ≤ maxLen) (hx : ∀ n ∈ code, 0 ≤ n ∧ n ≤ 255) :
    Calls Tryd.prog 6 #[.slice A code.length c] w (GotV w) := by
  have e0 : (w.alloc (.cells #[.int .i64 0, .slice none 0 0] 25)).heap.size = w.heap.size + 1 := by simp
  have HB0 := hide ((Below.refl _ w).alloc (Nat.le_refl _) (.cells #[.int .i64 0, .slice none 0 0] 25))
  have Z0 := hide (Blk.new w 25 #[.int .i64 0, .slice none 0 0])
  have HH := hide (h.to HB0.out)
  have E0 := hide e0
  clear h e0
  go_enter Tryd.func6, Tryd.ntmps6
  go_wp2_with fail
  refine (l20Open_any A c code _ HH.out hc hm hx).mono ?_
  rintro en w1 ⟨he, hr, hb⟩
  rw [E0.out] at he hr
  subst he
  have K0 := hide (HB0.out.then hb)
  have Z1 := hide (Z0.out.to hb)
  have R1 : Hid (RdU (w.heap.size + 1) w1 (w.heap.size + 1) 0) := hide ⟨0, Nat.le_refl _, hr⟩
  have hs := hb.size
  rw [E0.out] at hs
  have hg1 := R1.out.lt
  clear hr hb HB0 Z0 HH
  go_wp2_with fail
  refine (l20Readings_any (w.heap.size + 1) (w.heap.size + 1) 0 w1 R1.out (by omega)).mono ?_
  rintro en w2 ⟨b, xs, D, d, os, E, e, bu, V, f, p, rs, O, o, lx, lo, lb, lr, rfl, o1, o2, b1, o3, r1, k1⟩
  have Z2 := Z1.out.grown k1 (fun he => by injection he; omega)
  have K2 := hide (K0.out.trans (below_of_grown k1 (B := w.heap.size) (by omega) (by omega)))
  obtain ⟨z0, z1⟩ := Z2.two
  have z2 := Z2.frozen 0
  have z3 := Z2.frozen 1
  have s1 := setc_grownK w2 w.heap.size 0 (.int .i64 b)
  have s2 := setc_grownK (w2.setCell ⟨w.heap.size, 0, none⟩ (.int .i64 b)) w.heap.size 1 (.slice D xs.length d)
  have far : ∀ {ty size n : Nat} {v : Value} {cs : List Value}, w2.ownsRow w1.heap.size ty size v n cs → ((w2.setCell ⟨w.heap.size, 0, none⟩ (.int .i64 b)).setCell ⟨w.heap.size, 1, none⟩ (.slice D xs.length d)).ownsRow w.heap.size ty size v n cs := fun ho => own_mono (own_apart (v' := .slice (some ⟨w.heap.size, 0, none⟩) 1 1) (own_apart (v' := .slice (some ⟨w.heap.size, 0, none⟩) 1 1) ho (by simpa [Value.ownBlock] using s1) (fun q hq he => by have := (ho.lt q hq).1; simp [Value.ownBlock] at he; omega)) (by simpa [Value.ownBlock] using s2) (fun q hq he => by have := (ho.lt q hq).1; simp [Value.ownBlock] at he; omega)) (by omega)
  have hB := (Z2.set_ 0 (.int .i64 b)).set_ 1 (.slice D xs.length d)
  have p0 : ((w2.setCell ⟨w.heap.size, 0, none⟩ (.int .i64 b)).setCell ⟨w.heap.size, 1, none⟩ (.slice D xs.length d)).cell? ⟨w.heap.size, 0, none⟩ = some (.int .i64 b) := (hB.cell 0).trans (by simp)
  have p1 : ((w2.setCell ⟨w.heap.size, 0, none⟩ (.int .i64 b)).setCell ⟨w.heap.size, 1, none⟩ (.slice D xs.length d)).cell? ⟨w.heap.size, 1, none⟩ = some (.slice D xs.length d) := (hB.cell 1).trans (by simp)
  obtain ⟨F, m2, bv, y1, y2, y3⟩ := b1
  have G : Hid (GotV w (.returned (.tuple #[.agg #[.int .i64 b, .slice D xs.length d], .slice E os.length e, .slice V bu.length f, .slice O rs.length o])) ((w2.setCell ⟨w.heap.size, 0, none⟩ (.int .i64 b)).setCell ⟨w.heap.size, 1, none⟩ (.slice D xs.length d))) := hide
    ⟨b, xs, D, d, os, E, e, bu, V, f, p, rs, O, o, lx, lo, lb, lr, rfl, far o1, far o2, ⟨F, m2, bv, far y1, y2, y3⟩, far o3, (K2.out.setCell (p := ⟨w.heap.size, 0, none⟩) (Nat.le_refl _) _).setCell (p := ⟨w.heap.size, 1, none⟩) (Nat.le_refl _) _⟩
  have P0 := hide p0
  have P1 := hide p1
  clear o1 o2 o3 y1 y2 y3 r1 k1 s1 s2 far hB Z2 p0 p1
  go_wp2_with fail
  have p0 := P0.out
  have p1 := P1.out
  exact bodyPost_ret (v := .tuple #[.agg #[.int .i64 b, .slice D xs.length d], .slice E os.length e, .slice V bu.length f, .slice O rs.length o]) (by simp [results, Tryd.results6, go_sem, p0, p1]) rfl G.out

set_option maxRecDepth 8000 in
set_option maxHeartbeats 2000000 in
theorem DrawBadLine_any (A : Option Addr) (c : Nat) (code : List Int) (w : World) (h : Sl w w.heap.size 1 A code.length (encU code)) (hc : code.length ≤ c) (hm : c ≤ maxLen) (hx : ∀ n ∈ code, 0 ≤ n ∧ n ≤ 255) :
    Calls Tryd.prog 15 #[.slice A code.length c] w (GotV w) := by
  have e0 : (w.alloc (.cells #[.int .i64 0, .slice none 0 0] 25)).heap.size = w.heap.size + 1 := by simp
  have HB0 := hide ((Below.refl _ w).alloc (Nat.le_refl _) (.cells #[.int .i64 0, .slice none 0 0] 25))
  have Z0 := hide (Blk.new w 25 #[.int .i64 0, .slice none 0 0])
  have HH := hide (h.to HB0.out)
  have E0 := hide e0
  clear h e0
  go_enter Tryd.func15, Tryd.ntmps15
  go_wp2_with fail
  refine (l20Open_any A c code _ HH.out hc hm hx).mono ?_
  rintro en w1 ⟨he, hr, hb⟩
  rw [E0.out] at he hr
  subst he
  have K0 := hide (HB0.out.then hb)
  have Z1 := hide (Z0.out.to hb)
  have R1 : Hid (RdU (w.heap.size + 1) w1 (w.heap.size + 1) 0) := hide ⟨0, Nat.le_refl _, hr⟩
  have hs := hb.size
  rw [E0.out] at hs
  have hg1 := R1.out.lt
  clear hr hb HB0 Z0 HH
  go_wp2_with fail
  refine (l20Readings_any (w.heap.size + 1) (w.heap.size + 1) 0 w1 R1.out (by omega)).mono ?_
  rintro en w2 ⟨b, xs, D, d, os, E, e, bu, V, f, p, rs, O, o, lx, lo, lb, lr, rfl, o1, o2, b1, o3, r1, k1⟩
  have Z2 := Z1.out.grown k1 (fun he => by injection he; omega)
  have K2 := hide (K0.out.trans (below_of_grown k1 (B := w.heap.size) (by omega) (by omega)))
  obtain ⟨z0, z1⟩ := Z2.two
  have z2 := Z2.frozen 0
  have z3 := Z2.frozen 1
  have s1 := setc_grownK w2 w.heap.size 0 (.int .i64 b)
  have s2 := setc_grownK (w2.setCell ⟨w.heap.size, 0, none⟩ (.int .i64 b)) w.heap.size 1 (.slice D xs.length d)
  have far : ∀ {ty size n : Nat} {v : Value} {cs : List Value}, w2.ownsRow w1.heap.size ty size v n cs → ((w2.setCell ⟨w.heap.size, 0, none⟩ (.int .i64 b)).setCell ⟨w.heap.size, 1, none⟩ (.slice D xs.length d)).ownsRow w.heap.size ty size v n cs := fun ho => own_mono (own_apart (v' := .slice (some ⟨w.heap.size, 0, none⟩) 1 1) (own_apart (v' := .slice (some ⟨w.heap.size, 0, none⟩) 1 1) ho (by simpa [Value.ownBlock] using s1) (fun q hq he => by have := (ho.lt q hq).1; simp [Value.ownBlock] at he; omega)) (by simpa [Value.ownBlock] using s2) (fun q hq he => by have := (ho.lt q hq).1; simp [Value.ownBlock] at he; omega)) (by omega)
  have hB := (Z2.set_ 0 (.int .i64 b)).set_ 1 (.slice D xs.length d)
  have p0 : ((w2.setCell ⟨w.heap.size, 0, none⟩ (.int .i64 b)).setCell ⟨w.heap.size, 1, none⟩ (.slice D xs.length d)).cell? ⟨w.heap.size, 0, none⟩ = some (.int .i64 b) := (hB.cell 0).trans (by simp)
  have p1 : ((w2.setCell ⟨w.heap.size, 0, none⟩ (.int .i64 b)).setCell ⟨w.heap.size, 1, none⟩ (.slice D xs.length d)).cell? ⟨w.heap.size, 1, none⟩ = some (.slice D xs.length d) := (hB.cell 1).trans (by simp)
  obtain ⟨F, m2, bv, y1, y2, y3⟩ := b1
  have G : Hid (GotV w (.returned (.tuple #[.agg #[.int .i64 b, .slice D xs.length d], .slice E os.length e, .slice V bu.length f, .slice O rs.length o])) ((w2.setCell ⟨w.heap.size, 0, none⟩ (.int .i64 b)).setCell ⟨w.heap.size, 1, none⟩ (.slice D xs.length d))) := hide
    ⟨b, xs, D, d, os, E, e, bu, V, f, p, rs, O, o, lx, lo, lb, lr, rfl, far o1, far o2, ⟨F, m2, bv, far y1, y2, y3⟩, far o3, (K2.out.setCell (p := ⟨w.heap.size, 0, none⟩) (Nat.le_refl _) _).setCell (p := ⟨w.heap.size, 1, none⟩) (Nat.le_refl _) _⟩
  have P0 := hide p0
  have P1 := hide p1
  clear o1 o2 o3 y1 y2 y3 r1 k1 s1 s2 far hB Z2 p0 p1
  go_wp2_with fail
  have p0 := P0.out
  have p1 := P1.out
  exact bodyPost_ret (v := .tuple #[.agg #[.int .i64 b, .slice D xs.length d], .slice E os.length e, .slice V bu.length f, .slice O rs.length o]) (by simp [results, Tryd.results15, go_sem, p0, p1]) rfl G.out

set_option maxRecDepth 8000 in
set_option maxHeartbeats 2000000 in
theorem DrawMendReadings_any (A : Option Addr) (c : Nat) (code : List Int) (w : World) (h : Sl w w.heap.size 1 A code.length (encU code)) (hc : code.length ≤ c) (hm : c ≤ maxLen) (hx : ∀ n ∈ code, 0 ≤ n ∧ n ≤ 255) :
    Calls Tryd.prog 18 #[.slice A code.length c] w (GotV w) := by
  have e0 : (w.alloc (.cells #[.int .i64 0, .slice none 0 0] 25)).heap.size = w.heap.size + 1 := by simp
  have HB0 := hide ((Below.refl _ w).alloc (Nat.le_refl _) (.cells #[.int .i64 0, .slice none 0 0] 25))
  have Z0 := hide (Blk.new w 25 #[.int .i64 0, .slice none 0 0])
  have HH := hide (h.to HB0.out)
  have E0 := hide e0
  clear h e0
  go_enter Tryd.func18, Tryd.ntmps18
  go_wp2_with fail
  refine (l20Open_any A c code _ HH.out hc hm hx).mono ?_
  rintro en w1 ⟨he, hr, hb⟩
  rw [E0.out] at he hr
  subst he
  have K0 := hide (HB0.out.then hb)
  have Z1 := hide (Z0.out.to hb)
  have R1 : Hid (RdU (w.heap.size + 1) w1 (w.heap.size + 1) 0) := hide ⟨0, Nat.le_refl _, hr⟩
  have hs := hb.size
  rw [E0.out] at hs
  have hg1 := R1.out.lt
  clear hr hb HB0 Z0 HH
  go_wp2_with fail
  refine (l20Readings_any (w.heap.size + 1) (w.heap.size + 1) 0 w1 R1.out (by omega)).mono ?_
  rintro en w2 ⟨b, xs, D, d, os, E, e, bu, V, f, p, rs, O, o, lx, lo, lb, lr, rfl, o1, o2, b1, o3, r1, k1⟩
  have Z2 := Z1.out.grown k1 (fun he => by injection he; omega)
  have K2 := hide (K0.out.trans (below_of_grown k1 (B := w.heap.size) (by omega) (by omega)))
  obtain ⟨z0, z1⟩ := Z2.two
  have z2 := Z2.frozen 0
  have z3 := Z2.frozen 1
  have s1 := setc_grownK w2 w.heap.size 0 (.int .i64 b)
  have s2 := setc_grownK (w2.setCell ⟨w.heap.size, 0, none⟩ (.int .i64 b)) w.heap.size 1 (.slice D xs.length d)
  have far : ∀ {ty size n : Nat} {v : Value} {cs : List Value}, w2.ownsRow w1.heap.size ty size v n cs → ((w2.setCell ⟨w.heap.size, 0, none⟩ (.int .i64 b)).setCell ⟨w.heap.size, 1, none⟩ (.slice D xs.length d)).ownsRow w.heap.size ty size v n cs := fun ho => own_mono (own_apart (v' := .slice (some ⟨w.heap.size, 0, none⟩) 1 1) (own_apart (v' := .slice (some ⟨w.heap.size, 0, none⟩) 1 1) ho (by simpa [Value.ownBlock] using s1) (fun q hq he => by have := (ho.lt q hq).1; simp [Value.ownBlock] at he; omega)) (by simpa [Value.ownBlock] using s2) (fun q hq he => by have := (ho.lt q hq).1; simp [Value.ownBlock] at he; omega)) (by omega)
  have hB := (Z2.set_ 0 (.int .i64 b)).set_ 1 (.slice D xs.length d)
  have p0 : ((w2.setCell ⟨w.heap.size, 0, none⟩ (.int .i64 b)).setCell ⟨w.heap.size, 1, none⟩ (.slice D xs.length d)).cell? ⟨w.heap.size, 0, none⟩ = some (.int .i64 b) := (hB.cell 0).trans (by simp)
  have p1 : ((w2.setCell ⟨w.heap.size, 0, none⟩ (.int .i64 b)).setCell ⟨w.heap.size, 1, none⟩ (.slice D xs.length d)).cell? ⟨w.heap.size, 1, none⟩ = some (.slice D xs.length d) := (hB.cell 1).trans (by simp)
  obtain ⟨F, m2, bv, y1, y2, y3⟩ := b1
  have G : Hid (GotV w (.returned (.tuple #[.agg #[.int .i64 b, .slice D xs.length d], .slice E os.length e, .slice V bu.length f, .slice O rs.length o])) ((w2.setCell ⟨w.heap.size, 0, none⟩ (.int .i64 b)).setCell ⟨w.heap.size, 1, none⟩ (.slice D xs.length d))) := hide
    ⟨b, xs, D, d, os, E, e, bu, V, f, p, rs, O, o, lx, lo, lb, lr, rfl, far o1, far o2, ⟨F, m2, bv, far y1, y2, y3⟩, far o3, (K2.out.setCell (p := ⟨w.heap.size, 0, none⟩) (Nat.le_refl _) _).setCell (p := ⟨w.heap.size, 1, none⟩) (Nat.le_refl _) _⟩
  have P0 := hide p0
  have P1 := hide p1
  clear o1 o2 o3 y1 y2 y3 r1 k1 s1 s2 far hB Z2 p0 p1
  go_wp2_with fail
  have p0 := P0.out
  have p1 := P1.out
  exact bodyPost_ret (v := .tuple #[.agg #[.int .i64 b, .slice D xs.length d], .slice E os.length e, .slice V bu.length f, .slice O rs.length o]) (by simp [results, Tryd.results18, go_sem, p0, p1]) rfl G.out

end Go.Proofs.YtbebhbcjdiahcaaDoor
