/-
  The reference's drawing of radial networks. Of what is drawn only lengths are said.
-/
import Derived.Test.YtbebhbcjdiahcaaDoorRad
namespace Go.Proofs.YtbebhbcjdiahcaaDoor
open Go.RowKit
set_option linter.unusedVariables false

/-- Buses of the call's own, perhaps without the first. -/
def BusR (base : Nat) (V : Option Addr) (n f : Nat) (bu : List (Int × Int)) (wr : World) : Prop :=
  ∃ (F : Option Addr) (m : Nat) (bv : List (Int × Int)), wr.ownsRow base 54 2 (.slice F bv.length m) bv.length (enc2 bv) ∧ ((V = F ∧ n = bv.length ∧ bu = bv) ∨ (∃ q, F = some ⟨q, 0, none⟩ ∧ V = some ⟨q, 2, none⟩ ∧ bv.length = n + 1 ∧ bu = bv.tail))
/-- A drawn network with its state and its buses. -/
def DrawnR (B g P : Nat) (w : World) (en : Ending) (w' : World) : Prop :=
  ∃ (b : Int) (xs : List (Int × Int × Int)) (D : Option Addr) (d : Nat) (os : List Bool) (E : Option Addr) (e : Nat) (bu : List (Int × Int)) (V : Option Addr) (n f : Nat), xs.length ≤ 20 ∧ os.length ≤ 20 ∧ n ≤ 20 ∧ bu.length = n ∧
    en = .returned (.tuple #[.agg #[.int .i64 b, .slice D xs.length d], .slice E os.length e, .slice V n f]) ∧ w'.ownsRow w.heap.size 60 3 (.slice D xs.length d) xs.length (enc3 xs) ∧ w'.ownsRow w.heap.size 4 1 (.slice E os.length e) os.length (encB os) ∧ BusR w.heap.size V n f bu w' ∧ RdU B w' g P ∧ w.grownBy w' (some g)
theorem QS.done {B g P Q p d e f n m : Nat} {w wr : World} {b : Int} {xs : List (Int × Int × Int)} {D E F V : Option Addr} {os : List Bool} {bu bu' : List (Int × Int)} {a : Act} (h : QS B g P w p b xs D d os E e bu F f wr) (hq : P ≤ Q) (h1 : xs.length ≤ 20) (h2 : os.length ≤ 20) (h3 : n ≤ 20) (hl : bu'.length = n) (hV : (V = F ∧ n = bu.length ∧ bu' = bu) ∨ (∃ q, F = some ⟨q, 0, none⟩ ∧ V = some ⟨q, 2, none⟩ ∧ bu.length = n + 1 ∧ bu' = bu.tail))
    (h4 : a.tmps[4]?.getD undef = .pointer (some ⟨w.heap.size, 0, none⟩)) (h5 : a.tmps[5]?.getD undef = .slice E os.length e) (h6 : a.tmps[6]?.getD undef = .slice V n m) (hd : a.defers = []) :
    bodyPost Tryd.prog Tryd.f44 (DrawnR B g Q w) .ret a ((wr.setCell ⟨w.heap.size, 0, none⟩ (.int .i64 b)).setCell ⟨w.heap.size, 1, none⟩ (.slice D xs.length d)) := by
  have hlt := h.lt
  have s1 := setc_grownK wr w.heap.size 0 (.int .i64 b)
  have s2 := setc_grownK (wr.setCell ⟨w.heap.size, 0, none⟩ (.int .i64 b)) w.heap.size 1 (.slice D xs.length d)
  have far : ∀ {ty size n : Nat} {v : Value} {cs : List Value}, wr.ownsRow (p + 1) ty size v n cs → ((wr.setCell ⟨w.heap.size, 0, none⟩ (.int .i64 b)).setCell ⟨w.heap.size, 1, none⟩ (.slice D xs.length d)).ownsRow w.heap.size ty size v n cs := fun ho => own_mono (own_apart (v' := .slice (some ⟨w.heap.size, 0, none⟩) 1 1) (own_apart (v' := .slice (some ⟨w.heap.size, 0, none⟩) 1 1) ho (by simpa [Value.ownBlock] using s1) (fun q hq he => by have := (ho.lt q hq).1; simp [Value.ownBlock] at he; omega)) (by simpa [Value.ownBlock] using s2) (fun q hq he => by have := (ho.lt q hq).1; simp [Value.ownBlock] at he; omega)) (by omega)
  have hB := (h.res.set_ 0 (.int .i64 b)).set_ 1 (.slice D xs.length d)
  have p0 : ((wr.setCell ⟨w.heap.size, 0, none⟩ (.int .i64 b)).setCell ⟨w.heap.size, 1, none⟩ (.slice D xs.length d)).cell? ⟨w.heap.size, 0, none⟩ = some (.int .i64 b) := (hB.cell 0).trans (by simp)
  have p1 : ((wr.setCell ⟨w.heap.size, 0, none⟩ (.int .i64 b)).setCell ⟨w.heap.size, 1, none⟩ (.slice D xs.length d)).cell? ⟨w.heap.size, 1, none⟩ = some (.slice D xs.length d) := (hB.cell 1).trans (by simp)
  refine bodyPost_ret (v := .tuple #[.agg #[.int .i64 b, .slice D xs.length d], .slice E os.length e, .slice V n m]) (by simp [results, Tryd.results44, go_sem, h4, h5, h6, p0, p1]) hd ?_
  exact ⟨b, xs, D, d, os, E, e, bu', V, n, m, h1, h2, h3, hl, rfl, far h.own, far h.oon, ⟨F, f, bu, far h.obu, hV⟩, ((h.rd.grown s1 (fun k hk => by injection hk; omega)).grown s2 (fun k hk => by injection hk; omega)).more hq, grown_step (grown_step h.grow s1 (fun k hk => by injection hk; omega)) s2 (fun k hk => by injection hk; omega)⟩
theorem QS.first {B g P : Nat} {w wr : World} {b : Int} (hr : RdU B wr g P) (hg : w.grownBy wr (some g)) (h0 : Blk wr w.heap.size 25 #[.int .i64 0, .slice none 0 0]) (hgw : g < w.heap.size) :
    QS B g P w wr.heap.size b [] none 0 [] (some ⟨wr.heap.size + 1, 0, none⟩) 0 [] (some ⟨wr.heap.size + 2, 0, none⟩) 0 (((wr.alloc (.cells #[.int .i64 b, .slice none 0 0] 25)).alloc (.cells #[] 4)).alloc (.cells #[] 54)) := by
  have e1 : (wr.alloc (.cells #[.int .i64 b, .slice none 0 0] 25)).heap.size = wr.heap.size + 1 := by simp
  have e2 : ((wr.alloc (.cells #[.int .i64 b, .slice none 0 0] 25)).alloc (.cells #[] 4)).heap.size = wr.heap.size + 2 := by simp
  have o1 := World.ownsRow_lit (base := wr.heap.size + 1) (e := 4) (size := 1) (wr.alloc (.cells #[.int .i64 b, .slice none 0 0] 25)) #[] 0 (by simp) (by unfold maxLen; omega) rfl
  have o2 := World.ownsRow_lit (base := wr.heap.size + 1) (e := 54) (size := 2) ((wr.alloc (.cells #[.int .i64 b, .slice none 0 0] 25)).alloc (.cells #[] 4)) #[] 0 (by simp) (by unfold maxLen; omega) rfl
  rw [e1] at o1
  rw [e2] at o2
  have al : ∀ {v : World} (o : Obj), RdU B v g P → RdU B (v.alloc o) g P := fun o h => h.grown (World.grownBy_alloc _ o none) (fun k hk => by cases hk)
  exact ⟨((Blk.new _ _ _).alloc _).alloc _, ((h0.alloc _).alloc _).alloc _, World.ownsRow_nil _ _ _ _, o1.alloc _, o2, fun k hk => by simp [Value.ownBlock] at hk, fun k hk => by simp [Value.ownBlock] at hk, fun k hk he => by simp [Value.ownBlock] at hk he; omega, al _ (al _ (al _ hr)), grown_alloc (grown_alloc (grown_alloc hg _) _) _, ⟨hgw, h0.lt⟩⟩

theorem QS.busc {B g P p d e f q i : Nat} {w wr : World} {b : Int} {xs : List (Int × Int × Int)} {D E : Option Addr} {os : List Bool} {bu : List (Int × Int)} (h : QS B g P w p b xs D d os E e bu (some ⟨q, 0, none⟩) f wr) (hi : i < bu.length) : (∃ u, wr.cell? ⟨q, i * 2, none⟩ = some u) ∧ wr.frozen? ⟨q, i * 2, none⟩ = false :=
  ⟨own_cell h.obu (i * 2) (by omega), h.obu.frozenAt _⟩

set_option maxRecDepth 8000 in
set_option maxHeartbeats 8000000 in
theorem l20Radial_any (B g P : Nat) (n : Int) (w : World) (h : RdU B w g P) (hp : P ≤ 1000) (hn : n ≤ 1000000) :
    Calls Tryd.prog 44 #[.pointer (some ⟨g, 0, none⟩), .int .i64 n] w (DrawnR B g (P + 100) w) := by
  have hgw := h.lt
  have G0 := hide (grown_alloc (World.grownBy.refl w (some g)) (.cells #[.int .i64 0, .slice none 0 0] 25))
  have R0 := hide (h.grown (World.grownBy_alloc w (.cells #[.int .i64 0, .slice none 0 0] 25) none) (fun k hk => by cases hk))
  have Z0 := hide (Blk.new w 25 #[.int .i64 0, .slice none 0 0])
  clear h
  go_enter Tryd.func44, Tryd.ntmps44
  go_wp2_with fail
  refine (pick_u B g P 6 _ R0.out (by omega)).mono ?_
  rintro en w1 ⟨v, v1, v2, _, rfl, h1, o1⟩
  have v3 := v2 (by omega)
  have ST1 := hide (QS.first (b := 2 + v) h1 (G0.out.trans o1.1) (Z0.out.grown o1.1 (fun he => by injection he; omega)) hgw)
  have hpw := (Z0.out.grown o1.1 (fun he => by injection he; omega)).lt
  clear v2 h1 o1 G0 R0 Z0
  obtain ⟨nb, hb⟩ := Int.eq_ofNat_of_zero_le (show 0 ≤ 2 + v by omega)
  rw [hb] at ST1
  go_wp2_with fail
  generalize w1.heap.size = p at *
  refine (pick_u B g _ 2 _ ST1.out.rd (by omega)).mono ?_
  rintro en w2 ⟨u, u1, u2, _, rfl, h2, o2⟩
  have ST2 := hide (ST1.out.only o2 h2)
  clear u2 h2 o2 ST1
  go_wp2_with fail
  have hb2 : 2 ≤ nb := by omega
  have hb7 : nb ≤ 7 := by omega
  clear hb v1 v3
  generalize (u == 0) = wh
  clear u1
  go_loopw [8, 9, 11] (fun o q x wr => ∃ (k : Nat) (xs : List (Int × Int × Int)) (D : Option Addr) (d : Nat) (os : List Bool) (E : Option Addr) (e : Nat) (bu : List (Int × Int)) (F : Option Addr) (f : Nat), k ≤ nb ∧ o = .slice E os.length e ∧ q = .slice F bu.length f ∧ x = .int .i64 k ∧ Hid (bu.length = k) ∧ Hid (xs.length = os.length) ∧ Hid (os.length = k - 1) ∧ Hid (QS B g (P + 2 + 4 * k) w p nb xs D d os E e bu F f wr)) (fun _ _ x _ => nb - (intOf x).toNat)
  case atStart => exact ⟨0, [], _, _, [], _, _, [], _, _, Nat.zero_le _, rfl, rfl, rfl, hide rfl, hide rfl, hide rfl, ST2⟩
  case round =>
    clear ST2
    obtain ⟨k, xs, D, d, os, E, e, bu, F, f, hk, rfl, rfl, rfl, HBU, HXO, HOS, ST⟩ := hrel
    have lb : bu.length ≤ 8 := by have := HBU.out; omega
    have lo : os.length ≤ 8 := by have := HOS.out; omega
    have lx : xs.length ≤ 8 := by have := HXO.out; omega
    have c0 := ST.out.cell0
    have c1 := ST.out.cell1
    by_cases hkn : k < nb
    · by_cases hk0 : 0 < k
      · have hsp := ST.out.size
        go_wp2_with fail
        go_region_law (first | (refine step_appL rfl (.tmp 34) (.tmp 43) rfl (p + 1) D xs.length d xs _ _ _ (by simp [Act.eval]) (ST7.out.alloc _).own _ (Blk.new _ _ _) (by simp [Act.eval]) ?_ ?_ ?_; exact (ST7.out.alloc _).size; omega; intro gq cap w8 ho8 hg8 hl8; obtain ⟨v8, f8⟩ := (ST7.out.alloc _).app_cell hg8; have ST9 := hide (QS.appL (ST7.out.alloc _) (by simp) hg8 ho8 hl8)) | (go_simp; go_at_call 46; refine (pick_u B g (P + 2 + 4 * k) _ _ ?_ ?_).mono ?_; exact ST.out.drew.rd; omega; rintro _ w6 ⟨r, r1, r2, _, rfl, h6, o6⟩; have ST6 := hide (ST.out.drew.only o6 h6); have u0 := ST6.out.cell1) | (go_simp; go_at_call 46; refine (pick_u B g (P + 2 + 4 * k + 1) _ _ ?_ ?_).mono ?_; exact ST6.out.rd; omega; rintro _ w7 ⟨s, s1, s2, _, rfl, h7, o7⟩; have s3 := s2 (by omega); have ST7 := hide (ST6.out.only o7 h7); have v0 := ST7.out.cell1; have hs7 := ST7.out.size))
        all_goals
          generalize w8.setCell ⟨p, 1, none⟩ (.slice (some ⟨gq, 0, none⟩) (xs.length + 1) cap) = w9 at *
          clear ho8 hg8 hl8 v8 f8 ST7 ST6 r2 s2
          cases wh
          · go_wp2_with fail
            refine (pick_u B g (P + 2 + 4 * k + 1 + 1) 6 _ ST9.out.rd (by omega)).mono ?_
            rintro en' w10 ⟨y, y1, y2, _, rfl, h10, o10⟩
            have ST10 := hide (ST9.out.only o10 h10)
            clear y2 h10 o10
            go_wp2_with (first | (at_builtin; refine app_gen w10 rfl (.tmp 46) (.tmp 53) 26 4 (.bool false) 1 1 Tryd.underlying26 infoB rfl (by decide) (by decide) rfl (p + 1) E os.length e (encB os) #[.bool (decide (0 < y))] rfl ST10.out.oon w10.heap.size rfl rfl rfl (by simp [Value.oneCell']) ST10.out.size (by omega) ?_; intro D2 d2 w11 ho11 hg11 hl11; have ST11 := hide (ST10.out.appB (ys := os ++ [(decide (0 < y))]) (by simp) hg11 (by simpa [encB] using ho11) hl11); clear ho11 hg11 hl11) | (at_builtin; refine app_gen w12 rfl (.tmp 55) (.tmp 59) 27 54 (.agg #[.int .i64 0, .int .i64 0]) 2 16 Tryd.underlying27 infoBusK rfl (by decide) (by decide) rfl (p + 1) F bu.length f (enc2 bu) #[.int .i64 0, .int .i64 q] rfl ST12.out.obu w12.heap.size rfl rfl rfl (by simp [Value.oneCell']) ST12.out.size (by omega) ?_; intro D3 d3 w13 ho13 hg13 hl13; have ST13 := hide (ST12.out.appU (ys := bu ++ [(0, q)]) (by simp) hg13 (by simpa [enc2] using ho13) hl13); clear ho13 hg13 hl13) | (go_at_call 46; refine (pick_u B g (P + 2 + 4 * k + 1 + 1 + 1) 20 _ ?_ (by omega)).mono ?_; exact ST11.out.rd; rintro en' w12 ⟨q, q1, q2, _, rfl, h12, o12⟩; have ST12 := hide (ST11.out.only o12 h12); clear q2 h12 o12))
            go_roundw
            case rel => exact ⟨k + 1, xs ++ [_], _, _, os ++ [(decide (0 < y))], D2, d2, bu ++ [(0, q)], D3, d3, by omega, by simp, by simp, by go_num, hide (by have := HBU.out; simp; omega), hide (by have := HXO.out; simp; omega), hide (by have := HOS.out; simp; omega), hide (ST13.out.more (by omega))⟩
            case measure => simp [intOf]; omega
          · skip
            go_wp2_with (first | (at_builtin; refine app_gen w9 rfl (.tmp 46) (.tmp 53) 26 4 (.bool false) 1 1 Tryd.underlying26 infoB rfl (by decide) (by decide) rfl (p + 1) E os.length e (encB os) #[.bool true] rfl ST9.out.oon w9.heap.size rfl rfl rfl (by simp [Value.oneCell']) ST9.out.size (by omega) ?_; intro D2 d2 w11 ho11 hg11 hl11; have ST11 := hide (ST9.out.appB (ys := os ++ [true]) (by simp) hg11 (by simpa [encB] using ho11) hl11); clear ho11 hg11 hl11) | (at_builtin; refine app_gen w12 rfl (.tmp 55) (.tmp 59) 27 54 (.agg #[.int .i64 0, .int .i64 0]) 2 16 Tryd.underlying27 infoBusK rfl (by decide) (by decide) rfl (p + 1) F bu.length f (enc2 bu) #[.int .i64 0, .int .i64 q] rfl ST12.out.obu w12.heap.size rfl rfl rfl (by simp [Value.oneCell']) ST12.out.size (by omega) ?_; intro D3 d3 w13 ho13 hg13 hl13; have ST13 := hide (ST12.out.appU (ys := bu ++ [(0, q)]) (by simp) hg13 (by simpa [enc2] using ho13) hl13); clear ho13 hg13 hl13) | (go_at_call 46; refine (pick_u B g (P + 2 + 4 * k + 1 + 1) 20 _ ?_ (by omega)).mono ?_; exact ST11.out.rd; rintro en' w12 ⟨q, q1, q2, _, rfl, h12, o12⟩; have ST12 := hide (ST11.out.only o12 h12); clear q2 h12 o12))
            go_roundw
            case rel => exact ⟨k + 1, xs ++ [_], _, _, os ++ [true], D2, d2, bu ++ [(0, q)], D3, d3, by omega, by simp, by simp, by go_num, hide (by have := HBU.out; simp; omega), hide (by have := HXO.out; simp; omega), hide (by have := HOS.out; simp; omega), hide (ST13.out.more (by omega))⟩
            case measure => simp [intOf]; omega
      · go_wp2_with (first | (at_builtin; refine app_gen w6 rfl (.tmp 55) (.tmp 59) 27 54 (.agg #[.int .i64 0, .int .i64 0]) 2 16 Tryd.underlying27 infoBusK rfl (by decide) (by decide) rfl (p + 1) F bu.length f (enc2 bu) #[.int .i64 0, .int .i64 r] rfl ST6.out.obu w6.heap.size rfl rfl rfl (by simp [Value.oneCell']) ST6.out.size (by omega) ?_; intro D2 d2 w7 ho7 hg7 hl7; have ST7 := hide (ST6.out.appU (ys := bu ++ [(0, r)]) (by simp) hg7 (by simpa [enc2] using ho7) hl7); clear ho7 hg7 hl7) | (go_at_call 46; refine (pick_u B g (P + 2 + 4 * k) 20 _ ?_ (by omega)).mono ?_; exact ST.out.rd; rintro en' w6 ⟨r, r1, r2, _, rfl, h6, o6⟩; have ST6 := hide (ST.out.only o6 h6); clear r2 h6 o6))
        go_roundw
        case rel => exact ⟨k + 1, xs, D, d, os, E, e, bu ++ [(0, r)], D2, d2, by omega, rfl, by simp, by go_num, hide (by have := HBU.out; simp; omega), HXO, hide (by have := HOS.out; omega), hide (ST7.out.more (by omega))⟩
        case measure => simp [intOf]; omega
    · obtain rfl : k = nb := by omega
      go_wp2_with fail
      refine (pick_u B g (P + 2 + 4 * k) 4 _ ST.out.rd (by omega)).mono ?_
      rintro en' w4 ⟨m0', u1, u2, _, rfl, h2, o2⟩
      have u3 := u2 (by omega)
      have ST4 := hide ((ST.out.only o2 h2).more (Q := P + 40) (by omega))
      obtain ⟨m0, rfl⟩ := Int.eq_ofNat_of_zero_le u1
      clear u2 h2 o2 ST c0 c1
      go_wp2_with fail
      go_loopw [8, 12] (fun o z wr => ∃ (m : Nat) (xs : List (Int × Int × Int)) (D : Option Addr) (d : Nat) (os : List Bool) (E : Option Addr) (e : Nat), m ≤ 3 ∧ o = .slice E os.length e ∧ z = .int .i64 m ∧ Hid (xs.length = os.length) ∧ Hid (os.length + m ≤ 10) ∧ Hid (k ≤ os.length + 1) ∧ Hid (QS B g (P + 40 + 3 * (3 - m)) w p k xs D d os E e bu F f wr)) (fun _ z _ => (intOf z).toNat)
      case atStart => exact ⟨m0, xs, D, d, os, E, e, by omega, rfl, rfl, HXO, hide (by have := HOS.out; omega), hide (by have := HOS.out; omega), hide (ST4.out.more (by omega))⟩
      case round =>
        clear ST4 HXO HOS lo lx u1 u3
        obtain ⟨m, xs, D, d, os, E, e, hm3, rfl, rfl, HXO, HOM, HOK, ST⟩ := hrel
        have lo : os.length ≤ 10 := by have := HOM.out; omega
        have lx : xs.length ≤ 10 := by have := HXO.out; omega
        have c0 := ST.out.cell0
        have c1 := ST.out.cell1
        have hsp := ST.out.size
        have hbz : ((k : Int) == 0) = false := by simp; omega
        have hb1 : ¬ (k : Int) = 0 := by omega
        have hb3 : ¬ k = 0 := by omega
        have hbz2 : (k == 0) = false := by simp; omega
        have hk0 : k ≠ 0 := hb3
        by_cases hm : 0 < m
        · go_wp2_with fail
          refine (pick_u B g (P + 40 + 3 * (3 - m)) k _ ST.out.rd (by omega)).mono ?_
          rintro en' w5 ⟨x, x1, x2, _, rfl, h5, o5⟩
          have x3 := x2 (by omega)
          have ST5 := hide (ST.out.only o5 h5)
          clear x2 h5 o5 ST c0 c1 hsp
          have c0 := ST5.out.cell0
          have c1 := ST5.out.cell1
          have hsp := ST5.out.size
          go_wp2_with fail
          go_region_law (first | (refine step_appL rfl (.tmp 72) (.tmp 89) rfl (p + 1) D xs.length d xs _ _ _ (by simp [Act.eval]) (ST7.out.alloc _).own _ (Blk.new _ _ _) (by simp [Act.eval]) ?_ ?_ ?_; exact (ST7.out.alloc _).size; omega; intro gq cap w8 ho8 hg8 hl8; obtain ⟨v8, f8⟩ := (ST7.out.alloc _).app_cell hg8; have ST9 := hide (QS.appL (ST7.out.alloc _) (by simp) hg8 ho8 hl8)) | (go_simp; go_at_call 46; refine (pick_u B g (P + 40 + 3 * (3 - m) + 1) _ _ ?_ ?_).mono ?_; exact ST5.out.drew.rd; omega; rintro _ w6 ⟨r, r1, r2, _, rfl, h6, o6⟩; have ST6 := hide (ST5.out.drew.only o6 h6); have u0 := ST6.out.cell1; have u00 := ST6.out.cell0) | (go_simp; go_at_call 46; refine (pick_u B g (P + 40 + 3 * (3 - m) + 1 + 1) _ _ ?_ ?_).mono ?_; exact ST6.out.rd; omega; rintro _ w7 ⟨s, s1, s2, _, rfl, h7, o7⟩; have s3 := s2 (by omega); have ST7 := hide (ST6.out.only o7 h7); have v0 := ST7.out.cell1; have v00 := ST7.out.cell0; have hs7 := ST7.out.size))
          all_goals
            generalize w8.setCell ⟨p, 1, none⟩ (.slice (some ⟨gq, 0, none⟩) (xs.length + 1) cap) = w9 at *
            clear ho8 hg8 hl8 v8 f8 ST7 ST6 ST5 r2 s2
            go_wp2_with (at_builtin; refine app_gen w9 rfl (.tmp 92) (.tmp 93) 26 4 (.bool false) 1 1 Tryd.underlying26 infoB rfl (by decide) (by decide) rfl (p + 1) E os.length e (encB os) #[.bool false] rfl ST9.out.oon w9.heap.size rfl rfl rfl (by simp [Value.oneCell']) ST9.out.size (by omega) ?_; intro D2 d2 w11 ho11 hg11 hl11; have ST11 := hide (ST9.out.appB (ys := os ++ [false]) (by simp) hg11 (by simpa [encB] using ho11) hl11); clear ho11 hg11 hl11)
            go_roundw
            case rel => exact ⟨m - 1, xs ++ [_], _, _, os ++ [false], D2, d2, by omega, by simp, by go_num, hide (by have := HXO.out; simp; omega), hide (by have := HOM.out; simp; omega), hide (by have := HOK.out; simp; omega), hide (ST11.out.more (by omega))⟩
            case measure => simp [intOf]; omega
        · obtain rfl : m = 0 := by omega
          have ST0 := hide (ST.out.more (Q := P + 50) (by omega))
          clear ST
          obtain ⟨qF, cF, hF, _, _⟩ := ST0.out.obu.form (by have := HBU.out; omega)
          cases hF
          go_wp2_with fail
          refine (pick_u B g (P + 50) 100 _ ST0.out.rd (by omega)).mono ?_
          rintro en' w5 ⟨y, y1, y2, _, rfl, h5, o5⟩
          have y3 := y2 (by omega)
          have ST5 := hide (ST0.out.only o5 h5)
          clear y2 h5 o5 ST0 c0 c1 hsp
          obtain ⟨⟨x1, x1c⟩, x1f⟩ := ST5.out.busc (i := 0) (by have := HBU.out; omega)
          obtain ⟨bv, hbv, hST6⟩ := ST5.out.setU (k := 0) (v := 60 + y)
          have HBV := hide (hbv.trans HBU.out)
          have ST6 := hide hST6
          have lbv : bv.length ≤ 8 := by omega
          have lbf : 0 < bu.length := by have := HBU.out; omega
          simp only [Nat.zero_mul] at x1c x1f ST6
          clear hbv hST6
          go_wp2_with fail
          generalize w5.setCell ⟨qF, 0, none⟩ (.int .i64 (60 + y)) = w6 at *
          clear x1c x1f ST5
          refine (pick_u B g (P + 50 + 1) 2 _ ST6.out.rd (by omega)).mono ?_
          rintro en' w7 ⟨z, z1, z2, _, rfl, h7, o7⟩
          have ST7 := hide (ST6.out.only o7 h7)
          clear z2 h7 o7 ST6
          have hbl : bu.length = bv.length := by have := HBU.out; have := HBV.out; omega
          rw [hbl]
          clear hbl
          by_cases hz0 : z = 0
          · have hzb : (z == 0) = true := by simp [hz0]
            have c0 := ST7.out.cell0
            go_wp2_with fail
            refine (pick_u B g (P + 50 + 1 + 1) ((k : Int) - 1) _ ST7.out.rd (by omega)).mono ?_
            rintro en' w8 ⟨t, t1, t2, _, rfl, h8, o8⟩
            have t3 := t2 (by omega)
            obtain ⟨tn, rfl⟩ := Int.eq_ofNat_of_zero_le t1
            have ST8 := hide (ST7.out.only o8 h8)
            clear t2 h8 o8 ST7 c0
            go_wp2_with fail
            refine (pick_u B g (P + 50 + 1 + 1 + 1) 60 _ ST8.out.rd (by omega)).mono ?_
            rintro en' w9 ⟨y', z1', z2', _, rfl, h9, o9⟩
            have z3' := z2' (by omega)
            have ST9 := hide (ST8.out.only o9 h9)
            clear z2' h9 o9 ST8
            obtain ⟨qE, cE, hE, _, _⟩ := ST9.out.oon.form (by have := HOK.out; omega)
            cases hE
            have lk := HBV.out
            have lo2 := HOK.out
            obtain ⟨⟨x1, x1c⟩, x1f⟩ := ST9.out.busc (i := 1 + tn) (by omega)
            obtain ⟨bv2, hbv2, hST2⟩ := ST9.out.setU (k := 1 + tn) (v := 30 + y')
            obtain ⟨x2, x2c⟩ := own_cell hST2.oon tn (by omega)
            have x2f := hST2.oon.frozenAt tn
            have STw := hide (hST2.setB (k := tn) (v := false))
            have HL2 := hide hbv2
            have i1 : (tn : Int) + 1 < bv.length := by omega
            have i2 : (1 : Int) + tn < bv.length := by omega
            have i3 : (tn : Int) < os.length := by omega
            have i4 : (0 : Int) ≤ tn := by omega
            clear hbv2 hST2 lk lo2
            go_wp2_with fail
            generalize (w9.setCell ⟨qF, (1 + tn) * 2, none⟩ (.int .i64 (30 + y'))).setCell ⟨qE, tn, none⟩ (.bool false) = w10 at *
            clear x1c x1f x2c x2f ST9
            have HBV2 : Hid (bv2.length = k) := hide (HL2.out.trans HBV.out)
            have hll := HL2.out
            rw [← hll]
            have hlo : (os.set tn false).length = os.length := List.length_set
            rw [← hlo]
            have HOK2 : Hid (k ≤ (os.set tn false).length + 1) := hide (by rw [hlo]; exact HOK.out)
            have lo3 : (os.set tn false).length ≤ 10 := by rw [hlo]; exact lo
            have lbv3 : bv2.length ≤ 8 := by omega
            have STt := hide (STw.out.more (Q := P + 60) (by omega))
            clear STw hll hlo i1 i2 i3 i4 HL2 HBV HOK lo lbv lbf
            generalize os.set tn false = os2 at *
            refine (odd_u B g (P + 60) n _ STt.out.rd (by omega) hn).mono ?_
            rintro en' wo ⟨bo, rfl, ho, oo⟩
            have STo := hide (STt.out.only oo ho)
            clear ho oo STt
            cases bo
            · have c0 := STo.out.cell0
              have c1 := STo.out.cell1
              have r0 := STo.out.res.two
              have r1 := STo.out.res.frozen 0
              have r2 := STo.out.res.frozen 1
              go_wp2_with fail
              exact STo.out.done (Q := P + 100) (by omega) (by omega) (by omega) (by omega) rfl (.inl ⟨rfl, rfl, rfl⟩) rfl rfl rfl rfl
            · go_wp2_with fail
              refine (pick_u B g (P + 60 + 1) 4 _ STo.out.rd (by omega)).mono ?_
              rintro en' wp ⟨cse, cs1, cs2, _, rfl, hp', op⟩
              have cs3 := cs2 (by omega)
              have STp := hide (STo.out.only op hp')
              clear cs2 hp' op STo
              rcases (by omega : cse = 0 ∨ cse = 1 ∨ cse = 2 ∨ cse = 3) with rfl | rfl | rfl | rfl
              · obtain ⟨k1, hk1⟩ := Int.eq_ofNat_of_zero_le (show 0 ≤ (k : Int) - 1 by omega)
                obtain ⟨k2, hk2⟩ := Int.eq_ofNat_of_zero_le (show 0 ≤ (k : Int) - 2 by omega)
                have lk := HBV2.out
                obtain ⟨⟨x1, x1c⟩, x1f⟩ := STp.out.busc (i := k1) (by omega)
                obtain ⟨cv2, hcv2, hST2⟩ := STp.out.setU (k := k1) (v := 5)
                obtain ⟨⟨x2, x2c⟩, x2f⟩ := hST2.busc (i := k2) (by omega)
                obtain ⟨cv3, hcv3, hST3⟩ := hST2.setU (k := k2) (v := 5)
                have STz := hide hST3
                have HL := hide (hcv3.trans hcv2)
                have c0 := STp.out.cell0
                have c00 := hST2.cell0
                have c1 := STz.out.cell1
                have d0 := STz.out.cell0
                have r0 := STz.out.res.two
                have r1 := STz.out.res.frozen 0
                have r2 := STz.out.res.frozen 1
                have i1 : (k1 : Int) < bv2.length := by omega
                have i2 : (k2 : Int) < bv2.length := by omega
                clear lk hcv2 hcv3 hST2 hST3
                go_wp2_with fail
                exact STz.out.done (Q := P + 100) (n := bv2.length) (by omega) (by omega) (by omega) (by omega) HL.out (.inl ⟨rfl, HL.out.symm, rfl⟩) rfl rfl rfl rfl
              · obtain ⟨qE, cE, hE, _, _⟩ := STp.out.oon.form (by have := HOK2.out; omega)
                cases hE
                go_wp2_with fail
                go_loopw [15] (fun z wr => ∃ (i : Nat) (oz : List Bool), i ≤ os2.length ∧ z = .int .i64 i ∧ Hid (oz.length = os2.length) ∧ Hid (QS B g (P + 62) w p k xs D d oz (some ⟨qE, 0, none⟩) e bv2 (some ⟨qF, 0, none⟩) f wr)) (fun z _ => os2.length - (intOf z).toNat)
                case atStart => exact ⟨0, os2, Nat.zero_le _, rfl, hide rfl, hide (STp.out.more (by omega))⟩
                case round =>
                  clear STp
                  obtain ⟨i, oz, hi, rfl, HOL, STq⟩ := hrel
                  by_cases hlt : i < os2.length
                  · obtain ⟨x1, x1c⟩ := own_cell STq.out.oon i (by have := HOL.out; omega)
                    have x1f := STq.out.oon.frozenAt i
                    have i0 : (0 : Int) ≤ i := by omega
                    have i1 : (i : Int) < os2.length := by omega
                    have STz := hide (STq.out.setB (k := i) (v := true))
                    clear STq
                    go_wp2_with fail
                    go_roundw
                    case rel => exact ⟨i + 1, oz.set i true, by omega, by go_num, hide (by rw [List.length_set]; exact HOL.out), STz⟩
                    case measure => simp [intOf]; omega
                  · have c0 := STq.out.cell0
                    have c1 := STq.out.cell1
                    have r0 := STq.out.res.two
                    have r1 := STq.out.res.frozen 0
                    have r2 := STq.out.res.frozen 1
                    go_wp2_with fail
                    exact STq.out.done (Q := P + 100) (by omega) (by omega) (by have := HOL.out; omega) (by omega) rfl (.inl ⟨rfl, rfl, rfl⟩) rfl (by rw [HOL.out]; rfl) rfl rfl
              · go_wp2_with (at_builtin; refine app_gen wp rfl (.tmp 155) (.tmp 156) 26 4 (.bool false) 1 1 Tryd.underlying26 infoB rfl (by decide) (by decide) rfl (p + 1) _ os2.length e (encB os2) #[.bool false] rfl STp.out.oon wp.heap.size rfl rfl rfl (by simp [Value.oneCell']) STp.out.size (by omega) ?_; intro D2 d2 w11 ho11 hg11 hl11; have STz := hide (STp.out.appB (ys := os2 ++ [false]) (by simp) hg11 (by simpa [encB] using ho11) hl11); have c0 := STz.out.cell0; have c1 := STz.out.cell1; have r0 := STz.out.res.two; have r1 := STz.out.res.frozen 0; have r2 := STz.out.res.frozen 1; clear ho11 hg11 hl11)
                exact STz.out.done (Q := P + 100) (by omega) (by omega) (by simp; omega) (by omega) rfl (.inl ⟨rfl, rfl, rfl⟩) rfl (by simp) rfl rfl
              · have c0 := STp.out.cell0
                have c1 := STp.out.cell1
                have r0 := STp.out.res.two
                have r1 := STp.out.res.frozen 0
                have r2 := STp.out.res.frozen 1
                obtain ⟨qF', cF', hF', lf1, lf2⟩ := STp.out.obu.form (by have := HBV2.out; omega)
                cases hF'
                obtain ⟨n1, hn1⟩ : ∃ n1, bv2.length = n1 + 1 := ⟨bv2.length - 1, by have := HBV2.out; omega⟩
                have HN1 := hide hn1
                have lcap : bv2.length ≤ f := by
                  obtain ⟨_, _, hes, lc, _⟩ := own_slice STp.out.obu
                  cases hes
                  exact lc
                have hf1 : 1 < f := by have := HBV2.out; omega
                have hf2 : ¬ f - 1 = 0 := by omega
                have hf3 : 0 < f - 1 := by omega
                go_wp2_with fail
                all_goals exact STp.out.done (Q := P + 100) (n := n1) (bu' := bv2.tail) (by omega) (by omega) (by omega) (by have := HN1.out; have := HBV2.out; omega) (by rw [List.length_tail, HN1.out]; rfl) (.inr ⟨qF, rfl, rfl, HN1.out, rfl⟩) rfl rfl rfl rfl
          · have hzb : (z == 0) = false := by simp [hz0]
            have STt := hide (ST7.out.more (Q := P + 60) (by omega))
            clear ST7
            go_wp2_with fail
            refine (odd_u B g (P + 60) n _ STt.out.rd (by omega) hn).mono ?_
            rintro en' wo ⟨bo, rfl, ho, oo⟩
            have STo := hide (STt.out.only oo ho)
            clear ho oo STt
            cases bo
            · have c0 := STo.out.cell0
              have c1 := STo.out.cell1
              have r0 := STo.out.res.two
              have r1 := STo.out.res.frozen 0
              have r2 := STo.out.res.frozen 1
              go_wp2_with fail
              exact STo.out.done (Q := P + 100) (by omega) (by omega) (by omega) (by omega) rfl (.inl ⟨rfl, rfl, rfl⟩) rfl rfl rfl rfl
            · go_wp2_with fail
              refine (pick_u B g (P + 60 + 1) 4 _ STo.out.rd (by omega)).mono ?_
              rintro en' wp ⟨cse, cs1, cs2, _, rfl, hp', op⟩
              have cs3 := cs2 (by omega)
              have STp := hide (STo.out.only op hp')
              clear cs2 hp' op STo
              rcases (by omega : cse = 0 ∨ cse = 1 ∨ cse = 2 ∨ cse = 3) with rfl | rfl | rfl | rfl
              · obtain ⟨k1, hk1⟩ := Int.eq_ofNat_of_zero_le (show 0 ≤ (k : Int) - 1 by omega)
                obtain ⟨k2, hk2⟩ := Int.eq_ofNat_of_zero_le (show 0 ≤ (k : Int) - 2 by omega)
                have lk := HBV.out
                obtain ⟨⟨x1, x1c⟩, x1f⟩ := STp.out.busc (i := k1) (by omega)
                obtain ⟨cv2, hcv2, hST2⟩ := STp.out.setU (k := k1) (v := 5)
                obtain ⟨⟨x2, x2c⟩, x2f⟩ := hST2.busc (i := k2) (by omega)
                obtain ⟨cv3, hcv3, hST3⟩ := hST2.setU (k := k2) (v := 5)
                have STz := hide hST3
                have HL := hide (hcv3.trans hcv2)
                have c0 := STp.out.cell0
                have c00 := hST2.cell0
                have c1 := STz.out.cell1
                have d0 := STz.out.cell0
                have r0 := STz.out.res.two
                have r1 := STz.out.res.frozen 0
                have r2 := STz.out.res.frozen 1
                have i1 : (k1 : Int) < bv.length := by omega
                have i2 : (k2 : Int) < bv.length := by omega
                clear lk hcv2 hcv3 hST2 hST3
                go_wp2_with fail
                exact STz.out.done (Q := P + 100) (n := bv.length) (by omega) (by omega) (by omega) (by omega) HL.out (.inl ⟨rfl, HL.out.symm, rfl⟩) rfl rfl rfl rfl
              · obtain ⟨qE, cE, hE, _, _⟩ := STp.out.oon.form (by have := HOK.out; omega)
                cases hE
                go_wp2_with fail
                go_loopw [15] (fun z wr => ∃ (i : Nat) (oz : List Bool), i ≤ os.length ∧ z = .int .i64 i ∧ Hid (oz.length = os.length) ∧ Hid (QS B g (P + 62) w p k xs D d oz (some ⟨qE, 0, none⟩) e bv (some ⟨qF, 0, none⟩) f wr)) (fun z _ => os.length - (intOf z).toNat)
                case atStart => exact ⟨0, os, Nat.zero_le _, rfl, hide rfl, hide (STp.out.more (by omega))⟩
                case round =>
                  clear STp
                  obtain ⟨i, oz, hi, rfl, HOL, STq⟩ := hrel
                  by_cases hlt : i < os.length
                  · obtain ⟨x1, x1c⟩ := own_cell STq.out.oon i (by have := HOL.out; omega)
                    have x1f := STq.out.oon.frozenAt i
                    have i0 : (0 : Int) ≤ i := by omega
                    have i1 : (i : Int) < os.length := by omega
                    have STz := hide (STq.out.setB (k := i) (v := true))
                    clear STq
                    go_wp2_with fail
                    go_roundw
                    case rel => exact ⟨i + 1, oz.set i true, by omega, by go_num, hide (by rw [List.length_set]; exact HOL.out), STz⟩
                    case measure => simp [intOf]; omega
                  · have c0 := STq.out.cell0
                    have c1 := STq.out.cell1
                    have r0 := STq.out.res.two
                    have r1 := STq.out.res.frozen 0
                    have r2 := STq.out.res.frozen 1
                    go_wp2_with fail
                    exact STq.out.done (Q := P + 100) (by omega) (by omega) (by have := HOL.out; omega) (by omega) rfl (.inl ⟨rfl, rfl, rfl⟩) rfl (by rw [HOL.out]; rfl) rfl rfl
              · go_wp2_with (at_builtin; refine app_gen wp rfl (.tmp 155) (.tmp 156) 26 4 (.bool false) 1 1 Tryd.underlying26 infoB rfl (by decide) (by decide) rfl (p + 1) _ os.length e (encB os) #[.bool false] rfl STp.out.oon wp.heap.size rfl rfl rfl (by simp [Value.oneCell']) STp.out.size (by omega) ?_; intro D2 d2 w11 ho11 hg11 hl11; have STz := hide (STp.out.appB (ys := os ++ [false]) (by simp) hg11 (by simpa [encB] using ho11) hl11); have c0 := STz.out.cell0; have c1 := STz.out.cell1; have r0 := STz.out.res.two; have r1 := STz.out.res.frozen 0; have r2 := STz.out.res.frozen 1; clear ho11 hg11 hl11)
                exact STz.out.done (Q := P + 100) (by omega) (by omega) (by simp; omega) (by omega) rfl (.inl ⟨rfl, rfl, rfl⟩) rfl (by simp) rfl rfl
              · have c0 := STp.out.cell0
                have c1 := STp.out.cell1
                have r0 := STp.out.res.two
                have r1 := STp.out.res.frozen 0
                have r2 := STp.out.res.frozen 1
                obtain ⟨qF', cF', hF', lf1, lf2⟩ := STp.out.obu.form (by have := HBV.out; omega)
                cases hF'
                obtain ⟨n1, hn1⟩ : ∃ n1, bv.length = n1 + 1 := ⟨bv.length - 1, by have := HBV.out; omega⟩
                have HN1 := hide hn1
                have lcap : bv.length ≤ f := by
                  obtain ⟨_, _, hes, lc, _⟩ := own_slice STp.out.obu
                  cases hes
                  exact lc
                have hf1 : 1 < f := by have := HBV.out; omega
                have hf2 : ¬ f - 1 = 0 := by omega
                have hf3 : 0 < f - 1 := by omega
                go_wp2_with fail
                all_goals exact STp.out.done (Q := P + 100) (n := n1) (bu' := bv.tail) (by omega) (by omega) (by omega) (by have := HN1.out; have := HBV.out; omega) (by rw [List.length_tail, HN1.out]; rfl) (.inr ⟨qF, rfl, rfl, HN1.out, rfl⟩) rfl rfl rfl rfl

end Go.Proofs.YtbebhbcjdiahcaaDoor
