/-
  The reference's drawing for the law FnFlowValue. Of what is drawn only lengths are said.
-/
import Derived.Test.YtijnahflfbjgiaaDoorNetEnds
import Derived.Test.YtijnahflfbjgiaaDoorMostS
namespace Go.Proofs.YtijnahflfbjgiaaDoor
open Go.RowKit
set_option linter.unusedVariables false

/-- A drawn network with a state, two buses and flows, in memory of the call's own. -/
def GotF (w : World) (en : Ending) (w' : World) : Prop :=
  ∃ (b : Int) (ls : List (Int × Int × Int)) (D : Option Addr) (d : Nat) (os : List Bool) (E : Option Addr) (f : Nat) (from_ to : Int) (fl : List Int) (F : Option Addr) (fc : Nat), (-1 ≤ b ∧ b ≤ 9) ∧ ls.length ≤ 11 ∧ os.length ≤ 12 ∧ fl.length ≤ 10 ∧ en = .returned (.tuple #[.agg #[.int .i64 b, .slice D ls.length d], .slice E os.length f, .int .i64 from_, .int .i64 to, .slice F fl.length fc]) ∧
    w'.ownsRow w.heap.size 76 3 (.slice D ls.length d) ls.length (enc3 ls) ∧ w'.ownsRow w.heap.size 4 1 (.slice E os.length f) os.length (encB os) ∧ w'.ownsRow w.heap.size 3 1 (.slice F fl.length fc) fl.length (encI fl) ∧ Below w.heap.size w w'

/-- Flows that are being changed, beside a network in block p; the reader lies in the block behind the result's. -/
structure FS (P : Nat) (w : World) (p : Nat) (b : Int) (ls : List (Int × Int × Int)) (D : Option Addr) (d : Nat) (os : List Bool) (E : Option Addr) (f n : Nat) (F : Option Addr) (fc : Nat) (fl : List Int) (wr : World) : Prop where
  blk : Blk wr p 50 #[.int .i64 b, .slice D ls.length d]
  res : Blk wr w.heap.size 50 #[.int .i64 0, .slice none 0 0]
  ol : wr.ownsRow (w.heap.size + 2) 76 3 (.slice D ls.length d) ls.length (enc3 ls)
  ob : wr.ownsRow (w.heap.size + 2) 4 1 (.slice E os.length f) os.length (encB os)
  fo : wr.ownsRow (p + 1) 3 1 (.slice F n fc) n (encI fl)
  len : fl.length = n
  rd : RdU (w.heap.size + 1) wr (w.heap.size + 1) P
  below : Below w.heap.size w wr
  lt : w.heap.size + 1 < p
  lo1 : ∀ k, (Value.slice D ls.length d).ownBlock = some k → k < p
  lo2 : ∀ k, (Value.slice E os.length f).ownBlock = some k → k < p
section
variable {P p d f n fc : Nat} {w wr w' : World} {b : Int} {ls : List (Int × Int × Int)} {D E F : Option Addr} {os : List Bool} {fl : List Int}
theorem FS.drew (h : FS P w p b ls D d os E f n F fc fl wr) : FS P w p b ls D d os E f n F fc fl wr.drew := ⟨h.blk, h.res, h.ol, h.ob, h.fo, h.len, h.rd.drew, h.below.drew, h.lt, h.lo1, h.lo2⟩
theorem FS.only {Q : Nat} (h : FS P w p b ls D d os E f n F fc fl wr) (k : Only (w.heap.size + 1) wr w') (hr : RdU (w.heap.size + 1) w' (w.heap.size + 1) Q) : FS Q w p b ls D d os E f n F fc fl w' :=
  ⟨h.blk.grown k.1 (fun e => by injection e with e; have := h.lt; omega), h.res.grown k.1 (fun e => by injection e with e; omega), k.own h.ol (by omega), k.own h.ob (by omega), k.own h.fo (by have := h.lt; omega), h.len, hr, h.below.trans (k.below (by omega)), h.lt, h.lo1, h.lo2⟩
theorem FS.store {gF : Nat} (h : FS P w p b ls D d os E f n (some ⟨gF, 0, none⟩) fc fl wr) (k : Nat) (x : Int) : FS P w p b ls D d os E f n (some ⟨gF, 0, none⟩) fc (fl.set k x) (wr.setCell ⟨gF, k, none⟩ (.int .i64 x)) := by
  have hg := (h.fo.lt gF rfl).1
  have hlt := h.lt
  refine ⟨h.blk.far (p := ⟨gF, k, none⟩) (by simp; omega) _, h.res.far (p := ⟨gF, k, none⟩) (by simp; omega) _, h.ol.kept (setc_grown _ _ _ _) ?_, h.ob.kept (setc_grown _ _ _ _) ?_, ?_, by simp [h.len], h.rd.grown (setc_grown _ _ _ _) (fun q hq => by injection hq; omega), h.below.setCell (p := ⟨gF, k, none⟩) (by simp; omega) _, h.lt, h.lo1, h.lo2⟩
  · cases hv : (Value.slice D ls.length d).ownBlock with
    | none => exact .inl rfl
    | some q => exact .inr fun he => by have := h.lo1 q hv; injection he; omega
  · cases hv : (Value.slice E os.length f).ownBlock with
    | none => exact .inl rfl
    | some q => exact .inr fun he => by have := h.lo2 q hv; injection he; omega
  · have e : encI (fl.set k x) = (encI fl).set k (.int .i64 x) := by simp [encI]
    rw [e]
    exact (h.fo.stored k _).1
theorem FS.more {Q : Nat} (h : FS P w p b ls D d os E f n F fc fl wr) (hq : P ≤ Q) : FS Q w p b ls D d os E f n F fc fl wr := ⟨h.blk, h.res, h.ol, h.ob, h.fo, h.len, h.rd.more hq, h.below, h.lt, h.lo1, h.lo2⟩
end

set_option maxRecDepth 8000 in
set_option maxHeartbeats 2000000 in
theorem DrawFlowValue_any (A : Option Addr) (c : Nat) (xs : List Int) (w : World) (h : Sl w w.heap.size 1 A xs.length (encU xs)) (hc : xs.length ≤ c) (hm : c ≤ maxLen) (hx : ∀ n ∈ xs, 0 ≤ n ∧ n ≤ 255) :
    Calls Tryd.prog 37 #[.slice A xs.length c] w (GotF w) := by
  have B0 := (Below.refl w.heap.size w).alloc (Nat.le_refl _) (.cells #[.int .i64 0, .slice none 0 0] 50)
  have Z0 := hide (Blk.new w 50 #[.int .i64 0, .slice none 0 0])
  have SA := hide (h.to B0)
  have e0 : (w.alloc (.cells #[.int .i64 0, .slice none 0 0] 50)).heap.size = w.heap.size + 1 := by simp
  have E0 := hide e0
  have HB0 := hide B0
  clear B0 e0
  go_enter Tryd.func37, Tryd.ntmps37
  go_wp2_with fail
  refine (l20Open_any _ _ _ _ SA.out hc hm hx).mono ?_
  rintro e w0 ⟨rfl, hr, hb⟩
  have hr0 := RdU.mk hr
  rw [E0.out] at hr0
  have K0 := hide (HB0.out.then hb)
  have Z1 := hide (Z0.out.to hb)
  have hs := hb.size
  rw [E0.out] at hs
  clear hr hb hx
  go_wp2_with fail
  refine (l20Ends_any _ _ 0 _ _ hr0 (by omega) (by omega) (by omega)).mono ?_
  rintro e w1 ⟨b, ls, D, d, os, E, f, fr, to, hb, hl, hol, rfl, ho1, ho2, hr1, hg1⟩
  have hgt := hr0.lt
  have hs1 := hg1.size
  have lo1 : Hid (∀ k, (Value.slice D ls.length d).ownBlock = some k → k < w1.heap.size) := hide fun k hk => (ho1.lt k hk).2
  have lo2 : Hid (∀ k, (Value.slice E os.length f).ownBlock = some k → k < w1.heap.size) := hide fun k hk => (ho2.lt k hk).2
  have bw := (Below.refl _ w1).alloc (Nat.le_refl _) (.cells #[.int .i64 b, .slice D ls.length d] 50)
  have e1 : (w1.alloc (.cells #[.int .i64 b, .slice D ls.length d] 50)).heap.size = w1.heap.size + 1 := by simp
  have E1 := hide e1
  have O1 := hide ((own_mono ho1 (show w.heap.size + 2 ≤ w0.heap.size by omega)).keepB bw)
  have O2 := hide ((own_mono ho2 (show w.heap.size + 2 ≤ w0.heap.size by omega)).keepB bw)
  have Z2 := hide ((Z1.out.grown hg1 (fun he => by injection he; omega)).to bw)
  have X1 := hide (Blk.new w1 50 #[.int .i64 b, .slice D ls.length d])
  have R1 := hide (hr1.grown (World.grownBy_alloc w1 (.cells #[.int .i64 b, .slice D ls.length d] 50) none) (fun k hk => by cases hk))
  have K1 := hide ((K0.out.trans (below_of_grown hg1 (B := w.heap.size) (by omega) (by omega))).then bw)
  have HB := hide hb
  clear hb ho1 ho2 hr1 hg1 hr0 bw e1
  go_wp2_with fail
  refine (specMostFlows_any _ _ _ _ _ _ _ _ _ _ (Sl.of_own O1.out) (Sl.of_own O2.out) (by omega) (by omega)).mono ?_
  rintro e w2 ⟨r, F, fc, hr, rfl, ho3, hb2⟩
  have hrl := hr.len
  have hs2 := hb2.size
  rw [E1.out] at ho3 hs2
  have ST : Hid (FS (0 + 100) w w1.heap.size b ls D d os E f r.length F fc r w2) := hide ⟨X1.out.to hb2, Z2.out.to hb2, O1.out.keepB hb2, O2.out.keepB hb2, ho3, rfl, R1.out.far (hb2.mono (by rw [E1.out]; omega)), K1.out.then hb2, by omega, lo1.out, lo2.out⟩
  clear hr ho3 hb2 O1 O2 Z2 X1 R1 K1 lo1 lo2
  generalize w1.heap.size = p at *
  generalize r.length = n at *
  go_wp2_with fail
  go_loopw [13] (fun i wr => ∃ (k : Nat) (fl : List Int), k ≤ n ∧ i = .int .i64 k ∧ FS (100 + 2 * k) w p b ls D d os E f n F fc fl wr) (fun i _ => n - (intOf i).toNat)
  case atStart => exact ⟨0, _, Nat.zero_le _, rfl, ST.out⟩
  case round =>
    obtain ⟨k, fl, hk, rfl, hst⟩ := hrel
    have ST := hide hst
    clear hst
    by_cases hlt : k < n
    · go_wp2_with fail
      refine (odd_u _ _ _ _ _ ST.out.rd (by omega) (by omega)).mono ?_
      rintro e w3 ⟨bo, rfl, h3, o3⟩
      have ST3 := hide (ST.out.only o3 h3)
      clear h3 o3
      cases bo
      · go_wp2_with fail
        go_roundw
        case rel => exact ⟨k + 1, fl, by omega, by go_num, ST3.out.more (by omega)⟩
        case measure => simp [intOf]; omega
      · obtain ⟨gF, cF, hvF, hgF, hgF2⟩ := ST3.out.fo.form (by omega)
        cases hvF
        have hkl : k < fl.length := by have := ST3.out.len; omega
        have cf := ST3.out.fo.cellAt k (by omega)
        rw [encI_at fl k hkl] at cf
        have HKL := hide hkl
        have k0 : (0 : Int) ≤ k := by omega
        have k1 : (k : Int) < n := by omega
        have hlt8 := ST3.out.lt
        clear hkl
        go_wp2_with fail
        go_region_law (first | (go_simp; go_at_call 54; refine (pick_u (w.heap.size + 1) (w.heap.size + 1) (100 + 2 * k + 1) _ _ ?_ ?_).mono ?_; exact ST3.out.drew.rd; omega; rintro _ w4 ⟨y, y1, y2, _, rfl, h4, o4⟩; have ST4 := hide (ST3.out.drew.only o4 h4); have v0 := (ST4.out.fo.cellAt k (by omega)).trans (encI_at fl k HKL.out); have v1 := ST4.out.fo.frozenAt k))
        all_goals go_wp2_with fail
        all_goals exact ⟨⟨k + 1, fl.set k _, by omega, by go_num, (ST4.out.store k _).more (by omega)⟩, by simp [intOf]; omega⟩
    · obtain ⟨c0, c1⟩ := ST.out.blk.two
      obtain ⟨z0, z3⟩ := ST.out.res.two
      have z1 := ST.out.res.frozen 0
      have z2 := ST.out.res.frozen 1
      obtain ⟨p0, p1⟩ := ST.out.res.two_set (u := .int .i64 b) (v := .slice D ls.length d)
      have hlt8 := ST.out.lt
      go_wp2_with fail
      refine bodyPost_ret (v := .tuple #[.agg #[.int .i64 b, .slice D ls.length d], .slice E os.length f, .int .i64 fr, .int .i64 to, .slice F n fc]) (by simp [results, Tryd.results37, go_sem, p0, p1]) rfl ?_
      have hln := ST.out.len
      refine ⟨b, ls, D, d, os, E, f, fr, to, fl, F, fc, HB.out, hl, hol, by omega, by rw [hln], own_mono (own_set (own_set ST.out.ol (by omega) _ _) (by omega) _ _) (by omega), own_mono (own_set (own_set ST.out.ob (by omega) _ _) (by omega) _ _) (by omega), ?_, (ST.out.below.setCell (p := ⟨w.heap.size, 0, none⟩) (Nat.le_refl _) _).setCell (p := ⟨w.heap.size, 1, none⟩) (Nat.le_refl _) _⟩
      rw [hln]
      exact own_mono (own_set (own_set ST.out.fo (by omega) _ _) (by omega) _ _) (by omega)

end Go.Proofs.YtijnahflfbjgiaaDoor
