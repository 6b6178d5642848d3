/-
  Cycles: what the program's function computes.
-/
import Derived.Test.YtbebhbcjdiahcaaDoorUnionW
import Derived.Test.YtbebhbcjdiahcaaDoorCuts
namespace Go.Proofs.YtbebhbcjdiahcaaDoor
open Go.RowKit
set_option linter.unusedVariables false

theorem Sl.boolL {w : World} {B n : Nat} {A : Option Addr} {xs : List Bool} (h : Sl w B 1 A n (encB xs)) (hl : xs.length = n) (k : Nat) (hk : k < n) :
    ∃ b off, A = some ⟨b, off, none⟩ ∧ b < B ∧ w.cell? ⟨b, off + k, none⟩ = some (.bool (atB xs k)) := by
  subst hl; exact h.bool k hk
/-- The lines that are on. -/
def onP (on : List Bool) (k : Nat) : Prop := atB on k = true
/-- Whether there is a cycle. -/
noncomputable def cycB (ls : List (Int × Int × Int)) (on : List Bool) : Bool := @decide (Cyc ls (onP on)) (Classical.propDecidable _)
theorem cycB_yes {ls : List (Int × Int × Int)} {on : List Bool} (h : Cyc ls (onP on)) : cycB ls on = true := @decide_eq_true _ (Classical.propDecidable _) h
theorem cycB_no {ls : List (Int × Int × Int)} {on : List Bool} (h : ¬ Cyc ls (onP on)) : cycB ls on = false := @decide_eq_false _ (Classical.propDecidable _) h
theorem cycB_iff (ls : List (Int × Int × Int)) (on : List Bool) : cycB ls on = true ↔ Cyc ls (onP on) := @decide_eq_true_iff _ (Classical.propDecidable _)

theorem US.to {base q n c : Nat} {us : List Int} {w w' : World} (h : US base q n c us w) (hb : Below w.heap.size w w') : US base q n c us w' := ⟨h.own.keepB hb, h.len, h.uf⟩
theorem US.q_lt {base q n c : Nat} {us : List Int} {w : World} (h : US base q n c us w) : base ≤ q ∧ q < w.heap.size := h.own.lt _ rfl

/-- What lay below stays when a block above is written. -/
theorem below_of_grown' {w wr w' : World} {g : Nat} (h : Below w.heap.size w wr) (hg : wr.grownBy w' (some g)) (hB : w.heap.size ≤ g) : Below w.heap.size w w' :=
  ⟨hg.os.trans h.os, hg.tape.trans h.tape, hg.output.trans h.output, Nat.le_trans h.size hg.size, fun k hk => (hg.block k (by have := h.size; omega) (fun e => by injection e; omega)).trans (h.block k hk)⟩

set_option maxHeartbeats 1000000 in
theorem hasCycle_any (nb : Nat) (A D : Option Addr) (c d : Nat) (ls : List (Int × Int × Int)) (on : List Bool) (w : World) (h : Sl w w.heap.size 3 A ls.length (enc3 ls)) (g : Sl w w.heap.size 1 D ls.length (encB on)) (hl : on.length = ls.length) (hv : netB nb ls = true) :
    Calls Tryd.prog 49 #[.agg #[.int .i64 nb, .slice A ls.length c], .slice D ls.length d] w fun e w' => e = .returned (.bool (cycB ls on)) ∧ Below w.heap.size w w' := by
  have bw := (Below.refl _ w).alloc (Nat.le_refl _) (.cells #[.int .i64 nb, .slice A ls.length c] 25)
  have B0 := Blk.new w 25 #[.int .i64 nb, .slice A ls.length c]
  obtain ⟨⟨n1, n2⟩, n3⟩ := net_len hv
  have HV := hide hv
  have HH := hide h
  have GG := hide g
  clear hv h g
  go_enter Tryd.func49, Tryd.ntmps49
  go_wp2_with fail
  refine (newUnion_any nb _ (by omega)).mono ?_
  rintro e w1 ⟨he, ho, hb⟩
  have hsz : (w.alloc (.cells #[.int .i64 nb, .slice A ls.length c] 25)).heap.size = w.heap.size + 1 := by simp
  rw [hsz] at he ho
  subst he
  have HU : Hid (US (w.heap.size + 1) (w.heap.size + 1) nb nb (singles nb) w1) := hide ⟨ho, by simp [singles], (UC.start ls nb).2.1⟩
  have HB := hide (B0.to hb)
  have HK := hide (bw.then hb)
  clear ho hb B0 bw hsz
  obtain ⟨g0, g1⟩ := HB.out.two
  go_wp2_with fail
  go_loopw [14] (fun x wr => ∃ (k : Nat) (us : List Int), k ≤ ls.length ∧ x = .int .i64 k ∧ Hid (US (w.heap.size + 1) (w.heap.size + 1) nb nb us wr) ∧ Hid (UC ls nb us (fun j => onP on j ∧ j < k)) ∧ Hid (∀ j, j < k → onP on j → ¬ Con ls (fun i => onP on i ∧ i < j) (at3 ls j).1 (at3 ls j).2.1) ∧ Hid (Blk wr w.heap.size 25 #[.int .i64 nb, .slice A ls.length c]) ∧ Hid (Below w.heap.size w wr)) (fun x _ => ls.length - (intOf x).toNat)
  case atStart => exact ⟨0, _, Nat.zero_le _, rfl, HU, hide ((UC.start ls nb).same (fun k _ => ⟨fun h => h.elim, fun h => absurd h.2 (by omega)⟩)), hide (fun j hj => absurd hj (by omega)), HB, HK⟩
  case round =>
    clear HU HB HK g0 g1
    obtain ⟨k, us, hk, rfl, HU, HC, HN, HB, HK⟩ := hrel
    obtain ⟨g0, g1⟩ := HB.out.two
    by_cases hkl : k < ls.length
    · obtain ⟨b0, o0, rfl, hb, hd0, hd1, hd2⟩ := HH.out.three k hkl
      obtain ⟨b1, o1, rfl, hb1, he⟩ := GG.out.boolL hl k hkl
      have d0 := (HK.out.cell (p := ⟨b0, o0 + k * 3, none⟩) hb).trans hd0
      have d1 := (HK.out.cell (p := ⟨b0, o0 + k * 3 + 1, none⟩) hb).trans hd1
      have d2 := (HK.out.cell (p := ⟨b0, o0 + k * 3 + 2, none⟩) hb).trans hd2
      have e0 := (HK.out.cell (p := ⟨b1, o1 + k, none⟩) hb1).trans he
      have hz3 := HK.out.size
      have hb0 : b0 < wr.heap.size := by omega
      have hb10 : b1 < wr.heap.size := by omega
      obtain ⟨m1, m2, m3, m4⟩ := net_at HV.out k hkl
      obtain ⟨x, hx⟩ := Int.eq_ofNat_of_zero_le m1.1
      obtain ⟨y, hy⟩ := Int.eq_ofNat_of_zero_le m2.1
      have HX := hide hx
      have HY := hide hy
      have kk := (Below.refl _ wr).alloc (Nat.le_refl _) (.cells #[.int .i64 x, .int .i64 y, .int .i64 (at3 ls k).2.2] 60)
      have hql := HU.out.q_lt
      have U2 := hide (HU.out.to kk)
      have B2 := hide (HB.out.to kk)
      have K2 := hide (HK.out.then kk)
      have L2 := hide (Blk.new wr 60 #[.int .i64 x, .int .i64 y, .int .i64 (at3 ls k).2.2])
      have hxn : x < nb := by omega
      have hyn : y < nb := by omega
      rw [hx] at d0
      rw [hy] at d1
      clear hd0 hd1 hd2 kk HU HB HK he m1 m2 m3 m4 hx hy
      cases hon : atB on k
      · have HON := hide hon
        rw [hon] at e0
        go_wp2_with fail
        go_roundw
        case rel => exact ⟨k + 1, us, by omega, by go_num, U2, hide (HC.out.same fun j _ => ⟨fun h => ⟨h.1, by omega⟩, fun h => ⟨h.1, by
            by_cases hjk : j = k
            · subst hjk; have := h.1; unfold onP at this; rw [HON.out] at this; cases this
            · omega⟩⟩), hide (fun j hj ho => by
            by_cases hjk : j = k
            · subst hjk; unfold onP at ho; rw [HON.out] at ho; cases ho
            · exact HN.out j (by omega) ho), B2, K2⟩
        case measure => simp [intOf]; omega
      · have HON := hide hon
        rw [hon] at e0
        go_wp2_with fail
        refine (same_any _ _ nb nb us x y _ U2.out hxn hyn (by omega)).mono ?_
        rintro e w3 ⟨rfl, vs, hu3, hr3, hg3⟩
        have U3 := hide hu3
        have C3 := hide (HC.out.roots (us' := vs) hu3.uf (by rw [hu3.len, U2.out.len]) (fun z hz => hr3 z (by rw [U2.out.len] at hz; exact hz)))
        have B3 := hide (B2.out.grown hg3 (by simp))
        have L3 := hide (L2.out.grown hg3 (by simp; omega))
        have K3 := hide (below_of_grown' K2.out hg3 (by omega))
        have hxy := HC.out.2.2 x y hxn hyn
        have HR := hide hr3
        clear hu3 hg3 hr3 U2 B2 K2 L2
        by_cases hrt : root us x = root us y
        · have hcyc : Cyc ls (onP on) := (cyc_iff _).2 ⟨k, hkl, HON.out, by rw [HX.out, HY.out]; exact hxy.1 hrt⟩
          have HCY := hide hcyc
          rw [decide_eq_true hrt]
          clear hcyc hrt hxy
          go_wp2_with fail
          go_ret
          exact ⟨ret_bool (cycB_yes HCY.out).symm, K3.out⟩
        · have HNC : Hid (¬ Con ls (fun i => onP on i ∧ i < k) (at3 ls k).1 (at3 ls k).2.1) := hide (by rw [HX.out, HY.out]; exact fun hc => hrt (hxy.2 hc))
          rw [decide_eq_false hrt]
          obtain ⟨l0, l1, l2⟩ := L3.out.three
          clear hrt hxy
          go_wp2_with fail
          refine (join_any _ _ nb nb vs x y w3 U3.out hxn hyn (by omega)).mono ?_
          rintro e w4 ⟨rfl, ws, hu4, hr4, hg4⟩
          have U4 := hide hu4
          have C4 := hide (C3.out.join (us' := ws) hkl HX.out HY.out hxn hyn (by rw [hu4.len, U3.out.len]) hu4.uf (fun z hz => hr4 z (by rw [U3.out.len] at hz; exact hz)))
          have B4 := hide (B3.out.grown hg4 (by simp))
          have K4 := hide (below_of_grown' K3.out hg4 (by omega))
          clear hu4 hg4 hr4 U3 B3 K3 L3
          go_wp2_with fail
          go_roundw
          case rel => exact ⟨k + 1, ws, by omega, by go_num, U4, hide (C4.out.same fun j _ => ⟨fun h => h.elim (fun h => ⟨h.1, by omega⟩) (fun h => by subst h; exact ⟨HON.out, by omega⟩), fun h => by
              by_cases hjk : j = k
              · exact .inr hjk
              · exact .inl ⟨h.1, by omega⟩⟩), hide (fun j hj ho => by
              by_cases hjk : j = k
              · subst hjk; exact HNC.out
              · exact HN.out j (by omega) ho), B4, K4⟩
          case measure => simp [intOf]; omega
    · obtain rfl : k = ls.length := by omega
      go_wp2_with fail
      go_ret
      exact ⟨ret_bool (cycB_no fun hc => by
        obtain ⟨j, hj, ho, hcon⟩ := (cyc_iff _).1 hc
        exact HN.out j hj ho hcon).symm, HK.out⟩

end Go.Proofs.YtbebhbcjdiahcaaDoor
