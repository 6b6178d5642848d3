/-
  Islands: what the reference's functions compute.
-/
import Derived.Test.YtbebhbcjdiahcaaDoorSeen
import Derived.Test.YtbebhbcjdiahcaaDoorAppNew
namespace Go.Proofs.YtbebhbcjdiahcaaDoor
open Go.RowKit
set_option linter.unusedVariables false

/-- Whether two buses are in one island. -/
noncomputable def conB (ls : List (Int × Int × Int)) (on : List Bool) (a b : Int) : Bool := @decide (Con ls (onP on) a b) (Classical.propDecidable _)
theorem conB_iff (ls : List (Int × Int × Int)) (on : List Bool) (a b : Int) : conB ls on a b = true ↔ Con ls (onP on) a b := @decide_eq_true_iff _ (Classical.propDecidable _)
/-- The buses of an island. -/
def Isl (ls : List (Int × Int × Int)) (on : List Bool) (nb bus k : Nat) (ord : List Int) : Prop := ord.length ≤ k ∧ ∀ x : Int, x ∈ ord ↔ 0 ≤ x ∧ x < k ∧ Con ls (onP on) bus x
theorem st_yes {nb : Int} {ls : List (Int × Int × Int)} (hv : netB nb ls = true) : stB nb ls ls.length = true := by rw [stB_yes hv]; simp

set_option maxHeartbeats 1000000 in
theorem reached_any (nb bus : Nat) (A D : Option Addr) (c d : Nat) (ls : List (Int × Int × Int)) (on : List Bool) (w : World) (h : Sl w w.heap.size 3 A ls.length (enc3 ls)) (g : Sl w w.heap.size 1 D ls.length (encB on)) (hl : on.length = ls.length) (hv : netB nb ls = true) (hbus : bus < nb) :
    Calls Tryd.prog 58 #[.agg #[.int .i64 nb, .slice A ls.length c], .slice D ls.length d, .int .i64 bus] w (MadeInts (Isl ls on nb bus nb) w) := by
  have hsz : (w.alloc (.cells #[.int .i64 nb, .slice A ls.length c] 25)).heap.size = w.heap.size + 1 := by simp
  have B0 := (Blk.new w 25 #[.int .i64 nb, .slice A ls.length c]).alloc (.cells #[] 3)
  have bw := ((Below.refl _ w).alloc (Nat.le_refl _) (.cells #[.int .i64 nb, .slice A ls.length c] 25)).alloc (by omega) (.cells #[] 3)
  have ho0 := World.ownsRow_lit (base := w.heap.size + 1) (e := 3) (size := 1) (w.alloc (.cells #[.int .i64 nb, .slice A ls.length c] 25)) #[] 0 (by simp) (by unfold maxLen; omega) rfl
  rw [hsz] at ho0
  have hz0 : ((w.alloc (.cells #[.int .i64 nb, .slice A ls.length c] 25)).alloc (.cells #[] 3)).heap.size = w.heap.size + 2 := by simp
  obtain ⟨⟨n1, n2⟩, n3⟩ := net_len hv
  have hst := st_yes hv
  have hin : inB (bus : Int) 0 ((nb : Int) - 1) = true := inB_mk (by omega) (by omega)
  have HV := hide hv
  have HH := hide h
  have GG := hide g
  have HO0 := hide ho0
  have HZ := hide hz0
  clear hv h g ho0 hsz hz0
  go_enter Tryd.func58, Tryd.ntmps58
  go_wp2_with fail
  refine (specStateValid_any _ _ _ _ _ _ _ _ (HH.out.to bw) (by omega)).mono ?_
  rintro e w1 ⟨rfl, hb1⟩
  rw [hst]
  have B1 := hide (B0.to hb1)
  have K1 := hide (bw.then hb1)
  have H1 := hide (HH.out.to K1.out)
  have G1 := hide (GG.out.to K1.out)
  have O1 := hide (HO0.out.keepB hb1)
  have hz1 := hb1.size
  rw [HZ.out] at hz1
  obtain ⟨g0, g1⟩ := B1.out.two
  clear hb1 B0 bw hst
  go_wp2_with ((go_at_call 52; refine (l1In_any _ _ _ _).mono ?_; rintro e w' ⟨rfl, rfl⟩))
  refine (l3Reach_any nb bus _ _ _ _ ls on w1 H1.out G1.out hl HV.out hbus).mono ?_
  rintro e w2 ⟨sn, q, rfl, ho, hsa, hb2⟩
  have hq := (ho.lt _ rfl)
  have O2 := hide (own_mono ho (show w.heap.size + 1 ≤ w1.heap.size by omega))
  have S2 := hide hsa
  have B2 := hide (B1.out.to hb2)
  have K2 := hide (K1.out.then hb2)
  have N2 := hide (O1.out.keepB hb2)
  have hz2 := hb2.size
  clear ho hsa hb2 g0 g1 B1 K1 H1 G1 O1
  obtain ⟨g0, g1⟩ := B2.out.two
  go_wp2_with fail
  go_loopw [7, 9] (fun o x wr => ∃ (k : Nat) (ord : List Int) (E : Option Addr) (f : Nat), k ≤ nb ∧ o = .slice E ord.length f ∧ x = .int .i64 k ∧ q < wr.heap.size ∧ Hid (Isl ls on nb bus k ord) ∧ Hid (wr.ownsRow (w.heap.size + 1) 3 1 (.slice E ord.length f) ord.length (encI ord)) ∧ Hid (∀ g, (Value.slice E ord.length f).ownBlock = some g → ¬ g = q) ∧ Hid (wr.ownsRow (w.heap.size + 1) 4 1 (.slice (some ⟨q, 0, none⟩) nb nb) nb (encB sn)) ∧ Hid (Blk wr w.heap.size 25 #[.int .i64 nb, .slice A ls.length c]) ∧ Hid (Below w.heap.size w wr)) (fun _ x _ => nb - (intOf x).toNat)
  case atStart => exact ⟨0, [], _, 0, Nat.zero_le _, rfl, rfl, by omega, hide ⟨Nat.le_refl _, fun x => ⟨fun h => (by cases h), fun h => by omega⟩⟩, N2, hide (fun g hg => by simp [Value.ownBlock] at hg; omega), O2, B2, K2⟩
  case round =>
    clear g0 g1 B2 K2 N2 O2
    obtain ⟨k, ord, E, f, hk, rfl, rfl, hqw, HI, HO, HD, O2, HB, HK⟩ := hrel
    have hbl := HI.out.1
    obtain ⟨g0, g1⟩ := HB.out.two
    by_cases hlt : k < nb
    · have x1 := O2.out.cellAt k (by omega)
      rw [encB_at _ k (by rw [S2.out.1]; exact hlt)] at x1
      have q0 : (0 : Int) ≤ k := by omega
      have q1 : (k : Int) < nb := by omega
      have hw := hide (S2.out.2 k hlt)
      have hz3 : w.heap.size + 1 ≤ wr.heap.size := by omega
      cases hsx : atB sn k
      · rw [hsx] at x1
        have HSX := hide hsx
        clear hsx
        go_wp2_with fail
        go_roundw
        case rel => exact ⟨k + 1, ord, E, f, by omega, rfl, by go_num, hqw, hide ⟨by omega, fun x => (HI.out.2 x).trans ⟨fun h => ⟨h.1, by omega, h.2.2⟩, fun h => ⟨h.1, by
            by_cases hxk : x = k
            · subst hxk
              have := hw.out.2 h.2.2
              rw [HSX.out] at this; cases this
            · omega, h.2.2⟩⟩⟩, HO, HD, O2, HB, HK⟩
        case measure => simp [intOf]; omega
      · rw [hsx] at x1
        have HSX := hide hsx
        clear hsx
        go_wp2_with (at_builtin; refine app_int2 wr rfl (.tmp 38) (.tmp 40) rfl (w.heap.size + 1) E ord.length f ord k rfl HO.out wr.heap.size rfl rfl hz3 (by omega) ?_; intro D2 d2 w3 ho3 hg3 hw3)
        have K3 := hide (HK.out.trans ((grown_below HO.out hg3 hz3).mono (by omega)))
        have B3 := hide (HB.out.below (grown_below HO.out hg3 hz3) (by omega))
        have HO3 := hide ho3
        have Q3 := hide (own_apart O2.out hg3 (fun g hg he => by
          have hgq : q = g := by simpa [Value.ownBlock] using hg
          exact HD.out g he hgq.symm))
        have hs3 := hg3.size
        have D3 : Hid (∀ g, (Value.slice D2 (ord.length + 1) d2).ownBlock = some g → ¬ g = q) := hide fun g hg => by
          rcases hw3 g hg with h | h
          · exact HD.out g h
          · omega
        clear ho3 hg3 hw3
        go_roundw
        case rel => exact ⟨k + 1, ord ++ [(k : Int)], D2, d2, by omega, by simp, by go_num, by omega, hide ⟨by simp; omega, fun x => by
            rw [List.mem_append, HI.out.2 x, List.mem_singleton]
            constructor
            · rintro (h | rfl)
              · exact ⟨h.1, by omega, h.2.2⟩
              · exact ⟨by omega, by omega, hw.out.1 HSX.out⟩
            · intro h
              by_cases hxk : x = k
              · exact .inr hxk
              · exact .inl ⟨h.1, by omega, h.2.2⟩⟩, by simpa using HO3, by simpa using D3, Q3, B3, K3⟩
        case measure => simp [intOf]; omega
    · obtain rfl : k = nb := by omega
      go_wp2_with fail
      go_ret
      exact ⟨ord, E, f, HI.out, rfl, own_mono HO.out (by omega), HK.out⟩

theorem sameIsland_any (nb a : Nat) (b : Int) (A D : Option Addr) (c d : Nat) (ls : List (Int × Int × Int)) (on : List Bool) (w : World) (h : Sl w w.heap.size 3 A ls.length (enc3 ls)) (g : Sl w w.heap.size 1 D ls.length (encB on)) (hl : on.length = ls.length) (hv : netB nb ls = true) (ha : a < nb) (hb : 0 ≤ b ∧ b < nb) :
    Calls Tryd.prog 32 #[.agg #[.int .i64 nb, .slice A ls.length c], .slice D ls.length d, .int .i64 a, .int .i64 b] w fun e w' => e = .returned (.bool (conB ls on a b)) ∧ Below w.heap.size w w' := by
  have bw := (Below.refl _ w).alloc (Nat.le_refl _) (.cells #[.int .i64 nb, .slice A ls.length c] 25)
  obtain ⟨⟨n1, n2⟩, n3⟩ := net_len hv
  have HH := hide (h.to bw)
  have GG := hide (g.to bw)
  clear h g
  go_enter Tryd.func32, Tryd.ntmps32
  go_wp2_with fail
  refine (reached_any nb a _ _ _ _ ls on _ HH.out GG.out hl hv ha).mono ?_
  rintro e w2 ⟨ord, E, f, hi, rfl, ho, hb2⟩
  have HI := hide hi
  have h8 := hi.1
  clear hi
  go_wp2_with fail
  refine (l1Has_any E ord.length f ord b w2 rfl (Sl.of_own ho) (by omega)).mono ?_
  rintro e w3 ⟨rfl, rfl⟩
  go_wp2_with fail
  go_ret
  refine ⟨ret_bool ?_, bw.then hb2⟩
  rw [Bool.eq_iff_iff, conB_iff]
  unfold hasB
  rw [decide_eq_true_iff, HI.out.2 b]
  exact ⟨fun h => h.2.2, fun h => ⟨hb.1, hb.2, h⟩⟩

end Go.Proofs.YtbebhbcjdiahcaaDoor
