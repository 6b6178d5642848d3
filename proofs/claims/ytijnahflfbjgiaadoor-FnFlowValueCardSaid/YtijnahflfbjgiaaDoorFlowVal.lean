/-
  Chapter 34: how much flows, by given flows; what the program's function and the reference's compute.
-/
import Derived.Test.YtijnahflfbjgiaaDoorFlow
import Derived.Test.YtijnahflfbjgiaaDoorCutCap
import Derived.Test.YtijnahflfbjgiaaDoorBut
import Derived.BigRegion
import Derived.Test.YtijnahflfbjgiaaDoorPhases
namespace Go.Proofs.YtijnahflfbjgiaaDoor
open Go.RowKit
set_option linter.unusedVariables false

/-- Two different buses of a valid state. -/
def endsB (b : Int) (ls : List (Int × Int × Int)) (n : Nat) (from_ to : Int) : Bool := stB b ls n && inB from_ 0 (b - 1) && inB to 0 (b - 1) && decide (from_ ≠ to)
theorem ends_cases (b : Int) (ls : List (Int × Int × Int)) (n : Nat) (from_ to : Int) : (stB b ls n = false ∧ endsB b ls n from_ to = false) ∨ (stB b ls n = true ∧ inB from_ 0 (b - 1) = false ∧ endsB b ls n from_ to = false) ∨
    (stB b ls n = true ∧ inB from_ 0 (b - 1) = true ∧ inB to 0 (b - 1) = false ∧ endsB b ls n from_ to = false) ∨ (stB b ls n = true ∧ inB from_ 0 (b - 1) = true ∧ inB to 0 (b - 1) = true ∧ (from_ != to) = false ∧ endsB b ls n from_ to = false) ∨
    (stB b ls n = true ∧ inB from_ 0 (b - 1) = true ∧ inB to 0 (b - 1) = true ∧ (from_ != to) = true ∧ endsB b ls n from_ to = true) := by
  unfold endsB
  cases h1 : stB b ls n
  · exact .inl ⟨rfl, by simp⟩
  · cases h2 : inB from_ 0 (b - 1)
    · exact .inr (.inl ⟨rfl, rfl, by simp⟩)
    · cases h3 : inB to 0 (b - 1)
      · exact .inr (.inr (.inl ⟨rfl, rfl, rfl, by simp⟩))
      · by_cases h4 : from_ = to
        · exact .inr (.inr (.inr (.inl ⟨rfl, rfl, rfl, by simp [h4], by simp [h4]⟩)))
        · exact .inr (.inr (.inr (.inr ⟨rfl, rfl, rfl, by simp [h4], by simp [h4]⟩)))
structure Ends (b : Int) (ls : List (Int × Int × Int)) (n : Nat) (from_ to : Int) : Prop where
  net : netB b ls = true
  len : n = ls.length
  f0 : 0 ≤ from_
  f1 : from_ < b
  t0 : 0 ≤ to
  t1 : to < b
  ne : from_ ≠ to
theorem ends_true {b : Int} {ls : List (Int × Int × Int)} {n : Nat} {from_ to : Int} (h : endsB b ls n from_ to = true) : Ends b ls n from_ to := by
  simp only [endsB, stB, Bool.and_eq_true, decide_eq_true_eq] at h
  obtain ⟨⟨⟨⟨h1, h2⟩, h3⟩, h4⟩, h5⟩ := h
  have := inB_true h3
  have := inB_true h4
  exact ⟨h1, h2, by omega, by omega, by omega, by omega, h5⟩

theorem endsValid_any (b : Int) (A D : Option Addr) (c d n : Nat) (ls : List (Int × Int × Int)) (from_ to : Int) (w : World) (h : Sl w w.heap.size 3 A ls.length (enc3 ls)) (hm : ls.length ≤ 1048576) :
    Calls Tryd.prog 82 #[.agg #[.int .i64 b, .slice A ls.length c], .slice D n d, .int .i64 from_, .int .i64 to] w fun e w' => e = .returned (.bool (endsB b ls n from_ to)) ∧ Below w.heap.size w w' := by
  have bw := (Below.refl _ w).alloc (Nat.le_refl _) (.cells #[.int .i64 b, .slice A ls.length c] 50)
  have B0 := Blk.new w 50 #[.int .i64 b, .slice A ls.length c]
  rcases ends_cases b ls n from_ to with ⟨h1, q⟩ | ⟨h1, h2, q⟩ | ⟨h1, h2, h3, q⟩ | ⟨h1, h2, h3, h4, q⟩ | ⟨h1, h2, h3, h4, q⟩
  all_goals
    have Q := hide q
    clear q
    go_enter Tryd.func82, Tryd.ntmps82
    go_wp2_with fail
    refine (implStateValid_any _ _ _ _ _ _ _ _ (h.to bw) hm).mono ?_
    rintro e w1 ⟨rfl, hb1⟩
    rw [h1]
    have B1 := B0.to hb1
    obtain ⟨g0, g1⟩ := B1.two
    have K1 := bw.then hb1
    clear hb1
    go_wp2_with fail
  · go_ret
    exact ⟨ret_bool Q.out.symm, K1⟩
  all_goals
    refine (hasBus_any _ _ _ _ _ _).mono ?_
    rintro e w2 ⟨rfl, hb2⟩
    rw [h2]
    have B2 := B1.to hb2
    clear g0 g1
    obtain ⟨g0, g1⟩ := B2.two
    have K2 := K1.then hb2
    clear hb2
    go_wp2_with fail
  · go_ret
    exact ⟨ret_bool Q.out.symm, K2⟩
  all_goals
    refine (hasBus_any _ _ _ _ _ _).mono ?_
    rintro e w3 ⟨rfl, hb3⟩
    rw [h3]
    have K3 := K2.then hb3
    clear hb3
    go_wp2_with fail
    go_ret
    exact ⟨ret_bool Q.out.symm, K3⟩

theorem l34Ok_any (b : Int) (A D : Option Addr) (c d n : Nat) (ls : List (Int × Int × Int)) (from_ to : Int) (w : World) (h : Sl w w.heap.size 3 A ls.length (enc3 ls)) (hm : ls.length ≤ 1048576) :
    Calls Tryd.prog 83 #[.agg #[.int .i64 b, .slice A ls.length c], .slice D n d, .int .i64 from_, .int .i64 to] w fun e w' => e = .returned (.bool (endsB b ls n from_ to)) ∧ Below w.heap.size w w' := by
  have bw := (Below.refl _ w).alloc (Nat.le_refl _) (.cells #[.int .i64 b, .slice A ls.length c] 50)
  have B0 := Blk.new w 50 #[.int .i64 b, .slice A ls.length c]
  rcases ends_cases b ls n from_ to with ⟨h1, q⟩ | ⟨h1, h2, q⟩ | ⟨h1, h2, h3, q⟩ | ⟨h1, h2, h3, h4, q⟩ | ⟨h1, h2, h3, h4, q⟩
  all_goals
    have Q := hide q
    clear q
    go_enter Tryd.func83, Tryd.ntmps83
    go_wp2_with fail
    refine (specStateValid_any _ _ _ _ _ _ _ _ (h.to bw) hm).mono ?_
    rintro e w1 ⟨rfl, hb1⟩
    rw [h1]
    obtain ⟨g0, g1⟩ := (B0.to hb1).two
    have K1 := bw.then hb1
    clear hb1 bw B0
  · go_wp2_with fail
    go_ret
    exact ⟨ret_bool Q.out.symm, K1⟩
  all_goals
    have hn := net_len (stB_true h1).1
    obtain ⟨⟨n1, n2⟩, n3⟩ := hn
    clear h1
    go_wp2_with ((go_at_call 57; refine (l1In_any _ _ _ _).mono ?_; rintro e w' ⟨rfl, rfl⟩))
    go_ret
    exact ⟨ret_bool Q.out.symm, K1⟩

/-! ### the value -/
def flS (ls : List (Int × Int × Int)) (os : List Bool) (fl : List Int) (k : Nat) : Bool := decide (-(at3 ls k).2.2 ≤ at_ fl k) && decide (at_ fl k ≤ (at3 ls k).2.2) && (atB os k || decide (at_ fl k = 0))
def flB (ls : List (Int × Int × Int)) (os : List Bool) (fl : List Int) : Bool := decide (∀ k, k < ls.length → flS ls os fl k = true)
def midB (b : Int) (ls : List (Int × Int × Int)) (from_ to : Int) (fl : List Int) : Bool := decide (∀ u : Nat, u < b.toNat → (u : Int) ≠ from_ → (u : Int) ≠ to → outF ls fl u ls.length = 0)
def valB (b : Int) (ls : List (Int × Int × Int)) (os : List Bool) (from_ to : Int) (fl : List Int) : Int :=
  if endsB b ls os.length from_ to && decide (fl.length = ls.length) && flB ls os fl && midB b ls from_ to fl then max (outF ls fl from_ ls.length) (-1) else -1

def outL (ls : List (Int × Int × Int)) (fl : List Int) (n k : Nat) : List Int := (List.range n).map fun (u : Nat) => outF ls fl u k
theorem outL_len (ls : List (Int × Int × Int)) (fl : List Int) (n k : Nat) : (outL ls fl n k).length = n := by simp [outL]
theorem outL_at (ls : List (Int × Int × Int)) (fl : List Int) (n k u : Nat) (h : u < n) : at_ (outL ls fl n k) u = outF ls fl u k := by simp [at_, outL, h]
theorem outL_zero (ls : List (Int × Int × Int)) (fl : List Int) (n : Nat) : encI (outL ls fl n 0) = (zrow n).toList := by
  apply List.ext_getElem
  · simp [outL, encI, zrow]
  · intro j h1 h2
    simp [outL, outF, encI, zrow]
theorem outL_step {ls : List (Int × Int × Int)} {fl : List Int} {n k a c : Nat} (ha : (at3 ls k).1 = a) (hc : (at3 ls k).2.1 = c) (hne : a ≠ c) (h1 : a < n) (h2 : c < n) :
    ((encI (outL ls fl n k)).set a (.int .i64 (outF ls fl a k + at_ fl k))).set c (.int .i64 (outF ls fl c k - at_ fl k)) = encI (outL ls fl n (k + 1)) := by
  apply List.ext_getElem
  · simp [encI, outL]
  · intro j g1 g2
    have hj : j < n := by simpa [encI, outL] using g2
    rw [List.getElem_set, List.getElem_set]
    simp only [encI, outL, List.getElem_map, List.getElem_range, outF, ha, hc]
    by_cases e1 : c = j
    · subst e1
      rw [if_pos rfl, if_neg (show ¬ ((a : Int) = (c : Int)) by omega), if_pos rfl]
      rw [Int.sub_eq_add_neg]
    · rw [if_neg e1]
      by_cases e2 : a = j
      · subst e2
        rw [if_pos rfl, if_pos rfl]
      · rw [if_neg e2, if_neg (show ¬ ((a : Int) = (j : Int)) by omega), if_neg (show ¬ ((c : Int) = (j : Int)) by omega), Int.add_zero]
theorem flS_cases (ls : List (Int × Int × Int)) (os : List Bool) (fl : List Int) (k : Nat) : (at_ fl k < -(at3 ls k).2.2 ∧ flS ls os fl k = false) ∨ (-(at3 ls k).2.2 ≤ at_ fl k ∧ (at3 ls k).2.2 < at_ fl k ∧ flS ls os fl k = false) ∨
    (-(at3 ls k).2.2 ≤ at_ fl k ∧ at_ fl k ≤ (at3 ls k).2.2 ∧ atB os k = true ∧ flS ls os fl k = true) ∨ (-(at3 ls k).2.2 ≤ at_ fl k ∧ at_ fl k ≤ (at3 ls k).2.2 ∧ atB os k = false ∧ (at_ fl k != 0) = false ∧ flS ls os fl k = true) ∨
    (-(at3 ls k).2.2 ≤ at_ fl k ∧ at_ fl k ≤ (at3 ls k).2.2 ∧ atB os k = false ∧ (at_ fl k != 0) = true ∧ flS ls os fl k = false) := by
  unfold flS
  by_cases h1 : at_ fl k < -(at3 ls k).2.2
  · exact .inl ⟨h1, by simp; omega⟩
  · by_cases h2 : (at3 ls k).2.2 < at_ fl k
    · exact .inr (.inl ⟨by omega, h2, by simp; omega⟩)
    · have e1 : decide (-(at3 ls k).2.2 ≤ at_ fl k) = true := by simp; omega
      have e2 : decide (at_ fl k ≤ (at3 ls k).2.2) = true := by simp; omega
      rw [e1, e2]
      cases h3 : atB os k
      · by_cases h4 : at_ fl k = 0
        · exact .inr (.inr (.inr (.inl ⟨by omega, by omega, rfl, by simp [h4], by simp [h4]⟩)))
        · exact .inr (.inr (.inr (.inr ⟨by omega, by omega, rfl, by simp [h4], by simp [h4]⟩)))
      · exact .inr (.inr (.inl ⟨by omega, by omega, rfl, by simp⟩))
theorem valB_ends {b : Int} {ls : List (Int × Int × Int)} {os : List Bool} {from_ to : Int} {fl : List Int} (h : endsB b ls os.length from_ to = false) : valB b ls os from_ to fl = -1 := by simp [valB, h]
theorem valB_len {b : Int} {ls : List (Int × Int × Int)} {os : List Bool} {from_ to : Int} {fl : List Int} (h : fl.length ≠ ls.length) : valB b ls os from_ to fl = -1 := by simp [valB, h]
theorem valB_fl {b : Int} {ls : List (Int × Int × Int)} {os : List Bool} {from_ to : Int} {fl : List Int} (k : Nat) (hk : k < ls.length) (h : flS ls os fl k = false) : valB b ls os from_ to fl = -1 := by
  have : flB ls os fl = false := decide_eq_false fun hh => by rw [hh k hk] at h; cases h
  simp [valB, this]
theorem valB_mid {b : Int} {ls : List (Int × Int × Int)} {os : List Bool} {from_ to : Int} {fl : List Int} (u : Nat) (hu : (u : Int) < b) (h1 : (u : Int) ≠ from_) (h2 : (u : Int) ≠ to) (h : outF ls fl u ls.length ≠ 0) : valB b ls os from_ to fl = -1 := by
  have : midB b ls from_ to fl = false := decide_eq_false fun hh => h (hh u (by omega) h1 h2)
  simp [valB, this]
theorem valB_yes {b : Int} {ls : List (Int × Int × Int)} {os : List Bool} {from_ to : Int} {fl : List Int} (h1 : endsB b ls os.length from_ to = true) (h2 : fl.length = ls.length) (h3 : ∀ k, k < ls.length → flS ls os fl k = true) (h4 : ∀ u : Nat, (u : Int) < b → (u : Int) ≠ from_ → (u : Int) ≠ to → outF ls fl u ls.length = 0) : valB b ls os from_ to fl = max (outF ls fl from_ ls.length) (-1) := by
  have e1 : flB ls os fl = true := decide_eq_true h3
  have e2 : midB b ls from_ to fl = true := decide_eq_true fun u hu => h4 u (by omega)
  simp [valB, h1, h2, e1, e2]
theorem flS_in {ls : List (Int × Int × Int)} {os : List Bool} {fl : List Int} {k : Nat} (h : flS ls os fl k = true) : (-(at3 ls k).2.2 ≤ at_ fl k ∧ at_ fl k ≤ (at3 ls k).2.2) ∧ (atB os k = false → at_ fl k = 0) := by
  simp only [flS, Bool.and_eq_true, Bool.or_eq_true, decide_eq_true_eq] at h
  refine ⟨h.1, fun ho => ?_⟩
  rcases h.2 with h2 | h2
  · rw [ho] at h2; cases h2
  · exact h2
theorem outF_inB {b : Int} {ls : List (Int × Int × Int)} (hv : netB b ls = true) {os : List Bool} {fl : List Int} (u : Int) (k : Nat) (hk : k ≤ ls.length) (h : ∀ j, j < k → flS ls os fl j = true) : -(999 * (k : Int)) ≤ outF ls fl u k ∧ outF ls fl u k ≤ 999 * k := by
  induction k with
  | zero => simp [outF]
  | succ k ih =>
    have := ih (by omega) (fun j hj => h j (by omega))
    have h1 := net_at hv k (by omega)
    have h2 := (flS_in (h k (by omega))).1
    rw [outF]
    split
    · omega
    · split <;> omega

set_option maxRecDepth 8000 in
set_option maxHeartbeats 2000000 in
theorem implFlowValue_any (b : Int) (A D E : Option Addr) (c d f : Nat) (ls : List (Int × Int × Int)) (os : List Bool) (from_ to : Int) (fl : List Int) (w : World) (h : Sl w w.heap.size 3 A ls.length (enc3 ls)) (g : Sl w w.heap.size 1 D os.length (encB os)) (s : Sl w w.heap.size 1 E fl.length (encI fl)) (hm : ls.length ≤ 1048576) (hn : os.length ≤ 1048576) (hp : fl.length ≤ 1048576) :
    Calls Tryd.prog 38 #[.agg #[.int .i64 b, .slice A ls.length c], .slice D os.length d, .int .i64 from_, .int .i64 to, .slice E fl.length f] w fun e w' => e = .returned (.int .i64 (valB b ls os from_ to fl)) ∧ Below w.heap.size w w' := by
  have bw := (Below.refl _ w).alloc (Nat.le_refl _) (.cells #[.int .i64 b, .slice A ls.length c] 50)
  have B0 := Blk.new w 50 #[.int .i64 b, .slice A ls.length c]
  cases h1 : endsB b ls os.length from_ to
  · have HQ := hide (valB_ends (fl := fl) h1)
    go_enter Tryd.func38, Tryd.ntmps38
    go_wp2_with fail
    refine (endsValid_any _ _ _ _ _ _ _ _ _ _ (h.to bw) hm).mono ?_
    rintro e w1 ⟨rfl, hb1⟩
    rw [h1]
    go_wp2_with fail
    go_ret
    exact ⟨ret_int HQ.out.symm, bw.then hb1⟩
  · by_cases h2 : fl.length = ls.length
    · have hE := ends_true h1
      have h1' := hide h1
      obtain ⟨nb, hnb⟩ : ∃ nb : Nat, b = nb := ⟨b.toNat, by have := (net_len hE.net).1; omega⟩
      subst hnb
      obtain ⟨nf, hnf⟩ : ∃ nf : Nat, from_ = nf := ⟨from_.toNat, by have := hE.f0; omega⟩
      subst hnf
      have h2b : ((fl.length : Int) != ls.length) = false := by simp [h2]
      have HE := hide hE
      have H2 := hide h2
      have hl1 : ls.length ≤ fl.length := by omega
      have hl2 : ls.length ≤ os.length := by have := hE.len; omega
      have nf1 := hE.f1
      have nf2 : nf < nb := by omega
      obtain ⟨⟨nb1, nb2⟩, nl⟩ := net_len hE.net
      have hmk := run_make_z (P := Tryd.prog) 36 3 _ 1 8 Tryd.underlying36 infoI rfl (by omega) nb nb (Nat.le_refl _) (by omega) (by omega)
      clear h2 hE
      go_enter Tryd.func38, Tryd.ntmps38
      go_wp2_with fail
      refine (endsValid_any _ _ _ _ _ _ _ _ _ _ (h.to bw) hm).mono ?_
      rintro e w1 ⟨rfl, hb1⟩
      rw [h1]
      have B1 := B0.to hb1
      obtain ⟨g0, g1⟩ := B1.two
      have K1 := bw.then hb1
      have HO := hide (own_made (w := w1) (e := 3) (size := 1) (n := nb) (cs := encI (outL ls fl nb 0)) (by simp [encI, outL]) (by unfold maxLen; omega))
      have HK := hide (K1.alloc K1.size (.cells (zrow (nb * 1)) 3))
      have HB := hide (B1.alloc (.cells (zrow (nb * 1)) 3))
      have HKw := hide K1
      have hz1 := K1.size
      have hz2 := B1.lt
      clear hb1 h1 bw B0 B1 K1
      simp only [Nat.mul_one] at HO HK HB
      go_wp2_with fail
      go_loopw [36] (fun i wr => ∃ k : Nat, k ≤ ls.length ∧ i = .int .i64 k ∧ Hid (∀ j, j < k → flS ls os fl j = true) ∧ Hid (wr.ownsRow w1.heap.size 3 1 (.slice (some ⟨w1.heap.size, 0, none⟩) nb nb) nb (encI (outL ls fl nb k))) ∧ Hid (Below w1.heap.size w1 wr)) (fun i _ => ls.length - (intOf i).toNat)
      case atStart => exact ⟨0, Nat.zero_le _, rfl, hide (fun j hj => absurd hj (by omega)), hide (by have := HO.out; rwa [part_zero, encI_len, outL_len, ← outL_zero ls fl nb] at this), hide ((Below.refl _ w1).alloc (Nat.le_refl _) _)⟩
      case round =>
        obtain ⟨k, hk, rfl, HF, HO1, HK1⟩ := hrel
        clear g0 g1 hmk
        by_cases hlt : k < ls.length
        · obtain ⟨b0, off, rfl, hb, hc0, hc1, hc2⟩ := h.three k hlt
          have KK := hide (HKw.out.trans (HK1.out.mono hz1))
          have d0 := (KK.out.cell (p := ⟨b0, off + k * 3, none⟩) hb).trans hc0
          have d1 := (KK.out.cell (p := ⟨b0, off + k * 3 + 1, none⟩) hb).trans hc1
          have d2 := (KK.out.cell (p := ⟨b0, off + k * 3 + 2, none⟩) hb).trans hc2
          obtain ⟨b1, off1, rfl, hbb, he⟩ := g.bool k (by omega)
          have he' := (KK.out.cell (p := ⟨b1, off1 + k, none⟩) hbb).trans he
          obtain ⟨b2, off2, rfl, hbc, hs⟩ := s.int k (by omega)
          have hs' := (KK.out.cell (p := ⟨b2, off2 + k, none⟩) hbc).trans hs
          have hz3 := KK.out.size
          have hs0 : b0 < wr.heap.size := by omega
          have hs1 : b1 < wr.heap.size := by omega
          have hs2 : b2 < wr.heap.size := by omega
          have hs3 : w1.heap.size < wr.heap.size := (HO1.out.lt _ rfl).2
          have n2 : b2 ≠ w1.heap.size := by omega
          obtain ⟨⟨m1, m2⟩, ⟨m3, m4⟩, m5, m6, m7⟩ := net_at HE.out.net k hlt
          obtain ⟨na, ea⟩ := Int.eq_ofNat_of_zero_le m1
          obtain ⟨nc, ec⟩ := Int.eq_ofNat_of_zero_le m3
          rw [ea] at d0
          rw [ec] at d1
          have EA := hide ea
          have EC := hide ec
          have hac : na ≠ nc := by omega
          have hca : nc ≠ na := by omega
          have l1 : na < nb := by omega
          have l2 : nc < nb := by omega
          have l3 : (na : Int) < nb := by omega
          have l4 : (nc : Int) < nb := by omega
          have o1 := HO1.out.cellAt na (by omega)
          have o2 := HO1.out.cellAt nc (by omega)
          rw [encI_at _ na (by rw [outL_len]; omega), outL_at _ _ _ _ _ l1] at o1
          rw [encI_at _ nc (by rw [outL_len]; omega), outL_at _ _ _ _ _ l2] at o2
          have z1 := HO1.out.frozenAt na
          have z2 := HO1.out.frozenAt nc
          have i0 : (0 : Int) ≤ k := by omega
          have i1 : (k : Int) < os.length := by omega
          have i2 : (k : Int) < fl.length := by omega
          have r1 := outF_inB HE.out.net (os := os) na k hk HF.out
          have r2 := outF_inB HE.out.net (os := os) nc k hk HF.out
          obtain ⟨r1, r3⟩ := r1
          obtain ⟨r2, r4⟩ := r2
          have HS : Hid (flS ls os fl k = true → ∀ j, j < k + 1 → flS ls os fl j = true) := fun hh j hj => by
            by_cases hjk : j = k
            · subst hjk; exact hh
            · exact HF.out j (by omega)
          clear hc0 hc1 hc2 he hs ea ec m1 m2 m3 m4 m5
          rcases flS_cases ls os fl k with ⟨q1, q⟩ | ⟨q1, q2, q⟩ | ⟨q1, q2, q3, q⟩ | ⟨q1, q2, q3, q4, q⟩ | ⟨q1, q2, q3, q4, q⟩
          · have Q := hide (valB_fl (b := nb) (from_ := nf) (to := to) k hlt q)
            clear q
            have u1 : decide (at_ fl k < -(at3 ls k).2.2) = true := by simp; omega
            go_wp2_with fail
            go_quiet (fail)
            go_wp2_with fail
            go_ret
            exact ⟨ret_int Q.out.symm, below_drewN (KK.out.alloc KK.out.size _) _⟩
          · have Q := hide (valB_fl (b := nb) (from_ := nf) (to := to) k hlt q)
            clear q
            have u1 : decide (at_ fl k < -(at3 ls k).2.2) = false := by simp; omega
            have u2 : decide ((at3 ls k).2.2 < at_ fl k) = true := by simp; omega
            go_wp2_with fail
            go_quiet (fail)
            go_wp2_with fail
            go_ret
            exact ⟨ret_int Q.out.symm, below_drewN (KK.out.alloc KK.out.size _) _⟩
          · skip
            have Q := hide q
            clear q
            rw [q3] at he'
            have u1 : decide (at_ fl k < -(at3 ls k).2.2) = false := by simp; omega
            have u2 : decide ((at3 ls k).2.2 < at_ fl k) = false := by simp; omega
            have HS2 := hide (outL_step (fl := fl) EA.out EC.out hac l1 l2)
            go_wp2_with fail
            go_quiet (fail)
            go_wp2_with fail
            go_region
            all_goals go_wp2_with fail
            go_region
            all_goals go_wp2_with fail
            go_roundw
            case rel =>
              refine ⟨k + 1, by omega, by go_num, hide (HS.out Q.out), hide ?_, hide ?_⟩
              · rw [← HS2.out]
                have hO := HO1.out.alloc (.cells #[.int .i64 na, .int .i64 nc, .int .i64 (at3 ls k).2.2] 76)
                have hO2 : ((wr.alloc (.cells #[.int .i64 na, .int .i64 nc, .int .i64 (at3 ls k).2.2] 76)).drewN (nq + 1)).ownsRow w1.heap.size 3 1 (.slice (some ⟨w1.heap.size, 0, none⟩) nb nb) nb (encI (outL ls fl nb k)) := hO
                exact ((hO2.stored na _).1.stored nc _).1
              · exact (((below_drewN (HK1.out.alloc HK1.out.size _) _).setCell (Nat.le_refl _) _).setCell (Nat.le_refl _) _).drew
            case measure => simp [intOf]; omega
          · skip
            have Q := hide q
            clear q
            rw [q3] at he'
            have u1 : decide (at_ fl k < -(at3 ls k).2.2) = false := by simp; omega
            have u2 : decide ((at3 ls k).2.2 < at_ fl k) = false := by simp; omega
            have HS2 := hide (outL_step (fl := fl) EA.out EC.out hac l1 l2)
            go_wp2_with fail
            go_quiet (fail)
            go_wp2_with fail
            go_region
            all_goals go_wp2_with fail
            go_region
            all_goals go_wp2_with fail
            go_roundw
            case rel =>
              refine ⟨k + 1, by omega, by go_num, hide (HS.out Q.out), hide ?_, hide ?_⟩
              · rw [← HS2.out]
                have hO := HO1.out.alloc (.cells #[.int .i64 na, .int .i64 nc, .int .i64 (at3 ls k).2.2] 76)
                have hO2 : ((wr.alloc (.cells #[.int .i64 na, .int .i64 nc, .int .i64 (at3 ls k).2.2] 76)).drewN (nq + 1)).ownsRow w1.heap.size 3 1 (.slice (some ⟨w1.heap.size, 0, none⟩) nb nb) nb (encI (outL ls fl nb k)) := hO
                exact ((hO2.stored na _).1.stored nc _).1
              · exact (((below_drewN (HK1.out.alloc HK1.out.size _) _).setCell (Nat.le_refl _) _).setCell (Nat.le_refl _) _).drew
            case measure => simp [intOf]; omega
          · have Q := hide (valB_fl (b := nb) (from_ := nf) (to := to) k hlt q)
            clear q
            rw [q3] at he'
            have u1 : decide (at_ fl k < -(at3 ls k).2.2) = false := by simp; omega
            have u2 : decide ((at3 ls k).2.2 < at_ fl k) = false := by simp; omega
            go_wp2_with fail
            go_quiet (fail)
            go_wp2_with fail
            go_ret
            exact ⟨ret_int Q.out.symm, below_drewN (KK.out.alloc KK.out.size _) _⟩
        · obtain rfl : k = ls.length := by omega
          have KK := hide (HKw.out.trans (HK1.out.mono hz1))
          go_wp2_with fail
          go_loop [97] (fun i => ∃ u : Nat, u ≤ nb ∧ i = .int .i64 u ∧ Hid (∀ v : Nat, v < u → (v : Int) ≠ nf → (v : Int) ≠ to → outF ls fl v ls.length = 0)) (fun i => nb - (intOf i).toNat)
          case atStart => exact ⟨0, Nat.zero_le _, rfl, hide (fun v hv => absurd hv (by omega))⟩
          case round =>
            obtain ⟨u, hu, rfl, HM⟩ := hrel
            by_cases hult : u < nb
            · have o1 := HO1.out.cellAt u (by omega)
              rw [encI_at _ u (by rw [outL_len]; omega), outL_at _ _ _ _ _ hult] at o1
              have HS : Hid (((u : Int) ≠ nf → (u : Int) ≠ to → outF ls fl u ls.length = 0) → ∀ v : Nat, v < u + 1 → (v : Int) ≠ nf → (v : Int) ≠ to → outF ls fl v ls.length = 0) := fun hh v hv => by
                by_cases hvu : v = u
                · subst hvu; exact hh
                · exact HM.out v (by omega)
              have i0 : (0 : Int) ≤ u := by omega
              have i1 : (u : Int) < nb := by omega
              by_cases c1 : outF ls fl u ls.length = 0
              · have C1 := hide c1
                have e1 : (outF ls fl u ls.length != 0) = false := by simp [c1]
                clear c1
                go_wp2_with fail
                go_round
                case rel => exact ⟨u + 1, by omega, by go_num, hide (HS.out fun _ _ => C1.out)⟩
                case measure => simp [intOf]; omega
              · have C1 := hide c1
                have e1 : (outF ls fl u ls.length != 0) = true := by simp [c1]
                clear c1
                by_cases c2 : u = nf
                · have C2 := hide c2
                  have e2 : ((u : Int) != nf) = false := by simp [c2]
                  clear c2
                  go_wp2_with fail
                  go_round
                  case rel => exact ⟨u + 1, by omega, by go_num, hide (HS.out fun h _ => absurd (by rw [C2.out]) h)⟩
                  case measure => simp [intOf]; omega
                · have C2 := hide c2
                  have e2 : ((u : Int) != nf) = true := by simp; omega
                  clear c2
                  by_cases c3 : (u : Int) = to
                  · have C3 := hide c3
                    have e3 : ((u : Int) != to) = false := by simp [c3]
                    clear c3
                    go_wp2_with fail
                    go_round
                    case rel => exact ⟨u + 1, by omega, by go_num, hide (HS.out fun _ h => absurd C3.out h)⟩
                    case measure => simp [intOf]; omega
                  · have e3 : ((u : Int) != to) = true := by simp [c3]
                    have Q := hide (valB_mid (os := os) (from_ := nf) (to := to) u i1 (by have := C2.out; omega) c3 C1.out)
                    clear c3
                    go_wp2_with fail
                    go_ret
                    exact ⟨ret_int Q.out.symm, KK.out⟩
            · have o1 := HO1.out.cellAt nf (by omega)
              rw [encI_at _ nf (by rw [outL_len]; omega), outL_at _ _ _ _ _ nf2] at o1
              have i0 : (0 : Int) ≤ nf := by omega
              have Q := hide (valB_yes (os := os) h1'.out H2.out HF.out (fun v hv => HM.out v (by omega)))
              go_wp2_with fail
              all_goals
                go_ret
                exact ⟨ret_int (by rw [Q.out]; omega), KK.out⟩
    · have HQ := hide (valB_len (b := b) (os := os) (from_ := from_) (to := to) h2)
      have h2b : ((fl.length : Int) != ls.length) = true := by simp; omega
      go_enter Tryd.func38, Tryd.ntmps38
      go_wp2_with fail
      refine (endsValid_any _ _ _ _ _ _ _ _ _ _ (h.to bw) hm).mono ?_
      rintro e w1 ⟨rfl, hb1⟩
      rw [h1]
      obtain ⟨g0, g1⟩ := (B0.to hb1).two
      have K1 := bw.then hb1
      go_wp2_with fail
      go_ret
      exact ⟨ret_int HQ.out.symm, K1⟩

end Go.Proofs.YtijnahflfbjgiaaDoor
