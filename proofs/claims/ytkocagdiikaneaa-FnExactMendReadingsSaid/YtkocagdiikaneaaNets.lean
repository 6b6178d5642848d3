/-
  Contracts of the laws' own functions over networks and states: copying, comparing, sizes. The rows of false marks that make gives.
-/
import Derived.Test.YtkocagdiikaneaaTriples
import Derived.Test.YtkocagdiikaneaaNet
namespace Go.Proofs.Ytkocagdiikaneaa
open Go.RowKit
set_option linter.unusedVariables false

/-! ### a row of marks that is made and then filled -/
def frow (m : Nat) : Array Value := Array.replicate m (.bool false)
theorem madeCells_false (m : Nat) : madeCells #[.bool false] m = frow m := by
  apply Array.ext
  · simp [madeCells, frow]
  · intro i h1 h2
    simp only [madeCells, Array.getElem_map, frow, Array.getElem_replicate, Array.getElem_range]
    have : i % 1 < 1 := Nat.mod_lt _ (by omega)
    simp [Nat.mod_one]
theorem run_make_f {P : Program} (t e : TypeId) (ht : P.underlying t = some (.slice e)) (hinfo : (P.info? e).map (fun i => (i.zero, i.size, i.bytes)) = some (some (.bool false), 1, 1))
    (n c : Nat) (hnc : n ≤ c) (hbytes : 1 * c ≤ 281474976710656) (h63 : c ≤ 9223372036854775807) (w : World) :
    (Instr.makeSlice t (.int .i64 (n : Int)) (.int .i64 (c : Int))).run P w = .ok (.slice (some ⟨w.heap.size, 0, none⟩) n c) (w.alloc (.cells (frow c) e)) := by
  obtain ⟨i, hi, hzz⟩ := Option.map_eq_some_iff.1 hinfo
  simp only [Prod.mk.injEq] at hzz
  obtain ⟨hzo, hz1, hz2⟩ := hzz
  have hb' : (i.bytes : Int) * (c : Int) ≤ 281474976710656 := by rw [hz2]; omega
  have hr := run_make (P := P) w t e i (.bool false) ht hi hzo .i64 .i64 n c (by omega) (by omega) hb' (by omega)
  simp only [Int.toNat_natCast, hz1, Nat.mul_one] at hr
  rw [show (Value.bool false).cells = #[.bool false] from rfl, madeCells_false] at hr
  exact hr
def partF (cs : List Value) (k : Nat) : List Value := cs.take k ++ List.replicate (cs.length - k) (.bool false)
theorem partF_zero (cs : List Value) : partF cs 0 = (frow cs.length).toList := by simp [partF, frow]
theorem partF_all (cs : List Value) (k : Nat) (hk : cs.length ≤ k) : partF cs k = cs := by simp [partF, List.take_of_length_le hk, Nat.sub_eq_zero_of_le hk]
theorem partF_set (cs : List Value) (k : Nat) (u : Value) (h : cs[k]? = some u) : (partF cs k).set k u = partF cs (k + 1) := by
  have hk : k < cs.length := by
    rcases Nat.lt_or_ge k cs.length with h1 | h1
    · exact h1
    · rw [List.getElem?_eq_none h1] at h; cases h
  have hu : cs[k] = u := by rw [List.getElem?_eq_getElem hk] at h; exact Option.some.inj h
  unfold partF
  rw [List.set_append]
  have hl : (cs.take k).length = k := by simp; omega
  rw [hl, if_neg (by omega), Nat.sub_self, List.take_succ_eq_append_getElem hk, hu, List.append_assoc]
  congr 1
  rw [show cs.length - k = (cs.length - (k + 1)) + 1 from by omega, List.replicate_succ]
  rfl
theorem own_madeF {w : World} {e : TypeId} {n : Nat} {cs : List Value} (hl : cs.length = n) (hm : n ≤ maxLen) :
    (w.alloc (.cells (frow n) e)).ownsRow w.heap.size e 1 (.slice (some ⟨w.heap.size, 0, none⟩) n n) n (partF cs 0) := by
  rw [partF_zero, hl]
  exact World.ownsRow_lit w _ n (Nat.le_refl _) hm (by simp [frow])

theorem infoB : (Try.prog.info? 4).map (fun i => (i.zero, i.size, i.bytes)) = some (some (.bool false), 1, 1) := by kernel_rfl

theorem toBoolS_any (A : Option Addr) (c : Nat) (xs : List Bool) (w : World) (h : Sl w w.heap.size 1 A xs.length (encB xs)) (hm : xs.length ≤ 1048576) :
    Calls Try.prog 10 #[.slice A xs.length c] w fun e w' => ∃ D d, e = .returned (.slice D xs.length d) ∧ w'.ownsRow w.heap.size 4 1 (.slice D xs.length d) xs.length (encB xs) ∧ Below w.heap.size w w' := by
  have hmk := run_make_f (P := Try.prog) 25 4 Try.underlying25 infoB xs.length xs.length (Nat.le_refl _) (by omega) (by omega)
  have HO := hide (own_madeF (w := w) (e := 4) (n := xs.length) (cs := encB xs) (by simp [encB]) (by unfold maxLen; omega))
  go_enter Try.func10, Try.ntmps10
  go_wp2
  go_loopw [4] (fun i wr => ∃ k : Nat, k ≤ xs.length ∧ i = .int .i64 k ∧ wr.ownsRow w.heap.size 4 1 (.slice (some ⟨w.heap.size, 0, none⟩) xs.length xs.length) xs.length (partF (encB xs) k) ∧ Below w.heap.size w wr) (fun i _ => xs.length - (intOf i).toNat)
  case atStart => exact ⟨0, Nat.zero_le _, rfl, by simpa using HO.out, (Below.refl _ _).alloc (Nat.le_refl _) _⟩
  case round =>
    obtain ⟨k, hk, rfl, hown, hb⟩ := hrel
    clear hmk
    by_cases hlt : k < xs.length
    · obtain ⟨b, off, rfl, hbb, hc⟩ := h.bool k hlt
      have hc' := (hb.cell (p := ⟨b, off + k, none⟩) hbb).trans hc
      have hf := hown.frozenAt k
      obtain ⟨u, hs⟩ := own_cell hown k (by omega)
      have HO2 := hide hown
      have HB := hide hb
      clear hown hb
      go_wp2
      go_roundw
      case rel =>
        refine ⟨k + 1, by omega, by go_num, ?_, HB.out.setCell (Nat.le_refl _) _⟩
        rw [← partF_set _ _ _ (encB_at xs k hlt)]
        exact (HO2.out.stored k _).1
      case measure => simp [intOf]; omega
    · go_wp2
      go_ret
      rw [partF_all _ _ (by simp [encB]; omega)] at hown
      exact ⟨_, _, rfl, hown, hb⟩

theorem eqBoolS_any (A D : Option Addr) (c d : Nat) (xs ys : List Bool) (w : World) (h : Sl w w.heap.size 1 A xs.length (encB xs)) (g : Sl w w.heap.size 1 D ys.length (encB ys)) (hm : xs.length ≤ 1048576) :
    Calls Try.prog 16 #[.slice A xs.length c, .slice D ys.length d] w fun e w' => e = .returned (.bool (eqB xs ys)) ∧ Below w.heap.size w w' := by
  by_cases hl : xs.length = ys.length
  · have hl1 : ((xs.length : Int) != ys.length) = false := by simp [hl]
    have HL := hide hl
    have hl2 : xs.length ≤ ys.length := by omega
    clear hl
    go_enter Try.func16, Try.ntmps16
    go_wp2
    go_loopw [5] (fun i wr => ∃ k : Nat, k ≤ xs.length ∧ i = .int .i64 k ∧ (∀ j, j < k → atB xs j = atB ys j) ∧ Below w.heap.size w wr) (fun i _ => xs.length - (intOf i).toNat)
    case atStart => exact ⟨0, Nat.zero_le _, rfl, fun j hj => absurd hj (by omega), Below.refl _ _⟩
    case round =>
      obtain ⟨k, hk, rfl, hall, hb⟩ := hrel
      have HA := hide hall
      clear hall
      by_cases hlt : k < xs.length
      · obtain ⟨b, off, rfl, hbb, hc⟩ := h.bool k hlt
        obtain ⟨b2, off2, rfl, hbb2, hc2⟩ := g.bool k (by omega)
        have hc' := (hb.cell (p := ⟨b, off + k, none⟩) hbb).trans hc
        have hc2' := (hb.cell (p := ⟨b2, off2 + k, none⟩) hbb2).trans hc2
        have hlt2 : k < ys.length := by omega
        have HB := hide hb
        clear hb
        by_cases he : atB xs k = atB ys k
        · have he' : (!(atB xs k == atB ys k)) = false := by simp [he]
          have HE := hide he
          clear he
          go_wp2
          go_quiet (fail)
          go_wp2
          go_roundw
          case rel =>
            refine ⟨k + 1, by omega, by go_num, fun j hj => ?_, ?_⟩
            · by_cases hjk : j = k
              · subst hjk; exact HE.out
              · exact HA.out j (by omega)
            · first | exact HB.out | exact HB.out.drew | exact below_drewN HB.out _
          case measure => simp [intOf]; omega
        · have he' : (!(atB xs k == atB ys k)) = true := by simp [he]
          have HE := hide he
          clear he
          go_wp2
          go_quiet (fail)
          go_wp2
          go_ret
          refine ⟨ret_bool (eqB_ne_at k HE.out).symm, ?_⟩
          first | exact HB.out | exact HB.out.drew | exact below_drewN HB.out _
      · go_wp2
        go_ret
        refine ⟨ret_bool ?_, hb⟩
        have : xs = ys := same_of_atB HL.out fun j hj => HA.out j (by omega)
        simp [eqB, this]
  · have hl1 : ((xs.length : Int) != ys.length) = true := by simp; omega
    have HL := hide hl
    clear hl
    go_enter Try.func16, Try.ntmps16
    go_wp2
    go_ret
    refine ⟨ret_bool ?_, Below.refl _ _⟩
    unfold eqB
    symm
    simp
    rintro rfl
    exact HL.out rfl

theorem szNet_any (b left : Int) (A : Option Addr) (c n : Nat) (w : World) (hn : n ≤ 9223372036854775807) (h0 : 0 ≤ left) (h1 : left ≤ 1048576) :
    Calls Try.prog 6 #[.agg #[.int .i64 b, .slice A n c], .int .i64 left] w fun e w' => e = .returned (.int .i64 (szOf n left)) ∧ Below w.heap.size w w' := by
  by_cases h : left < n
  · have hs : szOf n left = -1 := by unfold szOf; rw [if_pos h]
    go_enter Try.func6, Try.ntmps6
    go_wp2_with fail
    refine (szLineS_any _ _ _ _ _ hn h0 h1).mono ?_
    rintro e w' ⟨rfl, rfl⟩
    rw [hs]
    have HS := hide hs
    clear hs
    go_wp2_with fail
    go_ret
    exact ⟨ret_int HS.out.symm, (Below.refl _ _).alloc (Nat.le_refl _) _⟩
  · have hs : szOf n left = left - n := by unfold szOf; rw [if_neg h]
    go_enter Try.func6, Try.ntmps6
    go_wp2_with fail
    refine (szLineS_any _ _ _ _ _ hn h0 h1).mono ?_
    rintro e w' ⟨rfl, rfl⟩
    rw [hs]
    have HS := hide hs
    clear hs
    go_wp2_with fail
    go_ret
    exact ⟨ret_int HS.out.symm, (Below.refl _ _).alloc (Nat.le_refl _) _⟩

/-- A network that the call has made. -/
def MadeNet (b : Int) (ls : List (Int × Int × Int)) (w : World) (e : Ending) (w' : World) : Prop :=
  ∃ D d, e = .returned (.agg #[.int .i64 b, .slice D ls.length d]) ∧ w'.ownsRow w.heap.size 76 3 (.slice D ls.length d) ls.length (enc3 ls) ∧ Below w.heap.size w w'

theorem toNet_any (b : Int) (A : Option Addr) (c : Nat) (ls : List (Int × Int × Int)) (w : World) (h : Sl w w.heap.size 3 A ls.length (enc3 ls)) (hm : ls.length ≤ 1048576) :
    Calls Try.prog 9 #[.agg #[.int .i64 b, .slice A ls.length c]] w (MadeNet b ls w) := by
  go_enter Try.func9, Try.ntmps9
  go_wp2_with fail
  have b0 := ((Blk.new w 24 #[.int .i64 b, .slice A ls.length c]).alloc (.cells #[.int .i64 0, .slice none 0 0] 33)).alloc (.cells #[.int .i64 b, .slice none 0 0] 33)
  have b1 := (Blk.new (w.alloc (.cells #[.int .i64 b, .slice A ls.length c] 24)) 33 #[.int .i64 0, .slice none 0 0]).alloc (.cells #[.int .i64 b, .slice none 0 0] 33)
  have b2 := Blk.new ((w.alloc (.cells #[.int .i64 b, .slice A ls.length c] 24)).alloc (.cells #[.int .i64 0, .slice none 0 0] 33)) 33 #[.int .i64 b, .slice none 0 0]
  simp only [World.size_alloc] at b1 b2
  have bw := ((((Below.refl _ w).alloc (Nat.le_refl _) (.cells #[.int .i64 b, .slice A ls.length c] 24)).alloc (by simp) (.cells #[.int .i64 0, .slice none 0 0] 33)).alloc (by simp; omega) (.cells #[.int .i64 b, .slice none 0 0] 33))
  refine (toLineS_any _ _ _ _ (h.to bw) hm).mono ?_
  rintro e w1 ⟨D, d, rfl, ho, hb⟩
  obtain ⟨p0, p1⟩ := (b1.to hb).two
  obtain ⟨q0, q1⟩ := (b2.to hb).two
  have p3 := (b1.to hb).frozen 0
  have p4 := (b1.to hb).frozen 1
  have q3 := (b2.to hb).frozen 1
  have HO := hide ho
  have HB := hide (bw.then hb)
  clear ho hb b0 b1 b2 bw
  go_wp2_with fail
  refine bodyPost_ret (v := .agg #[.int .i64 b, .slice D ls.length d]) (by simp [results, Try.results9, go_sem, p0, p1]) rfl ⟨D, d, rfl, ?_, ?_⟩
  · refine own_mono (ownsRow_setCell_below (ownsRow_setCell_below (ownsRow_setCell_below HO.out ?_ _) ?_ _) ?_ _) ?_ <;> simp <;> omega
  · exact ((HB.out.setCell (by simp; omega) _).setCell (by simp) _).setCell (by simp) _

theorem eqNet_any (b : Int) (A D : Option Addr) (c d : Nat) (ls : List (Int × Int × Int)) (w : World) (h : Sl w w.heap.size 3 A ls.length (enc3 ls)) (g : Sl w w.heap.size 3 D ls.length (enc3 ls)) (hm : ls.length ≤ 1048576) :
    Calls Try.prog 15 #[.agg #[.int .i64 b, .slice A ls.length c], .agg #[.int .i64 b, .slice D ls.length d]] w fun e w' => e = .returned (.bool true) ∧ Below w.heap.size w w' := by
  have bw := (((Below.refl _ w).alloc (Nat.le_refl _) (.cells #[.int .i64 b, .slice A ls.length c] 33)).alloc (by simp) (.cells #[.int .i64 b, .slice D ls.length d] 33))
  go_enter Try.func15, Try.ntmps15
  go_wp2_with fail
  all_goals (try go_quiet (fail))
  all_goals go_wp2_with fail
  refine (eqLineS_any _ _ _ _ _ _ _ (h.to bw) (g.to bw) hm).mono ?_
  rintro e w1 ⟨rfl, hb1⟩
  rw [eq3_self]
  have HB := hide (bw.then hb1)
  clear hb1 bw
  go_wp2_with fail
  go_ret
  exact ⟨rfl, HB.out⟩

end Go.Proofs.Ytkocagdiikaneaa
