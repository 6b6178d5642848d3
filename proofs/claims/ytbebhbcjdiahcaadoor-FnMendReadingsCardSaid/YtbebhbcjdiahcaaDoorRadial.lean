/-
  Networks that are radial: what the reference's function computes.
-/
import Derived.Test.YtbebhbcjdiahcaaDoorBuses
namespace Go.Proofs.YtbebhbcjdiahcaaDoor
open Go.RowKit
set_option linter.unusedVariables false

/-- A bus with a feed. -/
def FeedP (bs : List (Int × Int)) (x : Int) : Prop := ∃ i : Nat, i < bs.length ∧ x = i ∧ 0 < (at2 bs i).1
/-- No island has two feeds. -/
def OneF (ls : List (Int × Int × Int)) (on : List Bool) (bs : List (Int × Int)) : Prop := ∀ f g, FeedP bs f → FeedP bs g → Con ls (onP on) f g → f = g
noncomputable def radB (b : Int) (ls : List (Int × Int × Int)) (on : List Bool) (bs : List (Int × Int)) : Bool :=
  @decide (fedB b ls on.length bs = true ∧ ¬ Cyc ls (onP on) ∧ OneF ls on bs) (Classical.propDecidable _)
theorem radB_iff (b : Int) (ls : List (Int × Int × Int)) (on : List Bool) (bs : List (Int × Int)) : radB b ls on bs = true ↔ fedB b ls on.length bs = true ∧ ¬ Cyc ls (onP on) ∧ OneF ls on bs := @decide_eq_true_iff _ (Classical.propDecidable _)
theorem radB_no {b : Int} {ls : List (Int × Int × Int)} {on : List Bool} {bs : List (Int × Int)} (h : ¬ (fedB b ls on.length bs = true ∧ ¬ Cyc ls (onP on) ∧ OneF ls on bs)) : radB b ls on bs = false := @decide_eq_false _ (Classical.propDecidable _) h
theorem radB_yes {b : Int} {ls : List (Int × Int × Int)} {on : List Bool} {bs : List (Int × Int)} (h : fedB b ls on.length bs = true ∧ ¬ Cyc ls (onP on) ∧ OneF ls on bs) : radB b ls on bs = true := @decide_eq_true _ (Classical.propDecidable _) h
theorem fedB_true {b : Int} {ls : List (Int × Int × Int)} {n : Nat} {bs : List (Int × Int)} (h : fedB b ls n bs = true) : netB b ls = true ∧ n = ls.length ∧ ((bs.length : Int) = b) ∧ ∀ j, j < bs.length → busOk (at2 bs j) = true := by
  simp only [fedB, Bool.and_eq_true] at h
  obtain ⟨h1, h2⟩ := h
  obtain ⟨h3, h4, h5⟩ := busB_true h2
  rw [stB_yes h3] at h1
  exact ⟨h3, of_decide_eq_true h1, h4, h5⟩
/-- Pairs of feeds that have been looked at. -/
def PairsF (ls : List (Int × Int × Int)) (on : List Bool) (bs : List (Int × Int)) (k j : Nat) : Prop := ∀ a b : Nat, (b < k ∨ (b = k ∧ a < j)) → a < b → 0 < (at2 bs b).1 → 0 < (at2 bs a).1 → ¬ Con ls (onP on) a b
theorem PairsF.next {ls : List (Int × Int × Int)} {on : List Bool} {bs : List (Int × Int)} {k j : Nat} (h : PairsF ls on bs k j) (hn : 0 < (at2 bs k).1 → 0 < (at2 bs j).1 → ¬ Con ls (onP on) j k) : PairsF ls on bs k (j + 1) := by
  intro a b hab hlt hb ha
  by_cases he : b = k ∧ a = j
  · obtain ⟨rfl, rfl⟩ := he; exact hn hb ha
  · exact h a b (by omega) hlt hb ha
theorem PairsF.row {ls : List (Int × Int × Int)} {on : List Bool} {bs : List (Int × Int)} {k : Nat} (h : PairsF ls on bs k k) : PairsF ls on bs (k + 1) 0 := fun a b hab hlt => h a b (by omega) hlt
theorem PairsF.one {ls : List (Int × Int × Int)} {on : List Bool} {bs : List (Int × Int)} {nb : Nat} (hb : bs.length = nb) (h : PairsF ls on bs nb 0) : OneF ls on bs := by
  rintro f g ⟨i, hi, rfl, h1⟩ ⟨j, hj, rfl, h2⟩ hc
  rcases Nat.lt_trichotomy i j with hl | hl | hl
  · exact absurd hc (h i j (by omega) hl h2 h1)
  · rw [hl]
  · exact absurd hc.sym (h j i (by omega) hl h1 h2)

set_option maxHeartbeats 2000000 in
theorem radial_any (b : Int) (A D F : Option Addr) (c d f n : Nat) (ls : List (Int × Int × Int)) (on : List Bool) (bs : List (Int × Int)) (w : World) (h : Sl w w.heap.size 3 A ls.length (enc3 ls)) (g : Sl w w.heap.size 1 D n (encB on)) (hon : on.length = n) (s : Sl w w.heap.size 2 F bs.length (enc2 bs)) (hm : ls.length ≤ 1048576) (hn : bs.length ≤ 1048576) :
    Calls Tryd.prog 10 #[.agg #[.int .i64 b, .slice A ls.length c], .slice D n d, .slice F bs.length f] w fun e w' => e = .returned (.bool (radB b ls on bs)) ∧ Below w.heap.size w w' := by
  have bw := (Below.refl _ w).alloc (Nat.le_refl _) (.cells #[.int .i64 b, .slice A ls.length c] 25)
  have B0 := hide (Blk.new w 25 #[.int .i64 b, .slice A ls.length c])
  have H0 := hide h
  have G0 := hide g
  have S0 := hide s
  have K0 := hide bw
  have H1 := hide (h.to bw)
  have S1 := hide (s.to bw)
  clear h s bw g
  cases hf : fedB b ls n bs
  · have HQ := hide (radB_no (b := b) (ls := ls) (on := on) (bs := bs) (fun h => by rw [hon, hf] at h; cases h.1))
    go_enter Tryd.func10, Tryd.ntmps10
    go_wp2_with fail
    refine (l5Ok_any _ _ _ _ _ _ _ _ _ _ _ H1.out S1.out hm hn).mono ?_
    rintro e w1 ⟨rfl, hb1⟩
    rw [hf]
    have K1 := hide (K0.out.then hb1)
    clear hb1
    go_wp2_with fail
    go_ret
    exact ⟨ret_bool HQ.out.symm, K1.out⟩
  · obtain ⟨hv, hnl, hbl, hok⟩ := fedB_true hf
    subst hnl
    obtain ⟨nb, rfl⟩ : ∃ nb : Nat, b = nb := ⟨bs.length, hbl.symm⟩
    have HBN := hide (show bs.length = nb by omega)
    have hbn1 : bs.length ≤ nb := by omega
    have hbn2 : nb ≤ bs.length := by omega
    obtain ⟨⟨n1, n2⟩, n3⟩ := net_len hv
    have HV := hide hv
    have HF := hide hf
    clear hok hbl hv
    go_enter Tryd.func10, Tryd.ntmps10
    go_wp2_with fail
    refine (l5Ok_any _ _ _ _ _ _ _ _ _ _ _ H1.out S1.out hm hn).mono ?_
    rintro e w1 ⟨rfl, hb1⟩
    rw [hf]
    have K1 := hide (K0.out.then hb1)
    have B1 := hide (B0.out.to hb1)
    have H2 := hide (H0.out.to K1.out)
    have G2 := hide (G0.out.to K1.out)
    obtain ⟨g0, g1⟩ := B1.out.two
    clear hb1 K0 B0 H1 S1 hf
    go_wp2_with fail
    refine (hasCycleS_any nb _ _ _ _ ls on w1 H2.out G2.out hon HV.out).mono ?_
    rintro e w2 ⟨rfl, hb2⟩
    have K2 := hide (K1.out.then hb2)
    have B2 := hide (B1.out.to hb2)
    clear hb2 K1 B1 H2 G2 g0 g1
    cases hcy : cycB ls on
    · have HC : Hid (¬ Cyc ls (onP on)) := hide fun hc => by rw [cycB_yes hc] at hcy; cases hcy
      obtain ⟨g0, g1⟩ := B2.out.two
      clear hcy
      go_wp2_with fail
      go_loopw [7] (fun x wr => ∃ k : Nat, k ≤ nb ∧ x = .int .i64 k ∧ Hid (PairsF ls on bs k 0) ∧ Hid (Blk wr w.heap.size 25 #[.int .i64 nb, .slice A ls.length c]) ∧ Hid (Below w.heap.size w wr)) (fun x _ => nb - (intOf x).toNat)
      case atStart => exact ⟨0, Nat.zero_le _, rfl, hide (fun a b h hab => absurd h (by omega)), B2, K2⟩
      case round =>
        clear K2 B2 g0 g1
        obtain ⟨k, hk, rfl, HP, HB, HK⟩ := hrel
        obtain ⟨g0, g1⟩ := HB.out.two
        by_cases hlt : k < nb
        · go_wp2_with fail
          go_loopw [8] (fun x wr => ∃ j : Nat, j ≤ k ∧ x = .int .i64 j ∧ Hid (PairsF ls on bs k j) ∧ Hid (Blk wr w.heap.size 25 #[.int .i64 nb, .slice A ls.length c]) ∧ Hid (Below w.heap.size w wr)) (fun x _ => k - (intOf x).toNat)
          case atStart => exact ⟨0, Nat.zero_le _, rfl, HP, HB, HK⟩
          case round =>
            clear HP HB HK g0 g1
            obtain ⟨j, hj, rfl, HP, HB, HK⟩ := hrel
            obtain ⟨g0, g1⟩ := HB.out.two
            by_cases hjk : j < k
            · obtain ⟨b0, o0, rfl, hb, hd0, hd1⟩ := S0.out.two k (by omega)
              obtain ⟨_, _, he, _, he0, he1⟩ := S0.out.two j (by omega)
              cases he
              have d0 := (HK.out.cell (p := ⟨b0, o0 + k * 2, none⟩) hb).trans hd0
              have c0 := (HK.out.cell (p := ⟨b0, o0 + j * 2, none⟩) hb).trans he0
              have i0 : (0 : Int) ≤ k := by omega
              have i1 : (k : Int) < bs.length := by omega
              have j0 : (0 : Int) ≤ j := by omega
              have j1 : (j : Int) < bs.length := by omega
              have H3 := hide (H0.out.to HK.out)
              have G3 := hide (G0.out.to HK.out)
              clear hd0 hd1 he0 he1
              by_cases hfk : 0 < (at2 bs k).1
              · have hg1 : decide (0 < (at2 bs k).1) = true := by simp [hfk]
                by_cases hfj : 0 < (at2 bs j).1
                · have hg2 : decide (0 < (at2 bs j).1) = true := by simp [hfj]
                  go_wp2_with fail
                  refine (sameIsland_any nb j k _ _ _ _ ls on _ H3.out G3.out hon HV.out (by omega) (by omega)).mono ?_
                  rintro e w3 ⟨rfl, hb3⟩
                  have K3 := hide (HK.out.then hb3)
                  have B3 := hide (HB.out.to hb3)
                  have HI := hide (conB_iff ls on j k)
                  clear hb3 g0 g1
                  cases hcj : conB ls on j k
                  · have HCJ := hide hcj
                    clear hcj
                    go_wp2_with fail
                    go_roundw
                    case rel => exact ⟨j + 1, by omega, by go_num, hide (HP.out.next fun _ _ hc => by
                        have := HI.out.2 hc
                        rw [HCJ.out] at this; cases this), B3, K3⟩
                    case measure => simp [intOf]; omega
                  · have HCJ := hide hcj
                    have HQ := hide (radB_no (b := nb) (ls := ls) (on := on) (bs := bs) (fun h => by
                      have := h.2.2 j k ⟨j, by omega, rfl, hfj⟩ ⟨k, by omega, rfl, hfk⟩ (HI.out.1 HCJ.out)
                      omega))
                    clear hcj
                    go_wp2_with fail
                    go_ret
                    exact ⟨ret_bool HQ.out.symm, K3.out⟩
                · have hg2 : decide (0 < (at2 bs j).1) = false := by simp; omega
                  go_wp2_with fail
                  go_roundw
                  case rel => exact ⟨j + 1, by omega, by go_num, hide (HP.out.next fun _ h => absurd h hfj), HB, HK⟩
                  case measure => simp [intOf]; omega
              · have hg1 : decide (0 < (at2 bs k).1) = false := by simp; omega
                go_wp2_with fail
                go_roundw
                case rel => exact ⟨j + 1, by omega, by go_num, hide (HP.out.next fun h => absurd h hfk), HB, HK⟩
                case measure => simp [intOf]; omega
            · obtain rfl : j = k := by omega
              go_wp2_with fail
              go_roundw
              case rel => exact ⟨j + 1, by omega, by go_num, hide HP.out.row, HB, HK⟩
              case measure => simp [intOf]; omega
        · obtain rfl : k = nb := by omega
          have HQ := hide (radB_yes (b := k) (ls := ls) (on := on) (bs := bs) ⟨by rw [hon]; exact HF.out, HC.out, HP.out.one HBN.out⟩)
          go_wp2_with fail
          go_ret
          exact ⟨ret_bool HQ.out.symm, HK.out⟩
    · have HC := hide ((cycB_iff ls on).1 hcy)
      have HQ := hide (radB_no (b := nb) (ls := ls) (on := on) (bs := bs) (fun h => h.2.1 HC.out))
      go_wp2_with fail
      go_ret
      exact ⟨ret_bool HQ.out.symm, K2.out⟩

end Go.Proofs.YtbebhbcjdiahcaaDoor
