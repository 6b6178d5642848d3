/-
  The flow of a line: that the reference's function ends, and within which bounds.
-/
import Derived.Test.YtbebhbcjdiahcaaDoorRank
import Derived.Test.YtbebhbcjdiahcaaDoorParS
import Derived.Test.YtbebhbcjdiahcaaDoorBut
import Derived.BigRegion
import Derived.Deep.RegionHeld3
namespace Go.Proofs.YtbebhbcjdiahcaaDoor
open Go.RowKit
set_option linter.unusedVariables false

theorem specOtherEndK_any (b : Int) (A : Option Addr) (c : Nat) (ls : List (Int × Int × Int)) (k : Nat) (bus : Int) (w : World) (h : Sl w w.heap.size 3 A ls.length (enc3 ls)) (hv : netB b ls = true) (hk : k < ls.length) :
    Calls Tryd.prog 88 #[.agg #[.int .i64 b, .slice A ls.length c], .int .i64 k, .int .i64 bus] w fun e w' => e = .returned (.int .i64 (otherF (at3 ls k) bus)) ∧ Below w.heap.size w w' := by
  have bw := (Below.refl _ w).alloc (Nat.le_refl _) (.cells #[.int .i64 b, .slice A ls.length c] 25)
  have B0 := Blk.new w 25 #[.int .i64 b, .slice A ls.length c]
  obtain ⟨b0, off, rfl, hb, hc0, hc1, hc2⟩ := h.three k hk
  have i0 : (0 : Int) ≤ k := by omega
  have i3 : (k : Int) < ls.length := by omega
  have hl := (net_len hv).2
  have hin : inB (k : Int) 0 ((ls.length : Int) - 1) = true := inB_mk (by omega) (by omega)
  have HV := hide hv
  by_cases h1 : bus = (at3 ls k).1
  · have q1 : ((at3 ls k).1 == bus) = true := by simp [h1]
    have Q := hide (show otherF (at3 ls k) bus = (at3 ls k).2.1 by simp [otherF, h1])
    clear h1 hv
    go_enter Tryd.func88, Tryd.ntmps88
    go_wp2_with fail
    refine (specNetValid_any _ _ _ _ _ (h.to bw) (by omega)).mono ?_
    rintro e w1 ⟨rfl, hb1⟩
    rw [HV.out]
    obtain ⟨g0, g1⟩ := (B0.to hb1).two
    have K1 := hide (bw.then hb1)
    have d0 := (K1.out.cell (p := ⟨b0, off + k * 3, none⟩) hb).trans hc0
    have d1 := (K1.out.cell (p := ⟨b0, off + k * 3 + 1, none⟩) hb).trans hc1
    have d2 := (K1.out.cell (p := ⟨b0, off + k * 3 + 2, none⟩) hb).trans hc2
    clear hb1
    go_wp2_with ((go_at_call 52; refine (l1In_any _ _ _ _).mono ?_; rintro e w' ⟨rfl, rfl⟩))
    go_ret
    exact ⟨ret_int Q.out.symm, K1.out.alloc K1.out.size _⟩
  · have q1 : ((at3 ls k).1 == bus) = false := by simp; exact fun he => h1 he.symm
    by_cases h2 : bus = (at3 ls k).2.1
    · have q2 : ((at3 ls k).2.1 == bus) = true := by simp [h2]
      have Q := hide (show otherF (at3 ls k) bus = (at3 ls k).1 by unfold otherF; rw [if_neg h1, if_pos h2])
      clear h1 h2 hv
      go_enter Tryd.func88, Tryd.ntmps88
      go_wp2_with fail
      refine (specNetValid_any _ _ _ _ _ (h.to bw) (by omega)).mono ?_
      rintro e w1 ⟨rfl, hb1⟩
      rw [HV.out]
      obtain ⟨g0, g1⟩ := (B0.to hb1).two
      have K1 := hide (bw.then hb1)
      have d0 := (K1.out.cell (p := ⟨b0, off + k * 3, none⟩) hb).trans hc0
      have d1 := (K1.out.cell (p := ⟨b0, off + k * 3 + 1, none⟩) hb).trans hc1
      have d2 := (K1.out.cell (p := ⟨b0, off + k * 3 + 2, none⟩) hb).trans hc2
      clear hb1
      go_wp2_with ((go_at_call 52; refine (l1In_any _ _ _ _).mono ?_; rintro e w' ⟨rfl, rfl⟩))
      go_ret
      exact ⟨ret_int Q.out.symm, K1.out.alloc K1.out.size _⟩
    · have q2 : ((at3 ls k).2.1 == bus) = false := by simp; exact fun he => h2 he.symm
      have Q := hide (show otherF (at3 ls k) bus = -1 by unfold otherF; rw [if_neg h1, if_neg h2])
      clear h1 h2 hv
      go_enter Tryd.func88, Tryd.ntmps88
      go_wp2_with fail
      refine (specNetValid_any _ _ _ _ _ (h.to bw) (by omega)).mono ?_
      rintro e w1 ⟨rfl, hb1⟩
      rw [HV.out]
      obtain ⟨g0, g1⟩ := (B0.to hb1).two
      have K1 := hide (bw.then hb1)
      have d0 := (K1.out.cell (p := ⟨b0, off + k * 3, none⟩) hb).trans hc0
      have d1 := (K1.out.cell (p := ⟨b0, off + k * 3 + 1, none⟩) hb).trans hc1
      have d2 := (K1.out.cell (p := ⟨b0, off + k * 3 + 2, none⟩) hb).trans hc2
      clear hb1
      go_wp2_with ((go_at_call 52; refine (l1In_any _ _ _ _).mono ?_; rintro e w' ⟨rfl, rfl⟩))
      go_ret
      exact ⟨ret_int Q.out.symm, K1.out.alloc K1.out.size _⟩

theorem otherF_ends {ls : List (Int × Int × Int)} {k u y : Nat} (h : Ends ls k u y) : otherF (at3 ls k) y = u := by
  unfold otherF
  rcases h with ⟨h1, h2⟩ | ⟨h1, h2⟩
  · by_cases h3 : (y : Int) = (at3 ls k).1
    · rw [if_pos h3]; omega
    · rw [if_neg h3, if_pos h2.symm, h1]
  · rw [if_pos h1.symm, h2]

set_option maxHeartbeats 2000000 in
theorem l6Way_any (nb x : Nat) (A P : Option Addr) (c pc : Nat) (ls : List (Int × Int × Int)) (on : List Bool) (bs : List (Int × Int)) (ps : List Int) (w : World) (h : Sl w w.heap.size 3 A ls.length (enc3 ls)) (p : Sl w w.heap.size 1 P ps.length (encI ps)) (hv : netB nb ls = true) (hbn : bs.length = nb) (hp : PL ls on bs ps) (hc : ¬ Cyc ls (onP on)) (ho : OneF ls on bs) (hx : x < nb) :
    Calls Tryd.prog 82 #[.agg #[.int .i64 nb, .slice A ls.length c], .slice P ps.length pc, .int .i64 x] w (MadeInts (fun l => l.length ≤ nb ∧ ∀ z ∈ l, 0 ≤ z ∧ z < ls.length) w) := by
  have hsz : (w.alloc (.cells #[.int .i64 nb, .slice A ls.length c] 25)).heap.size = w.heap.size + 1 := by simp
  have B0 := hide ((Blk.new w 25 #[.int .i64 nb, .slice A ls.length c]).alloc (.cells #[] 3))
  have K0 := hide (((Below.refl _ w).alloc (Nat.le_refl _) (.cells #[.int .i64 nb, .slice A ls.length c] 25)).alloc (by omega) (.cells #[] 3))
  have ho0 := World.ownsRow_lit (base := w.heap.size + 1) (e := 3) (size := 1) (w.alloc (.cells #[.int .i64 nb, .slice A ls.length c] 25)) #[] 0 (by simp) (by unfold maxLen; omega) rfl
  rw [hsz] at ho0
  have O0 := hide ho0
  have hz0 : w.heap.size + 2 ≤ ((w.alloc (.cells #[.int .i64 nb, .slice A ls.length c] 25)).alloc (.cells #[] 3)).heap.size := by simp
  obtain ⟨⟨n1, n2⟩, n3⟩ := net_len hv
  have hpl := hp.len
  have hpl1 : ps.length ≤ nb := by omega
  have hpl2 : nb ≤ ps.length := by omega
  have HV := hide hv
  have HH := hide h
  have PP := hide p
  have HP := hide hp
  have HCY := hide hc
  have HONE := hide ho
  have HBN := hide hbn
  have hdx := dep_le (ls := ls) (on := on) (bs := bs) (nb := nb) x
  have HDX := hide hdx
  clear hv h p hsz ho0 hpl hp hc ho hbn hdx
  go_enter Tryd.func82, Tryd.ntmps82
  go_wp2_with fail
  go_loopw [2, 7] (fun b o wr => ∃ (y : Nat) (E : Option Addr) (e : Nat) (l : List Int), y < nb ∧ b = .int .i64 y ∧ o = .slice E l.length e ∧ l.length ≤ nb ∧ w.heap.size + 2 ≤ wr.heap.size ∧ Hid (l.length + dep ls on bs nb y ≤ nb) ∧ Hid (∀ z ∈ l, 0 ≤ z ∧ z < ls.length) ∧ Hid (wr.ownsRow (w.heap.size + 1) 3 1 (.slice E l.length e) l.length (encI l)) ∧ Hid (Blk wr w.heap.size 25 #[.int .i64 nb, .slice A ls.length c]) ∧ Hid (Below w.heap.size w wr)) (fun b _ _ => dep ls on bs nb (intOf b))
  case atStart => exact ⟨x, _, 0, [], hx, rfl, rfl, Nat.zero_le _, hz0, hide (by simpa using HDX.out), hide (fun z hz => by cases hz), O0, B0, K0⟩
  case round =>
    clear O0 B0 K0 hz0 HDX
    obtain ⟨y, E, e, l, hy, rfl, rfl, hln, hz, HD, HL, HO, HB, HK⟩ := hrel
    obtain ⟨g0, g1⟩ := HB.out.two
    obtain ⟨b0, o0, hP, hb0, hd⟩ := PP.out.int y (by omega)
    subst hP
    have d0 := (HK.out.cell (p := ⟨b0, o0 + y, none⟩) hb0).trans hd
    have i0 : (0 : Int) ≤ y := by omega
    have i1 : (y : Int) < ps.length := by omega
    by_cases hneg : at_ ps y < 0
    · have hge : decide (0 ≤ at_ ps y) = false := by simp; omega
      go_wp2_with fail
      go_ret
      exact ⟨l, E, e, ⟨hln, HL.out⟩, rfl, own_mono HO.out (by omega), HK.out⟩
    · obtain ⟨k, hk⟩ := Int.eq_ofNat_of_zero_le (show 0 ≤ at_ ps y by omega)
      have hyb : y < bs.length := by have := HBN.out; omega
      obtain ⟨hk1, _, _⟩ := HP.out.inc hyb (show 0 ≤ at_ ps y by omega)
      obtain ⟨u, hub, he, hdl⟩ := HP.out.up HV.out HBN.out HCY.out HONE.out hyb (show 0 ≤ at_ ps y by omega)
      rw [hk, Int.toNat_natCast] at hk1 he
      rw [hk] at d0 hd
      have hge : decide (0 ≤ (k : Int)) = true := by simp
      have HOU := hide (otherF_ends he)
      have hun : u < nb := by have := HBN.out; omega
      have HDL := hide hdl
      have hb2 : b0 < wr.heap.size := by have := HK.out.size; omega
      have N6 := hide (World.ownsRow_lit (base := w.heap.size + 1) (e := 3) (size := 1) wr #[.int .i64 k] 1 (by omega) (by unfold maxLen; omega) rfl)
      have W6 := hide ((Below.refl wr.heap.size wr).alloc (Nat.le_refl _) (.cells #[.int .i64 k] 3))
      have O6 := hide (HO.out.keepB W6.out)
      clear hneg hk he hdl
      go_wp2_with (at_builtin; refine app_ints _ rfl (.tmp 18) (.tmp 19) rfl (w.heap.size + 1) _ 1 1 [(k : Int)] rfl N6.out _ E l.length e l rfl (Sl.of_own O6.out) (by simp; omega) (by omega) (by omega) ?_; intro D2 d2 w7 ho7 hg7)
      have K7 := hide ((HK.out.trans (W6.out.mono HK.out.size)).trans ((grown_below N6.out hg7 (by simp; omega)).mono (by omega)))
      have B7 := hide ((HB.out.to W6.out).below (grown_below N6.out hg7 (by simp; omega)) (by omega))
      have O7 := hide (show w7.ownsRow (w.heap.size + 1) 3 1 (.slice D2 (l.length + 1) d2) (l.length + 1) (encI ((k : Int) :: l)) by simpa [Nat.add_comm] using ho7)
      have hz7 : w.heap.size + 2 ≤ w7.heap.size := by have := hg7.size; simp at this; omega
      have q0 := (K7.out.cell (p := ⟨b0, o0 + y, none⟩) hb0).trans hd
      clear ho7 hg7 g0 g1 d0 HO HB HK N6 W6 O6
      obtain ⟨g0, g1⟩ := B7.out.two
      have H7 := hide (HH.out.to K7.out)
      go_region_held3 (fun w' => w'.cell? ⟨w.heap.size, 0, none⟩ = some (.int .i64 nb) ∧ w'.cell? ⟨w.heap.size, 1, none⟩ = some (.slice A ls.length c) ∧ w'.cell? ⟨b0, o0 + y, none⟩ = some (.int .i64 k))
        (first | go_keep | (refine ⟨cellk hb8 ?_, cellk hb8 ?_, cellk hb8 ?_⟩ <;> go_keep))
        ((go_at_call 88; refine (specOtherEndK_any nb A c ls k y _ ?_ HV.out hk1).mono ?_; exact H7.out; rw [HOU.out]; rintro e' w8 ⟨rfl, hb8⟩))
      have K8 := hide ((K7.out.drew).then hb8)
      have B8 := hide ((show Blk w7.drew _ _ _ from B7.out).to hb8)
      have O8 := hide ((show w7.drew.ownsRow _ _ _ _ _ _ from O7.out).keepB hb8)
      have hz8 : w.heap.size + 2 ≤ w8.heap.size := by have : w7.heap.size ≤ w8.heap.size := hb8.size; omega
      have hd2 := HDL.out
      clear hb8
      go_wp2_with fail
      go_roundw
      case rel => exact ⟨u, D2, d2, (k : Int) :: l, hun, rfl, by simp [Nat.add_comm], by have := HD.out; simp; omega, hz8, hide (by have := HD.out; simp; omega), hide (fun z hz => by
          rcases List.mem_cons.1 hz with rfl | hz
          · omega
          · exact HL.out z hz), O8, B8, K8⟩
      case measure => simp [intOf]; omega

theorem cellN {l : List Int} {b j : Nat} (h : ∀ z ∈ l, 0 ≤ z ∧ z < b) (hj : j < l.length) : ∃ v : Nat, at_ l j = v ∧ v < b := by
  obtain ⟨h1, h2⟩ := h _ (mem_at j hj)
  obtain ⟨v, hv⟩ := Int.eq_ofNat_of_zero_le h1
  exact ⟨v, hv, by omega⟩
/-- Numbers within bounds. -/
def Bd (n : Nat) (m : Int) (l : List Int) : Prop := l.length = n ∧ ∀ z, z < n → 0 ≤ at_ l z ∧ at_ l z ≤ m
theorem Bd.set {n : Nat} {m m' : Int} {l : List Int} (h : Bd n m l) {k : Nat} (hk : k < n) {v : Int} (h1 : 0 ≤ v) (h2 : v ≤ m') (hm : m ≤ m') : Bd n m' (l.set k v) := by
  refine ⟨by rw [List.length_set]; exact h.1, fun z hz => ?_⟩
  rw [at_setN l k z v (by rw [h.1]; exact hk)]
  have := h.2 z hz
  split <;> omega

set_option maxRecDepth 8000 in
set_option maxHeartbeats 4000000 in
theorem l7Flows_any (nb : Nat) (A D B : Option Addr) (c d f : Nat) (ls : List (Int × Int × Int)) (on : List Bool) (bs : List (Int × Int)) (w : World) (h : Sl w w.heap.size 3 A ls.length (enc3 ls)) (g : Sl w w.heap.size 1 D ls.length (encB on)) (hon : on.length = ls.length) (s : Sl w w.heap.size 2 B bs.length (enc2 bs)) (hr : radB nb ls on bs = true) :
    Calls Tryd.prog 69 #[.agg #[.int .i64 nb, .slice A ls.length c], .slice D ls.length d, .slice B bs.length f] w (MadeInts (Bd ls.length 64000) w) := by
  have hsz : (w.alloc (.cells #[.int .i64 nb, .slice A ls.length c] 25)).heap.size = w.heap.size + 1 := by simp
  obtain ⟨hf, hcy, hon1⟩ := (radB_iff _ _ _ _).1 hr
  obtain ⟨hv, _, hbl, hok⟩ := fedB_true hf
  obtain ⟨⟨n1, n2⟩, n3⟩ := net_len hv
  have hb8 : bs.length ≤ 8 := by omega
  have hbn1 : bs.length ≤ nb := by omega
  have hbn2 : nb ≤ bs.length := by omega
  have hmk := run_make_z (P := Tryd.prog) 28 3 _ 1 8 Tryd.underlying28 infoI rfl (by omega) ls.length ls.length (Nat.le_refl _) (by omega) (by omega)
  simp only [Nat.mul_one] at hmk
  have O0 := World.ownsRow_lit (base := w.heap.size + 1) (e := 3) (size := 1) (w.alloc (.cells #[.int .i64 nb, .slice A ls.length c] 25)) (zrow ls.length) ls.length (by simp) (by unfold maxLen; omega) (by simp [zrow])
  rw [hsz, show (zrow ls.length).toList = encI (List.replicate ls.length 0) by simp [zrow, encI]] at O0
  have HO0 := hide O0
  have B0 := hide ((Blk.new w 25 #[.int .i64 nb, .slice A ls.length c]).alloc (.cells (zrow ls.length) 3))
  have K0 := hide (((Below.refl _ w).alloc (Nat.le_refl _) (.cells #[.int .i64 nb, .slice A ls.length c] 25)).alloc (by omega) (.cells (zrow ls.length) 3))
  have hl0 : w.heap.size < ((w.alloc (.cells #[.int .i64 nb, .slice A ls.length c] 25)).alloc (.cells (zrow ls.length) 3)).heap.size := by simp; omega
  have HBN := hide (show bs.length = nb by omega)
  have HBD : Hid (Bd ls.length 0 (List.replicate ls.length 0)) := hide ⟨by simp, fun z hz => by simp [at_, hz]⟩
  have HV := hide hv
  have HH := hide h
  have GG := hide g
  have SS := hide s
  have HF := hide hf
  have HCY := hide hcy
  have HONE := hide hon1
  have HOK := hide hok
  clear h g s hr hf hcy hon1 hv hok hsz O0 hbl
  go_enter Tryd.func69, Tryd.ntmps69
  go_wp2_with fail
  refine (l6Parents_any nb A D B c d f ls on bs _ (HH.out.to K0.out) (GG.out.to K0.out) hon (SS.out.to K0.out) HF.out).mono ?_
  rintro e w1 ⟨ps, P, pc, hp, rfl, hop, hb1⟩
  have hpl := hp.len
  have HP := hide hp
  have K1 := hide (K0.out.then hb1)
  have B1 := hide (B0.out.to hb1)
  have O1 := hide (HO0.out.keepB hb1)
  have P1 := hide (own_mono hop (show w.heap.size + 2 ≤ ((w.alloc (.cells #[.int .i64 nb, .slice A ls.length c] 25)).alloc (.cells (zrow ls.length) 3)).heap.size by simp))
  have hpl1 : ps.length ≤ bs.length := by omega
  have hpl2 : bs.length ≤ ps.length := by omega
  obtain ⟨g0, g1⟩ := B1.out.two
  clear hp hop hb1 K0 B0 HO0 hpl hmk
  go_wp2_with fail
  go_loopw [9] (fun x wr => ∃ (k : Nat) (l : List Int), k ≤ nb ∧ x = .int .i64 k ∧ Hid (Bd ls.length (8000 * k) l) ∧ Hid (wr.ownsRow (w.heap.size + 1) 3 1 (.slice (some ⟨w.heap.size + 1, 0, none⟩) ls.length ls.length) ls.length (encI l)) ∧ Hid (wr.ownsRow (w.heap.size + 2) 3 1 (.slice P ps.length pc) ps.length (encI ps)) ∧ Hid (Blk wr w.heap.size 25 #[.int .i64 nb, .slice A ls.length c]) ∧ Hid (Below w.heap.size w wr)) (fun x _ => nb - (intOf x).toNat)
  case atStart => exact ⟨0, _, Nat.zero_le _, rfl, HBD, O1, P1, B1, K1⟩
  case round =>
    clear HBD O1 P1 B1 K1 g0 g1
    obtain ⟨k, l, hk, rfl, HBD, HO, HPO, HB, HK⟩ := hrel
    obtain ⟨g0, g1⟩ := HB.out.two
    by_cases hkn : k < nb
    · have hob : w.heap.size + 1 < wr.heap.size := (HO.out.lt _ rfl).2
      have S1 := hide (Sl.of_own HPO.out)
      have H1 := hide (HH.out.to HK.out)
      go_wp2_with fail
      refine (l6Way_any nb k A P c pc ls on bs ps wr H1.out S1.out HV.out HBN.out HP.out HCY.out HONE.out hkn).mono ?_
      rintro e w2 ⟨W, We, wc, ⟨hW1, hW2⟩, rfl, hoW, hb2⟩
      have W2 := hide (own_mono hoW (show w.heap.size + 2 ≤ wr.heap.size by omega))
      have O2 := hide (HO.out.keepB hb2)
      have P2 := hide (HPO.out.keepB hb2)
      have B2 := hide (HB.out.to hb2)
      have K2 := hide (HK.out.then hb2)
      have HW2 := hide hW2
      clear hoW hb2 HO HPO HB HK S1 H1 g0 g1 hW2 hob
      go_wp2_with fail
      go_loopw [11] (fun x wr => ∃ (j : Nat) (l : List Int), j ≤ W.length ∧ x = .int .i64 j ∧ Hid (Bd ls.length (8000 * k + 999 * j) l) ∧ Hid (wr.ownsRow (w.heap.size + 1) 3 1 (.slice (some ⟨w.heap.size + 1, 0, none⟩) ls.length ls.length) ls.length (encI l)) ∧ Hid (wr.ownsRow (w.heap.size + 2) 3 1 (.slice P ps.length pc) ps.length (encI ps)) ∧ Hid (wr.ownsRow (w.heap.size + 2) 3 1 (.slice We W.length wc) W.length (encI W)) ∧ Hid (Blk wr w.heap.size 25 #[.int .i64 nb, .slice A ls.length c]) ∧ Hid (Below w.heap.size w wr)) (fun x _ => W.length - (intOf x).toNat)
      case atStart => exact ⟨0, l, Nat.zero_le _, rfl, hide (by simpa using HBD.out), O2, P2, W2, B2, K2⟩
      case round =>
        clear HBD O2 P2 W2 B2 K2
        obtain ⟨j, l, hj, rfl, HBD, HO, HPO, HWO, HB, HK⟩ := hrel
        by_cases hjl : j < W.length
        · obtain ⟨v, hv, hvl⟩ := cellN HW2.out hjl
          obtain ⟨q, cw, hWe, _, _⟩ := HWO.out.form (by omega)
          cases hWe
          have hqb : w.heap.size + 2 ≤ q := (HWO.out.lt _ rfl).1
          have x1 := HWO.out.cellAt j (by omega)
          rw [encI_at W j hjl, hv] at x1
          have x2 := HO.out.cellAt v (by omega)
          rw [encI_at l v (by rw [HBD.out.1]; exact hvl)] at x2
          have x3 := HO.out.frozenAt v
          obtain ⟨b1, o1, hB, hb1, hc0, hc1⟩ := SS.out.two k (by omega)
          subst hB
          have c1 := (HK.out.cell (p := ⟨b1, o1 + k * 2 + 1, none⟩) hb1).trans hc1
          obtain ⟨l1, l2⟩ : 0 ≤ (at2 bs k).2 ∧ (at2 bs k).2 ≤ 999 := by
            have := HOK.out k (by omega)
            simp only [busOk, Bool.and_eq_true] at this
            exact inB_true this.2
          obtain ⟨r1, r2⟩ := HBD.out.2 v hvl
          have hw1 : IntKind.i64.wrap (at_ l v + (at2 bs k).2) = at_ l v + (at2 bs k).2 := IntWalk.i64_in _ (by omega)
          have j0 : (0 : Int) ≤ j := by omega
          have j1 : (j : Int) < W.length := by omega
          have v0 : (0 : Int) ≤ v := by omega
          have v1 : (v : Int) < ls.length := by omega
          have k0 : (0 : Int) ≤ k := by omega
          have k1 : (k : Int) < bs.length := by omega
          have HBD2 := hide (HBD.out.set (m' := 8000 * k + 999 * ((j + 1 : Nat) : Int)) hvl (v := at_ l v + (at2 bs k).2) (by omega) (by omega) (by omega))
          have O2 := hide (((HO.out.stored v (.int .i64 (at_ l v + (at2 bs k).2))).1).keepB (Below.refl _ _).drew)
          rw [← encI_setU] at O2
          have s1 : But (fun x => x = w.heap.size + 1) wr (wr.setCell ⟨w.heap.size + 1, v, none⟩ (.int .i64 (at_ l v + (at2 bs k).2))).drew := ((But.refl (fun x => x = w.heap.size + 1) wr).setCell ⟨w.heap.size + 1, v, none⟩ (.int .i64 (at_ l v + (at2 bs k).2)) fun _ => rfl).drew
          have P2 := hide (s1.own HPO.out (fun g hg he => by have := (HPO.out.lt g hg).1; omega))
          have W2 := hide (s1.own HWO.out (fun g hg he => by have := (HWO.out.lt g hg).1; omega))
          have B2 := hide (s1.blk HB.out (by omega))
          have K2 := hide ((HK.out.setCell (p := ⟨w.heap.size + 1, v, none⟩) (by simp) (.int .i64 (at_ l v + (at2 bs k).2))).drew)
          clear hc0 hc1 hv s1
          go_wp2_with fail
          go_big_region
          generalize (wr.setCell ⟨w.heap.size + 1, v, none⟩ (.int .i64 (at_ l v + (at2 bs k).2))).drew = w3 at *
          clear x1 x2 x3 c1
          go_wp2_with fail
          go_roundw
          case rel => exact ⟨j + 1, _, by omega, by go_num, HBD2, O2, P2, W2, B2, K2⟩
          case measure => simp [intOf]; omega
        · obtain rfl : j = W.length := by omega
          go_wp2_with fail
          go_roundw
          case rel => exact ⟨k + 1, l, by omega, by go_num, hide ⟨HBD.out.1, fun z hz => by have := HBD.out.2 z hz; omega⟩, HO, HPO, HB, HK⟩
          case measure => simp [intOf]; omega
    · obtain rfl : k = nb := by omega
      have hll := HBD.out.1
      have HLL := hide hll
      clear hll
      go_wp2_with fail
      go_ret
      exact ⟨l, some ⟨w.heap.size + 1, 0, none⟩, ls.length, ⟨HBD.out.1, fun z hz => by have := HBD.out.2 z hz; omega⟩, by rw [HLL.out]; rfl, by rw [HLL.out]; exact own_mono HO.out (by omega), HK.out⟩

theorem specLineFlow_any (b : Int) (k : Nat) (A D B : Option Addr) (c d f n : Nat) (ls : List (Int × Int × Int)) (on : List Bool) (bs : List (Int × Int)) (w : World) (h : Sl w w.heap.size 3 A ls.length (enc3 ls)) (g : Sl w w.heap.size 1 D n (encB on)) (hon : on.length = n) (s : Sl w w.heap.size 2 B bs.length (enc2 bs)) (hm : ls.length ≤ 1048576) (hn : bs.length ≤ 1048576) (hk : k < n) (hn2 : n ≤ 1048576) :
    Calls Tryd.prog 45 #[.agg #[.int .i64 b, .slice A ls.length c], .slice D n d, .slice B bs.length f, .int .i64 k] w fun e w' => ∃ x, -1 ≤ x ∧ x ≤ 64000 ∧ e = .returned (.int .i64 x) ∧ Below w.heap.size w w' := by
  have B0 := hide (Blk.new w 25 #[.int .i64 b, .slice A ls.length c])
  have K0 := hide ((Below.refl _ w).alloc (Nat.le_refl _) (.cells #[.int .i64 b, .slice A ls.length c] 25))
  have HH := hide h
  have GG := hide g
  have SS := hide s
  have hin : inB (k : Int) 0 ((n : Int) - 1) = true := inB_mk (by omega) (by omega)
  clear h g s
  go_enter Tryd.func45, Tryd.ntmps45
  go_wp2_with fail
  refine (radial_any b A D B c d f n ls on bs _ (HH.out.to K0.out) (GG.out.to K0.out) hon (SS.out.to K0.out) hm hn).mono ?_
  rintro e w1 ⟨rfl, hb1⟩
  have K1 := hide (K0.out.then hb1)
  have B1 := hide (B0.out.to hb1)
  obtain ⟨g0, g1⟩ := B1.out.two
  clear hb1 K0 B0
  cases hr : radB b ls on bs
  · go_wp2_with fail
    go_ret
    exact ⟨-1, by omega, by omega, rfl, K1.out⟩
  · obtain ⟨hf, _⟩ := (radB_iff _ _ _ _).1 hr
    obtain ⟨hv, hnl, hbl, _⟩ := fedB_true hf
    rw [hon] at hnl
    subst hnl
    obtain ⟨nb, rfl⟩ : ∃ nb : Nat, b = nb := ⟨bs.length, hbl.symm⟩
    have HRAD := hide hr
    clear hr hf hv hbl
    go_wp2_with ((go_at_call 52; refine (l1In_any _ _ _ _).mono ?_; rintro e w' ⟨rfl, rfl⟩))
    refine (l7Flows_any nb A D B c d f ls on bs w1 (HH.out.to K1.out) (GG.out.to K1.out) hon (SS.out.to K1.out) HRAD.out).mono ?_
    rintro e w2 ⟨l, M, m, hbd, rfl, ho2, hb2⟩
    have K2 := hide (K1.out.then hb2)
    have hll := hbd.1
    obtain ⟨q, cq, hM, _, _⟩ := ho2.form (by omega)
    cases hM
    have x1 := ho2.cellAt k (by omega)
    rw [encI_at l k (by omega)] at x1
    obtain ⟨r1, r2⟩ := hbd.2 k hk
    have k0 : (0 : Int) ≤ k := by omega
    have k1 : (k : Int) < l.length := by omega
    clear ho2 hb2 hbd
    go_wp2_with fail
    go_ret
    exact ⟨at_ l k, by omega, r2, rfl, K2.out⟩

end Go.Proofs.YtbebhbcjdiahcaaDoor
