/-
  The search from a feed: what the program's function computes.
-/
import Derived.Test.YtbebhbcjdiahcaaDoorSearch
namespace Go.Proofs.YtbebhbcjdiahcaaDoor
open Go.RowKit
set_option linter.unusedVariables false

/-- The tree behind a search. -/
def Found (base ob g qf qp nb : Nat) (A : Option Addr) (c : Nat) (ls : List (Int × Int × Int)) (on : List Bool) (bs : List (Int × Int)) (i : Nat) (w w' : World) : Prop :=
  ∃ fs ps ord E f, TS base ob g qf qp nb A ls.length c fs ps ord E f w' ∧ SQ ls on bs i fs ps ord ord.length ∧ Below base w w'

set_option maxRecDepth 8000 in
set_option maxHeartbeats 4000000 in
theorem search_any (base ob g qf qp nb i fd : Nat) (A D : Option Addr) (c d : Nat) (ls : List (Int × Int × Int)) (on : List Bool) (bs : List (Int × Int)) (fs ps ord : List Int) (E : Option Addr) (f : Nat) (w : World) (L : TL base ob g qf qp) (hbase : base ≤ w.heap.size) (hob : ob ≤ w.heap.size) (h : Sl w base 3 A ls.length (enc3 ls)) (g0 : Sl w base 1 D ls.length (encB on)) (hl : on.length = ls.length) (hv : netB nb ls = true) (hbn : bs.length = nb)
    (hts : TS base ob g qf qp nb A ls.length c fs ps ord E f w) (hsq : SQ ls on bs i fs ps (ord ++ [(fd : Int)]) ord.length) (hfd : fd < nb) :
    Calls Tryd.prog 50 #[.pointer (some ⟨g, 0, none⟩), .slice D ls.length d, .int .i64 fd] w fun e w' => e = .returned (.tuple #[]) ∧ Found base ob g qf qp nb A c ls on bs i w w' := by
  obtain ⟨⟨n1, n2⟩, n3⟩ := net_len hv
  have HV := hide hv
  have HBN := hide hbn
  have hb1 : bs.length ≤ nb := by omega
  have hb2 : nb ≤ bs.length := by omega
  have HH := hide h
  have GG := hide g0
  have T0 := hide hts
  have Q0 := hide hsq
  have LL := hide L
  have hol := nodup_len nb _ hsq.nod (fun x hx => by have := hsq.rng x hx; omega)
  have hol1 : ord.length < nb := by simp at hol; omega
  obtain ⟨y0, y1, y2, y3, y4⟩ := T0.out.five
  have f4 := T0.out.tr.frozen 4
  have hgw := T0.out.tr.lt
  clear hv hbn h g0 hts hsq hol L
  go_enter Tryd.func50, Tryd.ntmps50
  go_wp2_with (at_builtin; refine app_int w rfl (.tmp 20) (.tmp 22) rfl ob E ord.length f ord fd rfl T0.out.ho w.heap.size rfl rfl hob (by omega) ?_; intro D2 d2 w3 ho3 hg3; have T3 := hide (T0.out.app LL.out hob ho3 hg3); have K3 := hide ((grown_below T0.out.ho hg3 hob).mono (show base ≤ ob by have := LL.out.bg; have := LL.out.go; omega)); have B3 := (T0.out.tr.below (grown_below T0.out.ho hg3 hob) LL.out.go); have z4 := B3.cell 4; have z5 := B3.frozen 4; have hz3 := hg3.size; clear ho3 hg3 B3)
  have Q3 := Q0
  have K4 := hide (K3.out.setCell (p := ⟨g, 4, none⟩) (by have := LL.out.bg; exact this) (.slice D2 (ord.length + 1) d2))
  have hz4 : w.heap.size ≤ (w3.setCell ⟨g, 4, none⟩ (.slice D2 (ord.length + 1) d2)).heap.size := by simpa using hz3
  clear T0 K3 z4 z5 y0 y1 y2 y3 y4 f4 Q0
  go_loopw [6] (fun x wr => ∃ (fr : Nat) (fs ps ord : List Int) (E : Option Addr) (f : Nat), fr ≤ ord.length ∧ ord.length ≤ nb ∧ x = .int .i64 fr ∧ w.heap.size ≤ wr.heap.size ∧ Hid (TS base ob g qf qp nb A ls.length c fs ps ord E f wr) ∧ Hid (SQ ls on bs i fs ps ord fr) ∧ Hid (Below base w wr)) (fun x _ => nb - (intOf x).toNat)
  case atStart => exact ⟨ord.length, fs, ps, ord ++ [(fd : Int)], D2, d2, by simp, by simp; omega, rfl, hz4, T3, Q3, K4⟩
  case round =>
    clear T3 Q3 K4 hz4 hol1
    obtain ⟨fr, fs, ps, ord, E, f, hfr, hon, rfl, hzr, HT, HQ, HK⟩ := hrel
    obtain ⟨y0, y1, y2, y3, y4⟩ := HT.out.five
    by_cases hlt : fr < ord.length
    · have hx0 := HQ.out.rng _ (mem_at fr hlt)
      obtain ⟨x, hx⟩ := Int.eq_ofNat_of_zero_le hx0.1
      have hxn : x < nb := by omega
      obtain ⟨qE, cE, hE, _, _⟩ := HT.out.ho.form (by omega)
      cases hE
      have x1 := HT.out.ho.cellAt fr (by omega)
      rw [encI_at ord fr hlt, hx] at x1
      have HX := hide hx
      have i0 : (0 : Int) ≤ fr := by omega
      have i1 : (fr : Int) < ord.length := by omega
      clear hx0 hx
      go_wp2_with fail
      go_loopw [48] (fun z wr => ∃ (k : Nat) (fs ps ord : List Int) (E : Option Addr) (f : Nat), k ≤ ls.length ∧ fr < ord.length ∧ ord.length ≤ nb ∧ z = .int .i64 k ∧ w.heap.size ≤ wr.heap.size ∧ Hid (at_ ord fr = x) ∧ Hid (TS base ob g qf qp nb A ls.length c fs ps ord E f wr) ∧ Hid (SQ ls on bs i fs ps ord fr) ∧ Hid (Did ls on fs x k) ∧ Hid (Below base w wr)) (fun z _ => ls.length - (intOf z).toNat)
      case atStart => exact ⟨0, fs, ps, ord, _, _, Nat.zero_le _, hlt, hon, rfl, hzr, HX, HT, HQ, hide (Did.zero fs x), HK⟩
      case round =>
        clear HT HQ HK HX y0 y1 y2 y3 y4 x1 hlt hon hzr hfr
        obtain ⟨k, fs, ps, ord, E, f, hk, hlt, hon, rfl, hzr, HX, HT, HQ, HD, HK⟩ := hrel
        by_cases hkl : k < ls.length
        · obtain ⟨b0, o0, rfl, hb, hd0, hd1, hd2⟩ := HH.out.three k hkl
          obtain ⟨b1, o1, rfl, hb1', he⟩ := GG.out.boolL hl k hkl
          have d0 := (HK.out.cell (p := ⟨b0, o0 + k * 3, none⟩) hb).trans hd0
          have d1 := (HK.out.cell (p := ⟨b0, o0 + k * 3 + 1, none⟩) hb).trans hd1
          have d2' := (HK.out.cell (p := ⟨b0, o0 + k * 3 + 2, none⟩) hb).trans hd2
          have hb0 : b0 < wr.heap.size := by omega
          have kk := (Below.refl _ wr).alloc (Nat.le_refl _) (.cells #[.int .i64 (at3 ls k).1, .int .i64 (at3 ls k).2.1, .int .i64 (at3 ls k).2.2] 60)
          have T2 := hide (HT.out.to kk)
          have K2 := hide (HK.out.trans (kk.mono (by omega)))
          have hz2 := kk.size
          clear hd0 hd1 hd2 kk HT HK
          go_wp2_with fail
          refine (other_any _ _ _).mono ?_
          rintro e w5 ⟨rfl, hb5⟩
          have T5 := hide (T2.out.to hb5)
          have K5 := hide (K2.out.trans (hb5.mono (by omega)))
          have hz5 : w.heap.size ≤ w5.heap.size := by have := hb5.size; omega
          have e0 := (K5.out.cell (p := ⟨b1, o1 + k, none⟩) hb1').trans he
          have q0 : (0 : Int) ≤ k := by omega
          have q1 : (k : Int) < ls.length := by omega
          clear hb5 T2 K2 d0 d1 d2' he hz2 hzr
          have SK : Hid ((onP on k → ∀ y, Ends ls k x y → 0 ≤ at_ fs y) → Did ls on fs x (k + 1)) := hide fun hn => HD.out.skip hn
          cases hok : atB on k
          · have HOK := hide hok
            rw [hok] at e0
            clear hok
            go_wp2_with fail
            go_roundw
            case rel => exact ⟨k + 1, fs, ps, ord, E, f, by omega, hlt, hon, by go_num, hz5, HX, T5, HQ, hide (SK.out fun h => by unfold onP at h; rw [HOK.out] at h; cases h), K5⟩
            case measure => simp [intOf]; omega
          · have HOK := hide hok
            rw [hok] at e0
            clear hok
            by_cases hof : 0 ≤ otherF (at3 ls k) x
            · obtain ⟨y, hy⟩ := Int.eq_ofNat_of_zero_le hof
              have HE := hide (ends_of hy)
              have hyn : y < nb := by
                obtain ⟨m1, m2, _⟩ := net_at HV.out k hkl
                rcases HE.out with ⟨_, h2⟩ | ⟨h2, _⟩ <;> omega
              rw [hy]
              obtain ⟨y0, y1, y2, y3, y4⟩ := T5.out.five
              have x2 := T5.out.hf.cellAt y (by omega)
              rw [encI_at fs y (by have := HQ.out.tv.lf; omega)] at x2
              have j0 : (0 : Int) ≤ y := by omega
              have j1 : (y : Int) < nb := by omega
              clear hy hof
              by_cases hvy : at_ fs y < 0
              · have hvd : decide (at_ fs y < 0) = true := by simp; omega
                obtain ⟨HQ6, HD6, HX6⟩ := HQ.out.push hlt HX.out HD.out HE.out hkl HOK.out (by have := HBN.out; omega) (show fd < bs.length by have := HBN.out; omega) hvy
                have S6 := hide HQ6
                have D6 := hide HD6
                have X6 := hide HX6
                have z1 := T5.out.hf.frozenAt y
                have z2 := T5.out.hp.frozenAt y
                have x3 := T5.out.hp.cellAt y (by omega)
                rw [encI_at ps y (by have := HQ.out.tv.lp; omega)] at x3
                have L0 := LL.out
                obtain ⟨l1, l2, l3, l4, l5, l6, l7, l8, l9⟩ := L0
                clear hvy HQ6 HD6 HX6
                have T7 := hide ((T5.out.mark LL.out hyn fd k).to (Below.refl _ _).drew)
                have K7 := hide (((K5.out.setCell (p := ⟨qf, y, none⟩) l2 (.int .i64 (fd : Int))).setCell (p := ⟨qp, y, none⟩) l3 (.int .i64 (k : Int))).drew)
                have hz7 : w.heap.size ≤ ((w5.setCell ⟨qf, y, none⟩ (.int .i64 (fd : Int))).setCell ⟨qp, y, none⟩ (.int .i64 (k : Int))).drew.heap.size := by simpa using hz5
                go_wp2_with fail
                go_region
                generalize ((w5.setCell ⟨qf, y, none⟩ (.int .i64 (fd : Int))).setCell ⟨qp, y, none⟩ (.int .i64 (k : Int))).drew = w7 at *
                clear y0 y1 y2 y3 y4 x2 z1 z2 x3 T5 K5 e0 hvd
                obtain ⟨y0, y1, y2, y3, y4⟩ := T7.out.five
                have f4 := T7.out.tr.frozen 4
                have hgw7 := T7.out.tr.lt
                go_wp2_with (at_builtin; refine app_int w7 rfl (.tmp 92) (.tmp 94) rfl ob E ord.length f ord y rfl T7.out.ho w7.heap.size rfl rfl (by omega) (by omega) ?_; intro D2 d2 w8 ho8 hg8; have T8 := hide (T7.out.app LL.out (by omega) ho8 hg8); have K8 := hide (K7.out.trans ((grown_below T7.out.ho hg8 (by omega)).mono (show base ≤ ob by omega))); have B8 := (T7.out.tr.below (grown_below T7.out.ho hg8 (by omega)) l4); have z4 := B8.cell 4; have z5 := B8.frozen 4; have hz8 := hg8.size; clear ho8 hg8 B8)
                have K9 := hide (K8.out.setCell (p := ⟨g, 4, none⟩) l1 (.slice D2 (ord.length + 1) d2))
                have hz9 : w.heap.size ≤ (w8.setCell ⟨g, 4, none⟩ (.slice D2 (ord.length + 1) d2)).heap.size := by simp; omega
                have hol9 := nodup_len nb _ S6.out.nod (fun x hx => by have := S6.out.rng x hx; omega)
                go_roundw
                case rel => exact ⟨k + 1, _, _, _, D2, d2, by omega, by simp; omega, hol9, by go_num, hz9, X6, T8, S6, D6, K9⟩
                case measure => simp [intOf]; omega
              · have hvd : decide (at_ fs y < 0) = false := by simp; omega
                have HVY := hide (show 0 ≤ at_ fs y by omega)
                clear hvy
                go_wp2_with fail
                go_roundw
                case rel => exact ⟨k + 1, fs, ps, ord, E, f, by omega, hlt, hon, by go_num, hz5, HX, T5, HQ, hide (SK.out fun _ q hq => by
                    have : q = y := by
                      have h1 := of_ends hq
                      have h2 := of_ends HE.out
                      omega
                    rw [this]; exact HVY.out), K5⟩
                case measure => simp [intOf]; omega
            · have hng : decide (0 ≤ otherF (at3 ls k) x) = false := by simp; omega
              have HOF := hide (show otherF (at3 ls k) x < 0 by omega)
              go_wp2_with fail
              go_roundw
              case rel => exact ⟨k + 1, fs, ps, ord, E, f, by omega, hlt, hon, by go_num, hz5, HX, T5, HQ, hide (SK.out fun _ q hq => by
                  have h1 := of_ends hq
                  have h2 := HOF.out
                  omega), K5⟩
              case measure => simp [intOf]; omega
        · obtain rfl : k = ls.length := by omega
          go_wp2_with fail
          go_roundw
          case rel => exact ⟨fr + 1, fs, ps, ord, E, f, by omega, hon, by go_num, hzr, HT, hide (HQ.out.pop hlt HX.out HD.out), HK⟩
          case measure => simp [intOf]; omega
    · obtain rfl : fr = ord.length := by omega
      go_wp2_with fail
      refine bodyPost_end (v := .tuple #[]) (by simp [results, Tryd.results50, go_sem]) rfl ⟨rfl, fs, ps, ord, E, f, HT.out, HQ.out, HK.out⟩

end Go.Proofs.YtbebhbcjdiahcaaDoor
