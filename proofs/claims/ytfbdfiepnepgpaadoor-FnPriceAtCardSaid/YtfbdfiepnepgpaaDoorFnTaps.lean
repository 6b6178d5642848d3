/-
  The law FnTapsValid over drawn loads: the walk.
-/
import Derived.Test.YtfbdfiepnepgpaaDoorPhases
import Derived.Test.YtfbdfiepnepgpaaDoorTaps
import Derived.Test.YtfbdfiepnepgpaaDoorNet
namespace Go.Proofs.YtfbdfiepnepgpaaDoor
open Go.RowKit
set_option linter.unusedVariables false

/-- A list behind its first k elements. -/
theorem Sl.from_ {w : World} {B size b off n : Nat} {cs : List Value} (h : Sl w B size (some ⟨b, off, none⟩) n cs) (k : Nat) (hk : k ≤ n) : Sl w B size (some ⟨b, off + k * size, none⟩) (n - k) (cs.drop (k * size)) := by
  refine ⟨by rw [List.length_drop, h.1, Nat.sub_mul], fun hn => ?_⟩
  obtain ⟨b', off', e, hb, hc⟩ := h.2 (by omega)
  injection e with e
  injection e with e1 e2
  subst e1 e2
  refine ⟨b, off + k * size, rfl, hb, fun j u hu => ?_⟩
  rw [List.getElem?_drop] at hu
  have := hc _ _ hu
  rwa [← Nat.add_assoc] at this
theorem encI_drop (xs : List Int) (k : Nat) : encI (xs.drop k) = (encI xs).drop k := by simp [encI, List.map_drop]
theorem Sl.dropI {w : World} {B b off : Nat} {xs : List Int} (h : Sl w B 1 (some ⟨b, off, none⟩) xs.length (encI xs)) (k : Nat) (hk : k ≤ xs.length) : Sl w B 1 (some ⟨b, off + k, none⟩) (xs.drop k).length (encI (xs.drop k)) := by
  have := h.from_ k hk
  rw [Nat.mul_one] at this
  rw [List.length_drop, encI_drop]
  exact this

/-- A drawn list, in memory of the call's own. -/
def GotI (L : Nat) (lo hi : Int) (w : World) (e : Ending) (w' : World) : Prop :=
  ∃ xs D d, xs.length ≤ L ∧ (∀ n ∈ xs, lo ≤ n ∧ n ≤ hi) ∧ e = .returned (.slice D xs.length d) ∧ w'.ownsRow w.heap.size 3 1 (.slice D xs.length d) xs.length (encI xs) ∧ Below w.heap.size w w'

theorem DrawTapsValid_any (A : Option Addr) (c : Nat) (xs : List Int) (w : World) (h : Sl w w.heap.size 1 A xs.length (encU xs)) (hc : xs.length ≤ c) (hm : c ≤ maxLen) (hx : ∀ n ∈ xs, 0 ≤ n ∧ n ≤ 255) :
    Calls Tryd.prog 22 #[.slice A xs.length c] w (GotI 7 (-1) 1000 w) := by
  go_enter Tryd.func22, Tryd.ntmps22
  go_wp2_with fail
  refine (l20Open_any _ _ _ _ h hc hm hx).mono ?_
  rintro e w0 ⟨rfl, hr, hb⟩
  have hr0 : RdU w.heap.size w0 w.heap.size 0 := ⟨0, Nat.le_refl _, hr⟩
  have K := hide hb
  have hs := hb.size
  clear hr hb hx
  go_wp2_with fail
  refine (l20Taps_any _ _ _ _ _ hr0 (by omega) (by omega)).mono ?_
  rintro e w1 ⟨ys, D, d, h1, h2, rfl, h3, h4, h5⟩
  have K1 := hide (K.out.trans (below_of_grown h5 (Nat.le_refl _) hr0.lt))
  have H2 := hide h2
  have H3 := hide (own_mono h3 hs)
  clear h2 h3 h4 h5 hr0
  go_wp2_with fail
  go_ret
  exact ⟨ys, D, d, h1, H2.out, rfl, H3.out, K1.out⟩

theorem DrawBestPhases_any (A : Option Addr) (c : Nat) (xs : List Int) (w : World) (h : Sl w w.heap.size 1 A xs.length (encU xs)) (hc : xs.length ≤ c) (hm : c ≤ maxLen) (hx : ∀ n ∈ xs, 0 ≤ n ∧ n ≤ 255) :
    Calls Tryd.prog 51 #[.slice A xs.length c] w (GotI 7 (-1) 1000 w) := by
  go_enter Tryd.func51, Tryd.ntmps51
  go_wp2_with fail
  refine (l20Open_any _ _ _ _ h hc hm hx).mono ?_
  rintro e w0 ⟨rfl, hr, hb⟩
  have hr0 : RdU w.heap.size w0 w.heap.size 0 := ⟨0, Nat.le_refl _, hr⟩
  have K := hide hb
  have hs := hb.size
  clear hr hb hx
  go_wp2_with fail
  refine (l20Taps_any _ _ _ _ _ hr0 (by omega) (by omega)).mono ?_
  rintro e w1 ⟨ys, D, d, h1, h2, rfl, h3, h4, h5⟩
  have K1 := hide (K.out.trans (below_of_grown h5 (Nat.le_refl _) hr0.lt))
  have H2 := hide h2
  have H3 := hide (own_mono h3 hs)
  clear h2 h3 h4 h5 hr0
  go_wp2_with fail
  go_ret
  exact ⟨ys, D, d, h1, H2.out, rfl, H3.out, K1.out⟩

theorem taps_more (xs : List Int) : tapsB (xs ++ [-1]) = false := by
  simp [tapsB, inB]
theorem taps_less {xs : List Int} (h : tapsB xs = true) (k : Nat) : tapsB (xs.drop k) = true := by
  simp only [tapsB, Bool.and_eq_true, decide_eq_true_eq, List.all_eq_true] at h ⊢
  refine ⟨by rw [List.length_drop]; omega, fun x hx => h.2 x (List.mem_of_mem_drop hx)⟩

theorem own_cap {w : World} {base : Nat} {e : TypeId} {size n c : Nat} {A : Option Addr} {cs : List Value} (h : w.ownsRow base e size (.slice A n c) n cs) : n ≤ c := by
  obtain ⟨A', c', he, h1, _⟩ := own_slice h
  injection he with _ _ h3
  omega
theorem Sl.nil (w : World) (B : Nat) (size : Nat) (A : Option Addr) (xs : List Int) (h : xs.length = 0) : Sl w B size A xs.length (encI xs) := by
  have : xs = [] := List.eq_nil_of_length_eq_zero h
  subst this
  exact ⟨by simp [encI], fun hn => absurd hn (by simp)⟩

theorem taps_cases (xs : List Int) : tapsB xs = false ∨ (tapsB xs = true ∧ xs = []) ∨ (tapsB xs = true ∧ ¬ xs = []) := by
  cases tapsB xs
  · exact .inl rfl
  · by_cases h : xs = []
    · exact .inr (.inl ⟨rfl, h⟩)
    · exact .inr (.inr ⟨rfl, h⟩)

theorem fnTapsValid_walk (A0 : Option Addr) (c0 : Nat) (x0 : List Int) (w : World) (l0 : x0.length ≤ c0) (m0 : c0 ≤ maxLen) (s0 : Sl w w.heap.size 1 A0 x0.length (encU x0)) (i0 : ∀ n ∈ x0, 0 ≤ n ∧ n ≤ 255) :
    Calls Tryd.prog 5 #[.slice A0 x0.length c0] w fun e w' => e = .returned (.bool true) ∧ Below w.heap.size w w' := by
  have hm2 := m0
  unfold maxLen at m0
  by_cases hm : x0.length ≤ 1048576
  · have HC := hide (DrawTapsValid_any A0 c0 x0 w s0 l0 hm2 i0)
    clear i0 s0
    go_enter Tryd.func5, Tryd.ntmps5
    go_wp2_with fail
    refine HC.out.mono ?_
    rintro e w1 ⟨ys, D, d, hl, hr, rfl, ho, hb1⟩
    have K := hide hb1
    have HR := hide hr
    have HO := hide ho
    have hs := hb1.size
    clear hb1 HC hr ho
    have HS := hide (Sl.of_own HO.out)
    go_wp2_with fail
    refine (implTapsValid_any _ _ _ _ HS.out (by omega)).mono ?_
    rintro e w' ⟨rfl, rfl⟩
    go_wp2_with fail
    refine (specTapsValid_any _ _ _ _ HS.out (by omega)).mono ?_
    rintro e w' ⟨rfl, rfl⟩
    have A1 := hide (World.ownsRow_lit (base := w.heap.size) (e := 3) (size := 1) w1 #[] 0 hs (Nat.zero_le _) rfl)
    have HT := hide (taps_cases ys)
    rcases HT.out with hv | ⟨hv, h0⟩ | ⟨hv, h0⟩
    all_goals
      rw [hv]
      have HV := hide hv
      clear hv HT
    · skip
      have A2 := hide (Sl.of_own (HO.out.alloc (.cells #[] 3)))
      go_wp2_with (at_builtin; first | (refine app_ints _ rfl (.tmp 29) (.tmp 30) rfl w.heap.size _ 0 0 [] rfl A1.out _ _ ys.length _ ys rfl A2.out (by simp; omega) (by omega) (by omega) ?_; intro D2 d2 w2 ho2 hg2; rw [Nat.zero_add] at ho2 ⊢; have HO2 := hide ho2; have HB2 := hide (K.out.trans (((Below.refl w.heap.size w1).alloc (by omega) _).trans (grown_below A1.out hg2 (by simp; omega)))); have hs2 := HB2.out.size; clear ho2 hg2) | (refine app_int_w w2 rfl (.tmp 31) (.tmp 32) rfl w.heap.size D2 ys.length d2 ([] ++ ys) (-1) rfl HO2.out w2.heap.size rfl rfl (by omega) (by omega) ?_; intro D3 d3 w3 ho3 hg3; have HO3 := hide ho3; have HB3 := hide (HB2.out.trans (grown_below HO2.out hg3 hs2)); clear ho3 hg3))
      have S3 := Sl.of_own HO3.out
      rw [show ys.length + 1 = (ys ++ [-1]).length by simp] at S3 ⊢
      refine (implTapsValid_any _ _ _ _ S3 (by simp; omega)).mono ?_
      rintro e w' ⟨rfl, rfl⟩
      rw [taps_more]
      clear S3
      go_wp2_with fail
      refine (alive_any _).mono ?_
      rintro e w4 ⟨rfl, hb4⟩
      have K2 := hide (HB3.out.then hb4)
      clear hb4
      go_wp2_with fail
      go_ret
      exact ⟨rfl, K2.out⟩
    · have hp' : ((ys.length : Int) == 0) = true := by simp [h0]
      have H0 := hide h0
      clear h0
      have A2 := hide (Sl.of_own (HO.out.alloc (.cells #[] 3)))
      go_wp2_with (at_builtin; first | (refine app_ints _ rfl (.tmp 29) (.tmp 30) rfl w.heap.size _ 0 0 [] rfl A1.out _ _ ys.length _ ys rfl A2.out (by simp; omega) (by omega) (by omega) ?_; intro D2 d2 w2 ho2 hg2; rw [Nat.zero_add] at ho2 ⊢; have HO2 := hide ho2; have HB2 := hide (K.out.trans (((Below.refl w.heap.size w1).alloc (by omega) _).trans (grown_below A1.out hg2 (by simp; omega)))); have hs2 := HB2.out.size; clear ho2 hg2) | (refine app_int_w w2 rfl (.tmp 31) (.tmp 32) rfl w.heap.size D2 ys.length d2 ([] ++ ys) (-1) rfl HO2.out w2.heap.size rfl rfl (by omega) (by omega) ?_; intro D3 d3 w3 ho3 hg3; have HO3 := hide ho3; have HB3 := hide (HB2.out.trans (grown_below HO2.out hg3 hs2)); clear ho3 hg3))
      have S3 := Sl.of_own HO3.out
      rw [show ys.length + 1 = (ys ++ [-1]).length by simp] at S3 ⊢
      refine (implTapsValid_any _ _ _ _ S3 (by simp; omega)).mono ?_
      rintro e w' ⟨rfl, rfl⟩
      rw [taps_more]
      clear S3
      go_wp2_with fail
      refine (alive_any _).mono ?_
      rintro e w4 ⟨rfl, hb4⟩
      have K2 := hide (HB3.out.then hb4)
      clear hb4
      go_wp2_with fail
      go_ret
      exact ⟨rfl, K2.out⟩
    · have hp : 0 < ys.length := List.length_pos_iff.2 h0
      have hp' : ((ys.length : Int) == 0) = false := by simp [h0]
      have hd : ys.length ≤ d := own_cap HO.out
      obtain ⟨g, cap, hvv, _, _⟩ := HO.out.form hp
      cases hvv
      have HD := hide (HS.out.dropI 1 (by omega))
      by_cases hd1 : d = 1
      · subst hd1
        have HN := hide (Sl.nil w1 w1.heap.size 1 (some ⟨g, 0, none⟩) [] rfl)
        go_wp2_with fail
        refine (implTapsValid_any _ _ [] _ HN.out (by simp)).mono ?_
        rintro e w' ⟨rfl, rfl⟩
        rw [show tapsB [] = true from rfl]
        have A2 := hide (Sl.of_own (HO.out.alloc (.cells #[] 3)))
        go_wp2_with (at_builtin; first | (refine app_ints _ rfl (.tmp 29) (.tmp 30) rfl w.heap.size _ 0 0 [] rfl A1.out _ _ ys.length _ ys rfl A2.out (by simp; omega) (by omega) (by omega) ?_; intro D2 d2 w2 ho2 hg2; rw [Nat.zero_add] at ho2 ⊢; have HO2 := hide ho2; have HB2 := hide (K.out.trans (((Below.refl w.heap.size w1).alloc (by omega) _).trans (grown_below A1.out hg2 (by simp; omega)))); have hs2 := HB2.out.size; clear ho2 hg2) | (refine app_int_w w2 rfl (.tmp 31) (.tmp 32) rfl w.heap.size D2 ys.length d2 ([] ++ ys) (-1) rfl HO2.out w2.heap.size rfl rfl (by omega) (by omega) ?_; intro D3 d3 w3 ho3 hg3; have HO3 := hide ho3; have HB3 := hide (HB2.out.trans (grown_below HO2.out hg3 hs2)); clear ho3 hg3))
        have S3 := Sl.of_own HO3.out
        rw [show ys.length + 1 = (ys ++ [-1]).length by simp] at S3 ⊢
        refine (implTapsValid_any _ _ _ _ S3 (by simp; omega)).mono ?_
        rintro e w' ⟨rfl, rfl⟩
        rw [taps_more]
        clear S3
        go_wp2_with fail
        refine (alive_any _).mono ?_
        rintro e w4 ⟨rfl, hb4⟩
        have K2 := hide (HB3.out.then hb4)
        clear hb4
        go_wp2_with fail
        go_ret
        exact ⟨rfl, K2.out⟩
      · have hd2 : ¬ 1 = d := fun h => hd1 h.symm
        go_wp2_with fail
        rw [← List.length_drop]
        refine (implTapsValid_any _ _ _ _ HD.out (by simp; omega)).mono ?_
        rintro e w' ⟨rfl, rfl⟩
        rw [taps_less HV.out]
        have A2 := hide (Sl.of_own (HO.out.alloc (.cells #[] 3)))
        go_wp2_with (at_builtin; first | (refine app_ints _ rfl (.tmp 29) (.tmp 30) rfl w.heap.size _ 0 0 [] rfl A1.out _ _ ys.length _ ys rfl A2.out (by simp; omega) (by omega) (by omega) ?_; intro D2 d2 w2 ho2 hg2; rw [Nat.zero_add] at ho2 ⊢; have HO2 := hide ho2; have HB2 := hide (K.out.trans (((Below.refl w.heap.size w1).alloc (by omega) _).trans (grown_below A1.out hg2 (by simp; omega)))); have hs2 := HB2.out.size; clear ho2 hg2) | (refine app_int_w w2 rfl (.tmp 31) (.tmp 32) rfl w.heap.size D2 ys.length d2 ([] ++ ys) (-1) rfl HO2.out w2.heap.size rfl rfl (by omega) (by omega) ?_; intro D3 d3 w3 ho3 hg3; have HO3 := hide ho3; have HB3 := hide (HB2.out.trans (grown_below HO2.out hg3 hs2)); clear ho3 hg3))
        have S3 := Sl.of_own HO3.out
        rw [show ys.length + 1 = (ys ++ [-1]).length by simp] at S3 ⊢
        refine (implTapsValid_any _ _ _ _ S3 (by simp; omega)).mono ?_
        rintro e w' ⟨rfl, rfl⟩
        rw [taps_more]
        clear S3
        go_wp2_with fail
        refine (alive_any _).mono ?_
        rintro e w4 ⟨rfl, hb4⟩
        have K2 := hide (HB3.out.then hb4)
        clear hb4
        go_wp2_with fail
        go_ret
        exact ⟨rfl, K2.out⟩
  · go_enter Tryd.func5, Tryd.ntmps5
    go_wp2_with fail
    go_ret
    exact ⟨rfl, Below.refl _ _⟩

end Go.Proofs.YtfbdfiepnepgpaaDoor
