/-
  The laws FnJobsValid and FnPlantsValid over drawn lists: the walks. (Written by a program of mine, wip/tools/gen4.py.)
-/
import Derived.Test.YtfbdfiepnepgpaaDoorValid
import Derived.Test.YtfbdfiepnepgpaaDoorFnTaps
import Derived.Test.YtfbdfiepnepgpaaDoorDrawPairs
namespace Go.Proofs.YtfbdfiepnepgpaaDoor
open Go.RowKit
set_option linter.unusedVariables false

theorem enc2_drop (xs : List (Int × Int)) (k : Nat) : enc2 (xs.drop k) = (enc2 xs).drop (k * 2) := by
  induction k generalizing xs with
  | zero => simp
  | succ k ih =>
    cases xs with
    | nil => simp [enc2]
    | cons a t =>
      rw [show (k + 1) * 2 = k * 2 + 2 by omega]
      simpa [enc2] using ih t
theorem Sl.drop2 {w : World} {B b off : Nat} {xs : List (Int × Int)} (h : Sl w B 2 (some ⟨b, off, none⟩) xs.length (enc2 xs)) (k : Nat) (hk : k ≤ xs.length) : Sl w B 2 (some ⟨b, off + k * 2, none⟩) (xs.drop k).length (enc2 (xs.drop k)) := by
  have := h.from_ k hk
  rw [List.length_drop, enc2_drop]
  exact this
theorem Sl.nil2 (w : World) (B : Nat) (A : Option Addr) : Sl w B 2 A ([] : List (Int × Int)).length (enc2 []) := ⟨by simp [enc2], fun hn => absurd hn (by simp)⟩

/-- A drawn list of pairs, in memory of the call's own. -/
def Got2 (t : TypeId) (L : Nat) (w : World) (e : Ending) (w' : World) : Prop :=
  ∃ (xs : List (Int × Int)) (D : Option Addr) (d : Nat), xs.length ≤ L ∧ (∀ p ∈ xs, (-1 ≤ p.1 ∧ p.1 ≤ 1000) ∧ (-1 ≤ p.2 ∧ p.2 ≤ 1000)) ∧ e = .returned (.slice D xs.length d) ∧ w'.ownsRow w.heap.size t 2 (.slice D xs.length d) xs.length (enc2 xs) ∧ Below w.heap.size w w'
theorem nil_cases {α : Type} (b : Bool) (xs : List α) : b = false ∨ (b = true ∧ xs = []) ∨ (b = true ∧ ¬ xs = []) := by
  cases b
  · exact .inl rfl
  · by_cases h : xs = []
    · exact .inr (.inl ⟨rfl, h⟩)
    · exact .inr (.inr ⟨rfl, h⟩)

theorem DrawJobsValid_any (A : Option Addr) (c : Nat) (xs : List Int) (w : World) (h : Sl w w.heap.size 1 A xs.length (encU xs)) (hc : xs.length ≤ c) (hm : c ≤ maxLen) (hx : ∀ n ∈ xs, 0 ≤ n ∧ n ≤ 255) :
    Calls Tryd.prog 25 #[.slice A xs.length c] w (Got2 35 9 w) := by
  go_enter Tryd.func25, Tryd.ntmps25
  go_wp2_with fail
  refine (l20Open_any _ _ _ _ h hc hm hx).mono ?_
  rintro e w0 ⟨rfl, hr, hb⟩
  have hr0 : RdU w.heap.size w0 w.heap.size 0 := ⟨0, Nat.le_refl _, hr⟩
  have K := hide hb
  have hs := hb.size
  clear hr hb hx
  go_wp2_with fail
  refine (l20Jobs_any _ _ _ _ _ hr0 (by omega) (by omega)).mono ?_
  rintro e w1 ⟨ys, D, d, h1, h2, rfl, h3, h4, h5⟩
  have K1 := hide (K.out.trans (below_of_grown h5 (Nat.le_refl _) hr0.lt))
  have H2 := hide h2
  have H3 := hide (own_mono h3 hs)
  clear h2 h3 h4 h5 hr0
  go_wp2_with fail
  go_ret
  exact ⟨ys, D, d, h1, H2.out, rfl, H3.out, K1.out⟩

theorem job_more (xs : List (Int × Int)) : jobB (xs ++ [(0, 0)]) = false := by
  simp [jobB, inB]
theorem job_less {xs : List (Int × Int)} (h : jobB xs = true) (k : Nat) : jobB (xs.drop k) = true := by
  simp only [jobB, Bool.and_eq_true, decide_eq_true_eq, List.all_eq_true] at h ⊢
  refine ⟨by rw [List.length_drop]; omega, fun x hx => h.2 x (List.mem_of_mem_drop hx)⟩

theorem fnJobsValid_walk (A0 : Option Addr) (c0 : Nat) (x0 : List Int) (w : World) (l0 : x0.length ≤ c0) (m0 : c0 ≤ maxLen) (s0 : Sl w w.heap.size 1 A0 x0.length (encU x0)) (i0 : ∀ n ∈ x0, 0 ≤ n ∧ n ≤ 255) :
    Calls Tryd.prog 6 #[.slice A0 x0.length c0] w fun e w' => e = .returned (.bool true) ∧ Below w.heap.size w w' := by
  have hm2 := m0
  unfold maxLen at m0
  by_cases hm : x0.length ≤ 1048576
  · have HC := hide (DrawJobsValid_any A0 c0 x0 w s0 l0 hm2 i0)
    clear i0 s0
    go_enter Tryd.func6, Tryd.ntmps6
    go_wp2_with fail
    refine HC.out.mono ?_
    rintro e w1 ⟨ys, D, d, hl, hr, rfl, ho, hb1⟩
    have K := hide hb1
    have HR := hide hr
    have HO := hide ho
    have hs := hb1.size
    clear hb1 HC hr ho
    have HS := hide (Sl.of_own HO.out)
    go_wp2_with fail
    refine (implJobsValid_any _ _ _ _ HS.out (by omega)).mono ?_
    rintro e w2 ⟨rfl, hb2⟩
    have HO2 := hide (HO.out.keepB hb2)
    have K2 := hide (K.out.trans (hb2.mono hs))
    have hs2 := K2.out.size
    have HS2 := hide (Sl.of_own HO2.out)
    clear hb2
    go_wp2_with fail
    refine (specJobsValid_any _ _ _ _ HS2.out (by omega)).mono ?_
    rintro e w' ⟨rfl, rfl⟩
    have HT := hide (nil_cases (jobB ys) ys)
    rcases HT.out with hv | ⟨hv, h0⟩ | ⟨hv, h0⟩
    all_goals
      rw [hv]
      have HV := hide hv
      clear hv HT
    · have A1 := hide (World.ownsRow_lit (base := w.heap.size) (e := 35) (size := 2) w2 #[] 0 hs2 (Nat.zero_le _) rfl)
      have A2 := hide (Sl.of_own (HO2.out.alloc (.cells #[] 35)))
      go_wp2_with (at_builtin; first | (refine app_twos 31 35 Tryd.underlying31 infoJob _ rfl (.tmp 29) (.tmp 30) rfl w.heap.size _ 0 0 [] rfl A1.out _ _ ys.length _ ys rfl A2.out (by simp; omega) (by omega) (by omega) ?_; intro D2 d2 w4 ho4 hg4; rw [Nat.zero_add] at ho4 ⊢; have HO4 := hide ho4; have HB4 := hide (K2.out.trans (((Below.refl w.heap.size w2).alloc (by omega) _).trans (grown_below A1.out hg4 (by simp; omega)))); have hs4 := HB4.out.size; clear ho4 hg4) | (refine app_two 31 35 Tryd.underlying31 infoJob w4 rfl (.tmp 31) (.tmp 33) rfl w.heap.size D2 ys.length d2 ([] ++ ys) (0, 0) rfl HO4.out w4.heap.size rfl rfl (by omega) (by omega) ?_; intro D3 d3 w5 ho5 hg5; have HO5 := hide ho5; have HB5 := hide (HB4.out.trans (grown_below HO4.out hg5 hs4)); clear ho5 hg5))
      have S5 := Sl.of_own HO5.out
      rw [show ys.length + 1 = (ys ++ [(0, 0)]).length by simp] at S5 ⊢
      refine (implJobsValid_any _ _ _ _ S5 (by simp; omega)).mono ?_
      rintro e w6 ⟨rfl, hb6⟩
      have HB6 := hide (HB5.out.trans (hb6.mono HB5.out.size))
      rw [job_more]
      clear S5 hb6
      go_wp2_with fail
      refine (implJobsValid_any none 0 [] _ (Sl.nil2 _ _ _) (by simp)).mono ?_
      rintro e w7 ⟨rfl, hb7⟩
      have HB7 := hide (HB6.out.trans (hb7.mono HB6.out.size))
      rw [show jobB [] = true from rfl]
      clear hb7
      go_wp2_with fail
      refine (alive_any _).mono ?_
      rintro e w8 ⟨rfl, hb8⟩
      have HB8 := hide (HB7.out.trans (hb8.mono HB7.out.size))
      clear hb8
      go_wp2_with fail
      go_ret
      exact ⟨rfl, HB8.out⟩
    · have hp' : ((ys.length : Int) == 0) = true := by simp [h0]
      have H0 := hide h0
      clear h0
      have A1 := hide (World.ownsRow_lit (base := w.heap.size) (e := 35) (size := 2) w2 #[] 0 hs2 (Nat.zero_le _) rfl)
      have A2 := hide (Sl.of_own (HO2.out.alloc (.cells #[] 35)))
      go_wp2_with (at_builtin; first | (refine app_twos 31 35 Tryd.underlying31 infoJob _ rfl (.tmp 29) (.tmp 30) rfl w.heap.size _ 0 0 [] rfl A1.out _ _ ys.length _ ys rfl A2.out (by simp; omega) (by omega) (by omega) ?_; intro D2 d2 w4 ho4 hg4; rw [Nat.zero_add] at ho4 ⊢; have HO4 := hide ho4; have HB4 := hide (K2.out.trans (((Below.refl w.heap.size w2).alloc (by omega) _).trans (grown_below A1.out hg4 (by simp; omega)))); have hs4 := HB4.out.size; clear ho4 hg4) | (refine app_two 31 35 Tryd.underlying31 infoJob w4 rfl (.tmp 31) (.tmp 33) rfl w.heap.size D2 ys.length d2 ([] ++ ys) (0, 0) rfl HO4.out w4.heap.size rfl rfl (by omega) (by omega) ?_; intro D3 d3 w5 ho5 hg5; have HO5 := hide ho5; have HB5 := hide (HB4.out.trans (grown_below HO4.out hg5 hs4)); clear ho5 hg5))
      have S5 := Sl.of_own HO5.out
      rw [show ys.length + 1 = (ys ++ [(0, 0)]).length by simp] at S5 ⊢
      refine (implJobsValid_any _ _ _ _ S5 (by simp; omega)).mono ?_
      rintro e w6 ⟨rfl, hb6⟩
      have HB6 := hide (HB5.out.trans (hb6.mono HB5.out.size))
      rw [job_more]
      clear S5 hb6
      go_wp2_with fail
      refine (implJobsValid_any none 0 [] _ (Sl.nil2 _ _ _) (by simp)).mono ?_
      rintro e w7 ⟨rfl, hb7⟩
      have HB7 := hide (HB6.out.trans (hb7.mono HB6.out.size))
      rw [show jobB [] = true from rfl]
      clear hb7
      go_wp2_with fail
      refine (alive_any _).mono ?_
      rintro e w8 ⟨rfl, hb8⟩
      have HB8 := hide (HB7.out.trans (hb8.mono HB7.out.size))
      clear hb8
      go_wp2_with fail
      go_ret
      exact ⟨rfl, HB8.out⟩
    · have hp : 0 < ys.length := List.length_pos_iff.2 h0
      have hp' : ((ys.length : Int) == 0) = false := by simp [h0]
      have hd : ys.length ≤ d := own_cap HO2.out
      obtain ⟨g, cap, hvv, _, _⟩ := HO2.out.form hp
      cases hvv
      have HD := hide (HS2.out.drop2 1 (by omega))
      by_cases hd1 : d = 1
      · subst hd1
        go_wp2_with fail
        refine (implJobsValid_any _ _ [] _ (Sl.nil2 _ _ _) (by simp)).mono ?_
        rintro e w3 ⟨rfl, hb3⟩
        have HO3 := hide (HO2.out.keepB hb3)
        have K3 := hide (K2.out.trans (hb3.mono hs2))
        have hs3 := K3.out.size
        clear hb3
        rw [show jobB [] = true from rfl]
        have A1 := hide (World.ownsRow_lit (base := w.heap.size) (e := 35) (size := 2) w3 #[] 0 hs3 (Nat.zero_le _) rfl)
        have A2 := hide (Sl.of_own (HO3.out.alloc (.cells #[] 35)))
        go_wp2_with (at_builtin; first | (refine app_twos 31 35 Tryd.underlying31 infoJob _ rfl (.tmp 29) (.tmp 30) rfl w.heap.size _ 0 0 [] rfl A1.out _ _ ys.length _ ys rfl A2.out (by simp; omega) (by omega) (by omega) ?_; intro D2 d2 w4 ho4 hg4; rw [Nat.zero_add] at ho4 ⊢; have HO4 := hide ho4; have HB4 := hide (K3.out.trans (((Below.refl w.heap.size w3).alloc (by omega) _).trans (grown_below A1.out hg4 (by simp; omega)))); have hs4 := HB4.out.size; clear ho4 hg4) | (refine app_two 31 35 Tryd.underlying31 infoJob w4 rfl (.tmp 31) (.tmp 33) rfl w.heap.size D2 ys.length d2 ([] ++ ys) (0, 0) rfl HO4.out w4.heap.size rfl rfl (by omega) (by omega) ?_; intro D3 d3 w5 ho5 hg5; have HO5 := hide ho5; have HB5 := hide (HB4.out.trans (grown_below HO4.out hg5 hs4)); clear ho5 hg5))
        have S5 := Sl.of_own HO5.out
        rw [show ys.length + 1 = (ys ++ [(0, 0)]).length by simp] at S5 ⊢
        refine (implJobsValid_any _ _ _ _ S5 (by simp; omega)).mono ?_
        rintro e w6 ⟨rfl, hb6⟩
        have HB6 := hide (HB5.out.trans (hb6.mono HB5.out.size))
        rw [job_more]
        clear S5 hb6
        go_wp2_with fail
        refine (implJobsValid_any none 0 [] _ (Sl.nil2 _ _ _) (by simp)).mono ?_
        rintro e w7 ⟨rfl, hb7⟩
        have HB7 := hide (HB6.out.trans (hb7.mono HB6.out.size))
        rw [show jobB [] = true from rfl]
        clear hb7
        go_wp2_with fail
        refine (alive_any _).mono ?_
        rintro e w8 ⟨rfl, hb8⟩
        have HB8 := hide (HB7.out.trans (hb8.mono HB7.out.size))
        clear hb8
        go_wp2_with fail
        go_ret
        exact ⟨rfl, HB8.out⟩
      · have hd2 : ¬ 1 = d := fun h => hd1 h.symm
        go_wp2_with fail
        rw [← List.length_drop]
        refine (implJobsValid_any _ _ _ _ HD.out (by simp; omega)).mono ?_
        rintro e w3 ⟨rfl, hb3⟩
        have HO3 := hide (HO2.out.keepB hb3)
        have K3 := hide (K2.out.trans (hb3.mono hs2))
        have hs3 := K3.out.size
        clear hb3
        rw [job_less HV.out]
        have A1 := hide (World.ownsRow_lit (base := w.heap.size) (e := 35) (size := 2) w3 #[] 0 hs3 (Nat.zero_le _) rfl)
        have A2 := hide (Sl.of_own (HO3.out.alloc (.cells #[] 35)))
        go_wp2_with (at_builtin; first | (refine app_twos 31 35 Tryd.underlying31 infoJob _ rfl (.tmp 29) (.tmp 30) rfl w.heap.size _ 0 0 [] rfl A1.out _ _ ys.length _ ys rfl A2.out (by simp; omega) (by omega) (by omega) ?_; intro D2 d2 w4 ho4 hg4; rw [Nat.zero_add] at ho4 ⊢; have HO4 := hide ho4; have HB4 := hide (K3.out.trans (((Below.refl w.heap.size w3).alloc (by omega) _).trans (grown_below A1.out hg4 (by simp; omega)))); have hs4 := HB4.out.size; clear ho4 hg4) | (refine app_two 31 35 Tryd.underlying31 infoJob w4 rfl (.tmp 31) (.tmp 33) rfl w.heap.size D2 ys.length d2 ([] ++ ys) (0, 0) rfl HO4.out w4.heap.size rfl rfl (by omega) (by omega) ?_; intro D3 d3 w5 ho5 hg5; have HO5 := hide ho5; have HB5 := hide (HB4.out.trans (grown_below HO4.out hg5 hs4)); clear ho5 hg5))
        have S5 := Sl.of_own HO5.out
        rw [show ys.length + 1 = (ys ++ [(0, 0)]).length by simp] at S5 ⊢
        refine (implJobsValid_any _ _ _ _ S5 (by simp; omega)).mono ?_
        rintro e w6 ⟨rfl, hb6⟩
        have HB6 := hide (HB5.out.trans (hb6.mono HB5.out.size))
        rw [job_more]
        clear S5 hb6
        go_wp2_with fail
        refine (implJobsValid_any none 0 [] _ (Sl.nil2 _ _ _) (by simp)).mono ?_
        rintro e w7 ⟨rfl, hb7⟩
        have HB7 := hide (HB6.out.trans (hb7.mono HB6.out.size))
        rw [show jobB [] = true from rfl]
        clear hb7
        go_wp2_with fail
        refine (alive_any _).mono ?_
        rintro e w8 ⟨rfl, hb8⟩
        have HB8 := hide (HB7.out.trans (hb8.mono HB7.out.size))
        clear hb8
        go_wp2_with fail
        go_ret
        exact ⟨rfl, HB8.out⟩
  · go_enter Tryd.func6, Tryd.ntmps6
    go_wp2_with fail
    go_ret
    exact ⟨rfl, Below.refl _ _⟩

theorem DrawPlantsValid_any (A : Option Addr) (c : Nat) (xs : List Int) (w : World) (h : Sl w w.heap.size 1 A xs.length (encU xs)) (hc : xs.length ≤ c) (hm : c ≤ maxLen) (hx : ∀ n ∈ xs, 0 ≤ n ∧ n ≤ 255) :
    Calls Tryd.prog 28 #[.slice A xs.length c] w (Got2 40 9 w) := by
  go_enter Tryd.func28, Tryd.ntmps28
  go_wp2_with fail
  refine (l20Open_any _ _ _ _ h hc hm hx).mono ?_
  rintro e w0 ⟨rfl, hr, hb⟩
  have hr0 : RdU w.heap.size w0 w.heap.size 0 := ⟨0, Nat.le_refl _, hr⟩
  have K := hide hb
  have hs := hb.size
  clear hr hb hx
  go_wp2_with fail
  refine (l20Plants_any _ _ _ _ _ hr0 (by omega) (by omega)).mono ?_
  rintro e w1 ⟨ys, D, d, h1, h2, rfl, h3, h4, h5⟩
  have K1 := hide (K.out.trans (below_of_grown h5 (Nat.le_refl _) hr0.lt))
  have H2 := hide h2
  have H3 := hide (own_mono h3 hs)
  clear h2 h3 h4 h5 hr0
  go_wp2_with fail
  go_ret
  exact ⟨ys, D, d, h1, H2.out, rfl, H3.out, K1.out⟩

theorem plant_more (xs : List (Int × Int)) : plantB (xs ++ [(-1, 0)]) = false := by
  simp [plantB, inB]
theorem plant_less {xs : List (Int × Int)} (h : plantB xs = true) (k : Nat) : plantB (xs.drop k) = true := by
  simp only [plantB, Bool.and_eq_true, decide_eq_true_eq, List.all_eq_true] at h ⊢
  refine ⟨by rw [List.length_drop]; omega, fun x hx => h.2 x (List.mem_of_mem_drop hx)⟩

theorem fnPlantsValid_walk (A0 : Option Addr) (c0 : Nat) (x0 : List Int) (w : World) (l0 : x0.length ≤ c0) (m0 : c0 ≤ maxLen) (s0 : Sl w w.heap.size 1 A0 x0.length (encU x0)) (i0 : ∀ n ∈ x0, 0 ≤ n ∧ n ≤ 255) :
    Calls Tryd.prog 7 #[.slice A0 x0.length c0] w fun e w' => e = .returned (.bool true) ∧ Below w.heap.size w w' := by
  have hm2 := m0
  unfold maxLen at m0
  by_cases hm : x0.length ≤ 1048576
  · have HC := hide (DrawPlantsValid_any A0 c0 x0 w s0 l0 hm2 i0)
    clear i0 s0
    go_enter Tryd.func7, Tryd.ntmps7
    go_wp2_with fail
    refine HC.out.mono ?_
    rintro e w1 ⟨ys, D, d, hl, hr, rfl, ho, hb1⟩
    have K := hide hb1
    have HR := hide hr
    have HO := hide ho
    have hs := hb1.size
    clear hb1 HC hr ho
    have HS := hide (Sl.of_own HO.out)
    go_wp2_with fail
    refine (implPlantsValid_any _ _ _ _ HS.out (by omega)).mono ?_
    rintro e w2 ⟨rfl, hb2⟩
    have HO2 := hide (HO.out.keepB hb2)
    have K2 := hide (K.out.trans (hb2.mono hs))
    have hs2 := K2.out.size
    have HS2 := hide (Sl.of_own HO2.out)
    clear hb2
    go_wp2_with fail
    refine (specPlantsValid_any _ _ _ _ HS2.out (by omega)).mono ?_
    rintro e w' ⟨rfl, rfl⟩
    have HT := hide (nil_cases (plantB ys) ys)
    rcases HT.out with hv | ⟨hv, h0⟩ | ⟨hv, h0⟩
    all_goals
      rw [hv]
      have HV := hide hv
      clear hv HT
    · have A1 := hide (World.ownsRow_lit (base := w.heap.size) (e := 40) (size := 2) w2 #[] 0 hs2 (Nat.zero_le _) rfl)
      have A2 := hide (Sl.of_own (HO2.out.alloc (.cells #[] 40)))
      go_wp2_with (at_builtin; first | (refine app_twos 36 40 Tryd.underlying36 infoPlant _ rfl (.tmp 29) (.tmp 30) rfl w.heap.size _ 0 0 [] rfl A1.out _ _ ys.length _ ys rfl A2.out (by simp; omega) (by omega) (by omega) ?_; intro D2 d2 w4 ho4 hg4; rw [Nat.zero_add] at ho4 ⊢; have HO4 := hide ho4; have HB4 := hide (K2.out.trans (((Below.refl w.heap.size w2).alloc (by omega) _).trans (grown_below A1.out hg4 (by simp; omega)))); have hs4 := HB4.out.size; clear ho4 hg4) | (refine app_two 36 40 Tryd.underlying36 infoPlant w4 rfl (.tmp 31) (.tmp 33) rfl w.heap.size D2 ys.length d2 ([] ++ ys) (-1, 0) rfl HO4.out w4.heap.size rfl rfl (by omega) (by omega) ?_; intro D3 d3 w5 ho5 hg5; have HO5 := hide ho5; have HB5 := hide (HB4.out.trans (grown_below HO4.out hg5 hs4)); clear ho5 hg5))
      have S5 := Sl.of_own HO5.out
      rw [show ys.length + 1 = (ys ++ [(-1, 0)]).length by simp] at S5 ⊢
      refine (implPlantsValid_any _ _ _ _ S5 (by simp; omega)).mono ?_
      rintro e w6 ⟨rfl, hb6⟩
      have HB6 := hide (HB5.out.trans (hb6.mono HB5.out.size))
      rw [plant_more]
      clear S5 hb6
      go_wp2_with fail
      refine (implPlantsValid_any none 0 [] _ (Sl.nil2 _ _ _) (by simp)).mono ?_
      rintro e w7 ⟨rfl, hb7⟩
      have HB7 := hide (HB6.out.trans (hb7.mono HB6.out.size))
      rw [show plantB [] = true from rfl]
      clear hb7
      go_wp2_with fail
      refine (alive_any _).mono ?_
      rintro e w8 ⟨rfl, hb8⟩
      have HB8 := hide (HB7.out.trans (hb8.mono HB7.out.size))
      clear hb8
      go_wp2_with fail
      go_ret
      exact ⟨rfl, HB8.out⟩
    · have hp' : ((ys.length : Int) == 0) = true := by simp [h0]
      have H0 := hide h0
      clear h0
      have A1 := hide (World.ownsRow_lit (base := w.heap.size) (e := 40) (size := 2) w2 #[] 0 hs2 (Nat.zero_le _) rfl)
      have A2 := hide (Sl.of_own (HO2.out.alloc (.cells #[] 40)))
      go_wp2_with (at_builtin; first | (refine app_twos 36 40 Tryd.underlying36 infoPlant _ rfl (.tmp 29) (.tmp 30) rfl w.heap.size _ 0 0 [] rfl A1.out _ _ ys.length _ ys rfl A2.out (by simp; omega) (by omega) (by omega) ?_; intro D2 d2 w4 ho4 hg4; rw [Nat.zero_add] at ho4 ⊢; have HO4 := hide ho4; have HB4 := hide (K2.out.trans (((Below.refl w.heap.size w2).alloc (by omega) _).trans (grown_below A1.out hg4 (by simp; omega)))); have hs4 := HB4.out.size; clear ho4 hg4) | (refine app_two 36 40 Tryd.underlying36 infoPlant w4 rfl (.tmp 31) (.tmp 33) rfl w.heap.size D2 ys.length d2 ([] ++ ys) (-1, 0) rfl HO4.out w4.heap.size rfl rfl (by omega) (by omega) ?_; intro D3 d3 w5 ho5 hg5; have HO5 := hide ho5; have HB5 := hide (HB4.out.trans (grown_below HO4.out hg5 hs4)); clear ho5 hg5))
      have S5 := Sl.of_own HO5.out
      rw [show ys.length + 1 = (ys ++ [(-1, 0)]).length by simp] at S5 ⊢
      refine (implPlantsValid_any _ _ _ _ S5 (by simp; omega)).mono ?_
      rintro e w6 ⟨rfl, hb6⟩
      have HB6 := hide (HB5.out.trans (hb6.mono HB5.out.size))
      rw [plant_more]
      clear S5 hb6
      go_wp2_with fail
      refine (implPlantsValid_any none 0 [] _ (Sl.nil2 _ _ _) (by simp)).mono ?_
      rintro e w7 ⟨rfl, hb7⟩
      have HB7 := hide (HB6.out.trans (hb7.mono HB6.out.size))
      rw [show plantB [] = true from rfl]
      clear hb7
      go_wp2_with fail
      refine (alive_any _).mono ?_
      rintro e w8 ⟨rfl, hb8⟩
      have HB8 := hide (HB7.out.trans (hb8.mono HB7.out.size))
      clear hb8
      go_wp2_with fail
      go_ret
      exact ⟨rfl, HB8.out⟩
    · have hp : 0 < ys.length := List.length_pos_iff.2 h0
      have hp' : ((ys.length : Int) == 0) = false := by simp [h0]
      have hd : ys.length ≤ d := own_cap HO2.out
      obtain ⟨g, cap, hvv, _, _⟩ := HO2.out.form hp
      cases hvv
      have HD := hide (HS2.out.drop2 1 (by omega))
      by_cases hd1 : d = 1
      · subst hd1
        go_wp2_with fail
        refine (implPlantsValid_any _ _ [] _ (Sl.nil2 _ _ _) (by simp)).mono ?_
        rintro e w3 ⟨rfl, hb3⟩
        have HO3 := hide (HO2.out.keepB hb3)
        have K3 := hide (K2.out.trans (hb3.mono hs2))
        have hs3 := K3.out.size
        clear hb3
        rw [show plantB [] = true from rfl]
        have A1 := hide (World.ownsRow_lit (base := w.heap.size) (e := 40) (size := 2) w3 #[] 0 hs3 (Nat.zero_le _) rfl)
        have A2 := hide (Sl.of_own (HO3.out.alloc (.cells #[] 40)))
        go_wp2_with (at_builtin; first | (refine app_twos 36 40 Tryd.underlying36 infoPlant _ rfl (.tmp 29) (.tmp 30) rfl w.heap.size _ 0 0 [] rfl A1.out _ _ ys.length _ ys rfl A2.out (by simp; omega) (by omega) (by omega) ?_; intro D2 d2 w4 ho4 hg4; rw [Nat.zero_add] at ho4 ⊢; have HO4 := hide ho4; have HB4 := hide (K3.out.trans (((Below.refl w.heap.size w3).alloc (by omega) _).trans (grown_below A1.out hg4 (by simp; omega)))); have hs4 := HB4.out.size; clear ho4 hg4) | (refine app_two 36 40 Tryd.underlying36 infoPlant w4 rfl (.tmp 31) (.tmp 33) rfl w.heap.size D2 ys.length d2 ([] ++ ys) (-1, 0) rfl HO4.out w4.heap.size rfl rfl (by omega) (by omega) ?_; intro D3 d3 w5 ho5 hg5; have HO5 := hide ho5; have HB5 := hide (HB4.out.trans (grown_below HO4.out hg5 hs4)); clear ho5 hg5))
        have S5 := Sl.of_own HO5.out
        rw [show ys.length + 1 = (ys ++ [(-1, 0)]).length by simp] at S5 ⊢
        refine (implPlantsValid_any _ _ _ _ S5 (by simp; omega)).mono ?_
        rintro e w6 ⟨rfl, hb6⟩
        have HB6 := hide (HB5.out.trans (hb6.mono HB5.out.size))
        rw [plant_more]
        clear S5 hb6
        go_wp2_with fail
        refine (implPlantsValid_any none 0 [] _ (Sl.nil2 _ _ _) (by simp)).mono ?_
        rintro e w7 ⟨rfl, hb7⟩
        have HB7 := hide (HB6.out.trans (hb7.mono HB6.out.size))
        rw [show plantB [] = true from rfl]
        clear hb7
        go_wp2_with fail
        refine (alive_any _).mono ?_
        rintro e w8 ⟨rfl, hb8⟩
        have HB8 := hide (HB7.out.trans (hb8.mono HB7.out.size))
        clear hb8
        go_wp2_with fail
        go_ret
        exact ⟨rfl, HB8.out⟩
      · have hd2 : ¬ 1 = d := fun h => hd1 h.symm
        go_wp2_with fail
        rw [← List.length_drop]
        refine (implPlantsValid_any _ _ _ _ HD.out (by simp; omega)).mono ?_
        rintro e w3 ⟨rfl, hb3⟩
        have HO3 := hide (HO2.out.keepB hb3)
        have K3 := hide (K2.out.trans (hb3.mono hs2))
        have hs3 := K3.out.size
        clear hb3
        rw [plant_less HV.out]
        have A1 := hide (World.ownsRow_lit (base := w.heap.size) (e := 40) (size := 2) w3 #[] 0 hs3 (Nat.zero_le _) rfl)
        have A2 := hide (Sl.of_own (HO3.out.alloc (.cells #[] 40)))
        go_wp2_with (at_builtin; first | (refine app_twos 36 40 Tryd.underlying36 infoPlant _ rfl (.tmp 29) (.tmp 30) rfl w.heap.size _ 0 0 [] rfl A1.out _ _ ys.length _ ys rfl A2.out (by simp; omega) (by omega) (by omega) ?_; intro D2 d2 w4 ho4 hg4; rw [Nat.zero_add] at ho4 ⊢; have HO4 := hide ho4; have HB4 := hide (K3.out.trans (((Below.refl w.heap.size w3).alloc (by omega) _).trans (grown_below A1.out hg4 (by simp; omega)))); have hs4 := HB4.out.size; clear ho4 hg4) | (refine app_two 36 40 Tryd.underlying36 infoPlant w4 rfl (.tmp 31) (.tmp 33) rfl w.heap.size D2 ys.length d2 ([] ++ ys) (-1, 0) rfl HO4.out w4.heap.size rfl rfl (by omega) (by omega) ?_; intro D3 d3 w5 ho5 hg5; have HO5 := hide ho5; have HB5 := hide (HB4.out.trans (grown_below HO4.out hg5 hs4)); clear ho5 hg5))
        have S5 := Sl.of_own HO5.out
        rw [show ys.length + 1 = (ys ++ [(-1, 0)]).length by simp] at S5 ⊢
        refine (implPlantsValid_any _ _ _ _ S5 (by simp; omega)).mono ?_
        rintro e w6 ⟨rfl, hb6⟩
        have HB6 := hide (HB5.out.trans (hb6.mono HB5.out.size))
        rw [plant_more]
        clear S5 hb6
        go_wp2_with fail
        refine (implPlantsValid_any none 0 [] _ (Sl.nil2 _ _ _) (by simp)).mono ?_
        rintro e w7 ⟨rfl, hb7⟩
        have HB7 := hide (HB6.out.trans (hb7.mono HB6.out.size))
        rw [show plantB [] = true from rfl]
        clear hb7
        go_wp2_with fail
        refine (alive_any _).mono ?_
        rintro e w8 ⟨rfl, hb8⟩
        have HB8 := hide (HB7.out.trans (hb8.mono HB7.out.size))
        clear hb8
        go_wp2_with fail
        go_ret
        exact ⟨rfl, HB8.out⟩
  · go_enter Tryd.func7, Tryd.ntmps7
    go_wp2_with fail
    go_ret
    exact ⟨rfl, Below.refl _ _⟩

end Go.Proofs.YtfbdfiepnepgpaaDoor
