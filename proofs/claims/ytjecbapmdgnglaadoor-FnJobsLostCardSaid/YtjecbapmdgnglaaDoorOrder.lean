/-
  Chapter 33, the order in which plants are started: the reference's function and the program's go through the same states.
-/
import Derived.Test.YtjecbapmdgnglaaDoorStarts
import Derived.Test.YtjecbapmdgnglaaDoorSort
namespace Go.Proofs.YtjecbapmdgnglaaDoor
open Go.RowKit
set_option linter.unusedVariables false

/-! ### plain: the states of the search -/
/-- The order so far, the plant that is looked at, the power. -/
def soStep (xs : List (Int × Int)) (s : List Int × Nat × Int) : List Int × Nat × Int :=
  if s.2.1 < xs.length then
    (if !hasB s.1 s.2.1 && decide ((at2 xs s.2.1).1 ≤ s.2.2) then (s.1 ++ [(s.2.1 : Int)], 0, s.2.2 + (at2 xs s.2.1).2) else (s.1, s.2.1 + 1, s.2.2))
  else s
def soSt (xs : List (Int × Int)) : Nat → List Int × Nat × Int
  | 0 => ([], 0, 0)
  | m + 1 => soStep xs (soSt xs m)
theorem so_stay {xs : List (Int × Int)} {m : Nat} {ord : List Int} {p : Int} (h : soSt xs m = (ord, xs.length, p)) (d : Nat) : soSt xs (m + d) = (ord, xs.length, p) := by
  induction d with
  | zero => exact h
  | succ d ih => rw [show m + (d + 1) = (m + d) + 1 from rfl]; simp [soSt, ih, soStep]
/-- Where the search ends. -/
def SoEnd (xs : List (Int × Int)) (ord : List Int) : Prop := ∃ m p, soSt xs m = (ord, xs.length, p)
theorem so_unique {xs : List (Int × Int)} {a b : List Int} (ha : SoEnd xs a) (hb : SoEnd xs b) : a = b := by
  obtain ⟨m, p, hm⟩ := ha
  obtain ⟨n, q, hn⟩ := hb
  have h1 := so_stay hm n
  have h2 := so_stay hn m
  rw [Nat.add_comm n m, h1] at h2
  exact (Prod.mk.inj h2).1
theorem so_yes {xs : List (Int × Int)} {m k : Nat} {ord : List Int} {p : Int} (h : soSt xs m = (ord, k, p)) (hk : k < xs.length) (h1 : hasB ord k = false) (h2 : (at2 xs k).1 ≤ p) : soSt xs (m + 1) = (ord ++ [(k : Int)], 0, p + (at2 xs k).2) := by
  simp [soSt, h, soStep, hk, h1, h2]
theorem so_no {xs : List (Int × Int)} {m k : Nat} {ord : List Int} {p : Int} (h : soSt xs m = (ord, k, p)) (hk : k < xs.length) (h1 : hasB ord k = true ∨ p < (at2 xs k).1) : soSt xs (m + 1) = (ord, k + 1, p) := by
  rcases h1 with h1 | h1
  · simp [soSt, h, soStep, hk, h1]
  · have : ¬ (at2 xs k).1 ≤ p := by omega
    simp [soSt, h, soStep, hk, this]
/-- What holds of every state. -/
theorem so_inv {xs : List (Int × Int)} (hv : plantB xs = true) (m : Nat) : (soSt xs m).1.Nodup ∧ (∀ x ∈ (soSt xs m).1, 0 ≤ x ∧ x < xs.length) ∧ (soSt xs m).2.1 ≤ xs.length ∧ 0 ≤ (soSt xs m).2.2 ∧ (soSt xs m).2.2 ≤ 999 * (soSt xs m).1.length := by
  induction m with
  | zero => simp [soSt]
  | succ m ih =>
    rcases hs : soSt xs m with ⟨ord, k, p⟩
    rw [hs] at ih
    obtain ⟨i1, i2, i3, i4, i5⟩ := ih
    simp only at i1 i2 i3 i4 i5
    by_cases hk : k < xs.length
    · cases h1 : hasB ord k
      · by_cases h2 : (at2 xs k).1 ≤ p
        · rw [so_yes hs hk h1 h2]
          have hu := plant_at hv k hk
          have hnm : (k : Int) ∉ ord := by simpa [hasB] using h1
          refine ⟨?_, ?_, by simp, by simp; omega, by simp; omega⟩
          · rw [List.nodup_append]
            exact ⟨i1, by simp, fun a ha b hb => by simp at hb; subst hb; exact fun e => hnm (by rw [← e]; exact ha)⟩
          · intro x hx
            simp at hx
            rcases hx with hx | rfl
            · exact i2 x hx
            · omega
        · rw [so_no hs hk (.inr (by omega))]
          exact ⟨i1, i2, by simp; omega, i4, i5⟩
      · rw [so_no hs hk (.inl h1)]
        exact ⟨i1, i2, by simp; omega, i4, i5⟩
    · have : soSt xs (m + 1) = (ord, k, p) := by simp [soSt, hs, soStep, hk]
      rw [this]
      exact ⟨i1, i2, i3, i4, i5⟩
theorem so_facts {xs : List (Int × Int)} (hv : plantB xs = true) {m k : Nat} {ord : List Int} {p : Int} (h : soSt xs m = (ord, k, p)) : ord.length ≤ xs.length ∧ xs.length ≤ 8 ∧ k ≤ xs.length ∧ 0 ≤ p ∧ p ≤ 7992 := by
  have hi := so_inv hv m
  rw [h] at hi
  have h1 := nodup_len xs.length ord hi.1 (by simpa using hi.2.1)
  have h2 := plant_len hv
  have h3 := hi.2.2.2.2
  simp only at h3 hi
  refine ⟨h1, h2, hi.2.2.1, hi.2.2.2.1, by omega⟩
theorem so_room {xs : List (Int × Int)} (hv : plantB xs = true) {m k : Nat} {ord : List Int} {p : Int} (h : soSt xs m = (ord, k, p)) (hk : k < xs.length) (h1 : hasB ord k = false) (h2 : (at2 xs k).1 ≤ p) : ord.length < xs.length := by
  have := (so_facts hv (so_yes h hk h1 h2)).1
  simp at this
  omega
/-- The order in which plants are started; none for plants that are not valid. -/
def SoB (xs : List (Int × Int)) (ord : List Int) : Prop := (plantB xs = true → SoEnd xs ord) ∧ (plantB xs = false → ord = [])
theorem soB_unique {xs : List (Int × Int)} {a b : List Int} (ha : SoB xs a) (hb : SoB xs b) : a = b := by
  cases h : plantB xs
  · rw [ha.2 h, hb.2 h]
  · exact so_unique (ha.1 h) (hb.1 h)
theorem soB_len {xs : List (Int × Int)} {a : List Int} (ha : SoB xs a) : a.length ≤ 8 := by
  cases h : plantB xs
  · rw [ha.2 h]; simp
  · obtain ⟨m, p, hm⟩ := ha.1 h
    have := so_facts h hm
    omega
def lenOf : Value → Nat | .slice _ n _ => n | _ => 0

theorem meas_yes {n l k : Nat} (h : l < n) : (n - (l + 1)) * (n + 1) + (n - 0) < (n - l) * (n + 1) + (n - k) := by
  obtain ⟨d, hd⟩ : ∃ d, n - l = d + 1 := ⟨n - l - 1, by omega⟩
  rw [hd, show n - (l + 1) = d from by omega, Nat.succ_mul]
  omega
theorem meas_no {n l k : Nat} (h : k < n) : (n - l) * (n + 1) + (n - (k + 1)) < (n - l) * (n + 1) + (n - k) := by omega

theorem specStartOrder_any (A : Option Addr) (c : Nat) (xs : List (Int × Int)) (w : World) (h : Sl w w.heap.size 2 A xs.length (enc2 xs)) (hm : xs.length ≤ 1048576) :
    Calls Tryd.prog 33 #[.slice A xs.length c] w (MadeInts (SoB xs) w) := by
  have bw := (Below.refl _ w).alloc (Nat.le_refl _) (.cells #[] 3)
  have HO := hide (World.ownsRow_lit (base := w.heap.size) (e := 3) (size := 1) w #[] 0 (Nat.le_refl _) (Nat.zero_le _) rfl)
  cases h1 : plantB xs
  · go_enter Tryd.func33, Tryd.ntmps33
    go_wp2_with fail
    refine (specPlantsValid_any _ _ _ _ (h.to bw) hm).mono ?_
    rintro e w1 ⟨rfl, rfl⟩
    rw [h1]
    go_wp2_with fail
    go_ret
    exact ⟨[], _, _, ⟨fun h => by rw [h1] at h; (cases h), fun _ => rfl⟩, rfl, HO.out, bw⟩
  · have HV := hide h1
    go_enter Tryd.func33, Tryd.ntmps33
    go_wp2_with fail
    refine (specPlantsValid_any _ _ _ _ (h.to bw) hm).mono ?_
    rintro e w1 ⟨rfl, rfl⟩
    rw [h1]
    clear h1
    have HBW := hide bw
    clear bw
    go_wp2_with fail
    go_loopw [3, 4, 5] (fun v q i wr => ∃ (m : Nat) (ord : List Int) (k : Nat) (p : Int) (D : Option Addr) (d : Nat), soSt xs m = (ord, k, p) ∧ v = .slice D ord.length d ∧ q = .int .i64 p ∧ i = .int .i64 k ∧ wr.ownsRow w.heap.size 3 1 (.slice D ord.length d) ord.length (encI ord) ∧ Below w.heap.size w wr) (fun v _ i _ => (xs.length - lenOf v) * (xs.length + 1) + (xs.length - (intOf i).toNat))
    case atStart => exact ⟨0, [], 0, 0, _, _, rfl, rfl, rfl, rfl, HO.out, HBW.out⟩
    case round =>
      obtain ⟨m, ord, k, p, D, d, hst, rfl, rfl, rfl, ho, hbl⟩ := hrel
      obtain ⟨f1, f2, f3, f4, f5⟩ := so_facts HV.out hst
      have HS := hide hst
      clear hst
      by_cases hlt : k < xs.length
      · obtain ⟨b, off, rfl, hb, hc, hd⟩ := h.two k hlt
        have hc' := (hbl.cell (p := ⟨b, off + k * 2, none⟩) hb).trans hc
        have hd' := (hbl.cell (p := ⟨b, off + k * 2 + 1, none⟩) hb).trans hd
        clear hc hd
        have HR := hide ho
        have HB := hide hbl
        obtain ⟨u0, u1, u2⟩ := plant_at HV.out k hlt
        clear ho hbl
        cases h2 : hasB ord k
        · by_cases h3 : (at2 xs k).1 ≤ p
          · have hroom := so_room HV.out HS.out hlt h2 h3
            go_wp2_with (first | (go_at_call 83; refine (l1Has_any _ _ _ ord _ _ rfl (Sl.of_own HR.out) (by omega)).mono ?_; rintro e w' ⟨rfl, rfl⟩) | (at_builtin; refine app_int wr rfl (.tmp 30) (.tmp 32) rfl w.heap.size D ord.length d ord k rfl HR.out wr.heap.size rfl rfl HB.out.size (by omega) ?_; intro D2 d2 w2 ho2 hg2; have hcb := (grown_below HR.out hg2 HB.out.size).cell (p := ⟨b, off + k * 2 + 1, none⟩) hb; rw [hd'] at hcb))
            go_roundw
            case rel => exact ⟨m + 1, ord ++ [(k : Int)], 0, p + (at2 xs k).2, D2, d2, so_yes HS.out hlt h2 h3, by simp, rfl, rfl, by simpa using ho2, HB.out.trans (grown_below HR.out hg2 HB.out.size)⟩
            case measure => simpa [intOf, lenOf] using meas_yes (k := k) hroom
          · go_wp2_with (first | (go_at_call 83; refine (l1Has_any _ _ _ ord _ _ rfl (Sl.of_own HR.out) (by omega)).mono ?_; rintro e w' ⟨rfl, rfl⟩))
            go_roundw
            case rel => exact ⟨m + 1, ord, k + 1, p, D, d, so_no HS.out hlt (.inr (by omega)), rfl, rfl, by go_num, HR.out, HB.out⟩
            case measure => simp [intOf, lenOf]; omega
        · go_wp2_with (first | (go_at_call 83; refine (l1Has_any _ _ _ ord _ _ rfl (Sl.of_own HR.out) (by omega)).mono ?_; rintro e w' ⟨rfl, rfl⟩))
          go_roundw
          case rel => exact ⟨m + 1, ord, k + 1, p, D, d, so_no HS.out hlt (.inl h2), rfl, rfl, by go_num, HR.out, HB.out⟩
          case measure => simp [intOf, lenOf]; omega
      · obtain rfl : k = xs.length := by omega
        go_wp2_with fail
        go_ret
        exact ⟨ord, D, d, ⟨fun _ => ⟨m, p, HS.out⟩, fun hh => by rw [HV.out] at hh; (cases hh)⟩, rfl, ho, hbl⟩

/-- The marks of the plants that run. -/
def runRow (ord : List Int) : Array Value := #[.bool (hasB ord 0), .bool (hasB ord 1), .bool (hasB ord 2), .bool (hasB ord 3), .bool (hasB ord 4), .bool (hasB ord 5), .bool (hasB ord 6), .bool (hasB ord 7)]
theorem lt8 {P : Nat → Prop} (k : Nat) (hk : k < 8) (h0 : P 0) (h1 : P 1) (h2 : P 2) (h3 : P 3) (h4 : P 4) (h5 : P 5) (h6 : P 6) (h7 : P 7) : P k := by
  obtain rfl | rfl | rfl | rfl | rfl | rfl | rfl | rfl : k = 0 ∨ k = 1 ∨ k = 2 ∨ k = 3 ∨ k = 4 ∨ k = 5 ∨ k = 6 ∨ k = 7 := by omega
  all_goals assumption
theorem runRow_at (ord : List Int) (j : Nat) (h : j < 8) : (runRow ord)[j]? = some (.bool (hasB ord (j : Int))) :=
  lt8 (P := fun j => (runRow ord)[j]? = some (.bool (hasB ord (j : Int)))) j h rfl rfl rfl rfl rfl rfl rfl rfl
theorem runRow_nil : runRow [] = #[.bool false, .bool false, .bool false, .bool false, .bool false, .bool false, .bool false, .bool false] := rfl
theorem runRow_set (ord : List Int) (k : Nat) (hk : k < 8) : (runRow ord).setIfInBounds k (.bool true) = runRow (ord ++ [(k : Int)]) := by
  refine lt8 (P := fun k => (runRow ord).setIfInBounds k (.bool true) = runRow (ord ++ [(k : Int)])) k hk ?_ ?_ ?_ ?_ ?_ ?_ ?_ ?_ <;> simp [runRow, hasB]

theorem own_ne_top {w : World} {base e size n : Nat} {v : Value} {cs : List Value} (h : w.ownsRow base e size v n cs) : some w.heap.size ≠ v.ownBlock := fun he => by
  have := (h.lt _ he.symm).2
  omega
theorem own_ne_low {w : World} {base e size n g : Nat} {v : Value} {cs : List Value} (h : w.ownsRow base e size v n cs) (hg : g < base) : some g ≠ v.ownBlock := fun he => by
  have := (h.lt _ he.symm).1
  omega

theorem implStartOrder_any (A : Option Addr) (c : Nat) (xs : List (Int × Int)) (w : World) (h : Sl w w.heap.size 2 A xs.length (enc2 xs)) (hm : xs.length ≤ 1048576) :
    Calls Tryd.prog 32 #[.slice A xs.length c] w (MadeInts (SoB xs) w) := by
  cases h1 : plantB xs
  · go_enter Tryd.func32, Tryd.ntmps32
    go_wp2_with fail
    refine (implPlantsValid_any _ _ _ _ h hm).mono ?_
    rintro e w1 ⟨rfl, hb1⟩
    rw [h1]
    go_wp2_with fail
    go_ret
    exact ⟨[], _, _, ⟨fun h => by rw [h1] at h; (cases h), fun _ => rfl⟩, rfl, World.ownsRow_nil _ _ _ _, hb1⟩
  · have HV := hide h1
    go_enter Tryd.func32, Tryd.ntmps32
    go_wp2_with fail
    refine (implPlantsValid_any _ _ _ _ h hm).mono ?_
    rintro e w1 ⟨rfl, hb1⟩
    rw [h1]
    clear h1
    have B0 := Blk.new w1 93 #[.bool false, .bool false, .bool false, .bool false, .bool false, .bool false, .bool false, .bool false]
    rw [← runRow_nil] at B0
    have HB0 := hide B0
    have HB1 := hide (hb1.alloc hb1.size (.cells #[.bool false, .bool false, .bool false, .bool false, .bool false, .bool false, .bool false, .bool false] 93))
    have hz := hb1.size
    clear B0 hb1
    go_wp2_with fail
    go_loopw [3, 5, 6] (fun v q i wr => ∃ (m : Nat) (ord : List Int) (k : Nat) (p : Int) (D : Option Addr) (d : Nat), soSt xs m = (ord, k, p) ∧ v = .slice D ord.length d ∧ q = .int .i64 p ∧ i = .int .i64 k ∧ wr.ownsRow (w1.heap.size + 1) 3 1 (.slice D ord.length d) ord.length (encI ord) ∧ Blk wr w1.heap.size 93 (runRow ord) ∧ Below w.heap.size w wr) (fun v _ i _ => (xs.length - lenOf v) * (xs.length + 1) + (xs.length - (intOf i).toNat))
    case atStart => exact ⟨0, [], 0, 0, _, _, rfl, rfl, rfl, rfl, World.ownsRow_nil _ _ _ _, by first | exact HB0.out | (rw [runRow_nil]; exact Blk.new _ _ _), HB1.out⟩
    case round =>
      obtain ⟨m, ord, k, p, D, d, hst, rfl, rfl, rfl, ho, hbk, hbl⟩ := hrel
      obtain ⟨f1, f2, f3, f4, f5⟩ := so_facts HV.out hst
      have HS := hide hst
      clear hst
      by_cases hlt : k < xs.length
      · obtain ⟨b, off, rfl, hb, hc, hd⟩ := h.two k hlt
        have hc' := (hbl.cell (p := ⟨b, off + k * 2, none⟩) hb).trans hc
        have hd' := (hbl.cell (p := ⟨b, off + k * 2 + 1, none⟩) hb).trans hd
        have hr := (hbk.cell k).trans (runRow_at ord k (by omega))
        have hrf := hbk.frozen k
        have i0 : (0 : Int) ≤ k := by omega
        have i1 : (k : Int) < 8 := by omega
        clear hc hd
        have HR := hide ho
        have HB := hide hbl
        have HK := hide hbk
        have hlw := hbk.lt
        obtain ⟨u0, u1, u2⟩ := plant_at HV.out k hlt
        clear ho hbl hbk
        cases h2 : hasB ord k
        · rw [h2] at hr
          by_cases h3 : (at2 xs k).1 ≤ p
          · have hroom := so_room HV.out HS.out hlt h2 h3
            have hO := HR.out.alloc (.cells #[.int .i64 (at2 xs k).1, .int .i64 (at2 xs k).2] 46)
            have HO2 := hide hO
            clear hO
            have hp := Blk.new wr 46 #[.int .i64 (at2 xs k).1, .int .i64 (at2 xs k).2]
            go_wp2_with (at_builtin; refine app_int (wr.alloc (.cells #[.int .i64 (at2 xs k).1, .int .i64 (at2 xs k).2] 46)) rfl (.tmp 31) (.tmp 33) rfl (w1.heap.size + 1) D ord.length d ord k rfl HO2.out (wr.heap.size + 1) (by simp) rfl (by simp; omega) (by omega) ?_; intro D2 d2 w2 ho2 hg2; obtain ⟨q1, q2⟩ := (hp.grown hg2 (own_ne_top HR.out)).two; have hk2 := (HK.out.alloc (.cells #[.int .i64 (at2 xs k).1, .int .i64 (at2 xs k).2] 46)).grown hg2 (own_ne_low HR.out (by omega)); have HK2 := hide hk2; have q3 := (hk2.cell k).trans (runRow_at ord k (by omega)); have q4 := hk2.frozen k; clear hk2)
            go_roundw
            case rel =>
              refine ⟨m + 1, ord ++ [(k : Int)], 0, p + (at2 xs k).2, D2, d2, so_yes HS.out hlt h2 h3, by simp, rfl, rfl, ?_, ?_, ?_⟩
              · simpa using ownsRow_setCell_below ho2 (a := ⟨w1.heap.size, k, none⟩) (by simp) (.bool true)
              · rw [← runRow_set ord k (by omega)]
                exact HK2.out.set_ _ _
              · exact ((HB.out.alloc HB.out.size _).trans ((grown_below (HR.out.alloc _) hg2 (by simp; omega)).mono (by omega))).setCell (by simpa using hz) _
            case measure => simpa [intOf, lenOf] using meas_yes (k := k) hroom
          · go_wp2_with fail
            go_roundw
            case rel => exact ⟨m + 1, ord, k + 1, p, D, d, so_no HS.out hlt (.inr (by omega)), rfl, rfl, by go_num, HR.out.alloc _, HK.out.alloc _, HB.out.alloc HB.out.size _⟩
            case measure => simp [intOf, lenOf]; omega
        · rw [h2] at hr
          go_wp2_with fail
          go_roundw
          case rel => exact ⟨m + 1, ord, k + 1, p, D, d, so_no HS.out hlt (.inl h2), rfl, rfl, by go_num, HR.out.alloc _, HK.out.alloc _, HB.out.alloc HB.out.size _⟩
          case measure => simp [intOf, lenOf]; omega
      · obtain rfl : k = xs.length := by omega
        go_wp2_with fail
        go_ret
        exact ⟨ord, D, d, ⟨fun _ => ⟨m, p, HS.out⟩, fun hh => by rw [HV.out] at hh; (cases hh)⟩, rfl, own_mono ho (by omega), hbl⟩

end Go.Proofs.YtjecbapmdgnglaaDoor
