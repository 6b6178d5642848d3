/-
  The laws' helpers over flows.
-/
import Derived.Test.YtbebhbcjdiahcaaDoorLineW
namespace Go.Proofs.YtbebhbcjdiahcaaDoor
open Go.RowKit
set_option linter.unusedVariables false

section
variable {ls : List (Int × Int × Int)} {on : List Bool} {bs : List (Int × Int)} {nb : Nat} {ps g : List Int}
theorem incS_set {fl : List Int} {k : Nat} {v x : Int} (hk : k < fl.length) : ∀ n, incS ls on (fl.set k v) x n = incS ls on fl x n + (if k < n ∧ atB on k = true ∧ incB ls x k = true then v - at_ fl k else 0)
  | 0 => by simp [incS]
  | n + 1 => by
    simp only [incS]
    rw [incS_set hk n, at_setN fl k n v hk]
    by_cases hkn : n = k
    · subst hkn
      rw [if_pos rfl, if_neg (show ¬ (n < n ∧ atB on n = true ∧ incB ls x n = true) from fun h => by omega)]
      by_cases hc : atB on n = true ∧ incB ls x n = true
      · rw [if_pos hc, if_pos hc, if_pos ⟨by omega, hc⟩]; omega
      · rw [if_neg hc, if_neg hc, if_neg fun h => hc h.2]
    · rw [if_neg hkn]
      generalize (if atB on n = true ∧ incB ls x n = true then at_ fl n else 0) = T
      by_cases hc : k < n ∧ atB on k = true ∧ incB ls x k = true
      · rw [if_pos hc, if_pos (show k < n + 1 ∧ atB on k = true ∧ incB ls x k = true from ⟨by omega, hc.2⟩)]; omega
      · rw [if_neg hc, if_neg (show ¬ (k < n + 1 ∧ atB on k = true ∧ incB ls x k = true) from fun h => hc ⟨by omega, h.2⟩)]; omega
theorem FlowG.rd (h : FlowG ls on bs ps g) : rdB ls.length g = true :=
  rdB_yes h.len fun j hj => by have := h.rng j (by rw [← h.len]; exact hj); exact inB_mk this.1 (by omega)
theorem FlowG.rdSet (h : FlowG ls on bs ps g) {k : Nat} (hk : k < ls.length) {v : Int} (h1 : 0 ≤ v) (h2 : v ≤ 15984) : rdB ls.length (g.set k v) = true :=
  rdB_yes (by rw [List.length_set]; exact h.len) fun j hj => by
    rw [List.length_set, h.len] at hj
    rw [at_setN g k j v (by rw [h.len]; exact hk)]
    have := h.rng j hj
    split
    · exact inB_mk h1 h2
    · exact inB_mk this.1 (by omega)
theorem FlowG.zero (h : FlowG ls on bs ps g) {x : Nat} (hx : x < bs.length) : resF ls on bs g ps x = 0 := by
  have := of_decide_eq_true h.res x (by rw [resL_len]; exact hx)
  rwa [resL_at hx] at this
theorem FlowG.shift (h : FlowG ls on bs ps g) (hp : PL ls on bs ps) {x k : Nat} (hx : x < bs.length) (hk : at_ ps x = k) (v : Int) : resF ls on bs (g.set k v) ps x = v - at_ g k := by
  obtain ⟨i1, i2, i3⟩ := hp.inc hx (show 0 ≤ at_ ps x by omega)
  have hz := h.zero hx
  unfold resF at hz ⊢
  rw [hk, Int.toNat_natCast] at i1 i2 i3
  rw [hk, if_neg (by omega), Int.toNat_natCast] at hz ⊢
  rw [incS_set (by rw [h.len]; exact i1), if_pos ⟨i1, i2, i3⟩, at_setN g k k v (by rw [h.len]; exact i1), if_pos rfl]
  omega
theorem FlowG.wrong (h : FlowG ls on bs ps g) (hp : PL ls on bs ps) {x k : Nat} (hx : x < bs.length) (hk : at_ ps x = k) {v : Int} (hv : v ≠ at_ g k) : zeroL (resL ls on bs (g.set k v) ps) = false :=
  zeroL_no x (by rw [resL_len]; exact hx) (by rw [resL_at hx, h.shift hp hx hk]; omega)
theorem set_same (l : List Int) (k : Nat) (h : k < l.length) : l.set k (at_ l k) = l :=
  same_of_at (by simp) fun j hj => by
    rw [at_setN l k j _ h]
    split
    · rename_i e; rw [e]
    · rfl
theorem FlowG.found (h : FlowG ls on bs ps g) (hp : PL ls on bs ps) (hc : ¬ Cyc ls (onP on)) (ho : OneF ls on bs) {x k : Nat} (hx : x < bs.length) (hk : at_ ps x = k) (v : Int) : goodB ls on bs (g.set k v) ps k = true := by
  obtain ⟨i1, _, _⟩ := hp.inc hx (show 0 ≤ at_ ps x by omega)
  rw [hk, Int.toNat_natCast] at i1
  have hidx : idxF ps k = x := by
    rcases idxF_cases ps k with ⟨_, h2⟩ | ⟨j, h1, h2, h3, _⟩
    · exact absurd hk (h2 x (by rw [hp.len]; exact hx))
    · rw [hp.len] at h1
      rw [h2, hp.inj hc ho h1 hx (by omega) (by omega)]
  have ht : tryL ls on bs (g.set k v) ps k = g := by
    unfold tryL
    rw [hidx, if_neg (by omega), Int.toNat_natCast, h.shift hp hx hk, List.set_set, at_setN g k k v (by rw [h.len]; exact i1), if_pos rfl]
    rw [show v - (v - at_ g k) = at_ g k by omega]
    exact set_same g k (by rw [h.len]; exact i1)
  unfold goodB
  rw [ht, h.rd, h.res]; rfl
theorem FlowG.alone (h : FlowG ls on bs ps g) (hnv : netB nb ls = true) (hbn : bs.length = nb) (hp : PL ls on bs ps) (hc : ¬ Cyc ls (onP on)) (ho : OneF ls on bs) {x k : Nat} (hx : x < bs.length) (hk : at_ ps x = k) {v : Int} (hv : v ≠ at_ g k) {j : Nat} (hj : j ≠ k) : goodB ls on bs (g.set k v) ps j = false := by
  obtain ⟨i1, _, _⟩ := hp.inc hx (show 0 ≤ at_ ps x by omega)
  rw [hk, Int.toNat_natCast] at i1
  cases hg : goodB ls on bs (g.set k v) ps j
  · rfl
  · exfalso
    simp only [goodB, Bool.and_eq_true] at hg
    have := res_unique hnv hbn hp hc ho hg.2 h.res x hx (by omega)
    rw [hk, Int.toNat_natCast] at this
    have hz : at_ (tryL ls on bs (g.set k v) ps j) k = v := by
      have e : at_ (g.set k v) k = v := by rw [at_setN g k k v (by rw [h.len]; exact i1), if_pos rfl]
      unfold tryL
      split
      · exact e
      · by_cases hjl : j < (g.set k v).length
        · rw [at_setN _ j k _ hjl, if_neg (fun he => hj he.symm)]; exact e
        · rw [List.set_eq_of_length_le (by omega)]; exact e
    omega
theorem FlowG.first (h : FlowG ls on bs ps g) (hnv : netB nb ls = true) (hbn : bs.length = nb) (hp : PL ls on bs ps) (hc : ¬ Cyc ls (onP on)) (ho : OneF ls on bs) {x k : Nat} (hx : x < bs.length) (hk : at_ ps x = k) {v y : Int} (hv : v ≠ at_ g k) (hf : FirstG ls on bs (g.set k v) ps y) : y = k := by
  obtain ⟨i1, _, _⟩ := hp.inc hx (show 0 ≤ at_ ps x by omega)
  rw [hk, Int.toNat_natCast] at i1
  have hgk := h.found hp hc ho hx hk v
  rcases hf with ⟨j, h1, rfl, h3, h4⟩ | ⟨rfl, h1⟩
  · by_cases hjk : j = k
    · rw [hjk]
    · rw [h.alone hnv hbn hp hc ho hx hk hv hjk] at h3; cases h3
  · rw [h1 k i1] at hgk; cases hgk
/-- Readings with one wrong: the line is found. -/
theorem BadR.found {rs : List Int} (h : FlowG ls on bs ps g) (hr : radB nb ls on bs = true) (hp : PL ls on bs ps) {x k : Nat} (hx : x < bs.length) (hk : at_ ps x = k) {v y : Int} (h1 : 0 ≤ v) (h2 : v ≤ 15984) (hv : v ≠ at_ g k) (hb : BadR nb ls on bs (g.set k v) y) : y = k := by
  obtain ⟨hf, hc, ho⟩ := (radB_iff _ _ _ _).1 hr
  obtain ⟨hnv, _, hbl, _⟩ := fedB_true hf
  obtain ⟨i1, _, _⟩ := hp.inc hx (show 0 ≤ at_ ps x by omega)
  rw [hk, Int.toNat_natCast] at i1
  have hok : okB nb ls on bs (g.set k v) = true := by unfold okB; rw [hr, h.rdSet i1 h1 h2]; rfl
  rcases hb with ⟨h3, _⟩ | ⟨_, qs, h4, h5⟩
  · rw [hok] at h3; cases h3
  · rw [← resL_same hp h4 hc ho, h.wrong hp hx hk hv] at h5
    rcases h5 with ⟨h5, _⟩ | ⟨_, h5⟩
    · cases h5
    · exact h.first hnv (by omega) hp hc ho hx hk hv (h5.same h4 hp hc ho)
theorem BadR.none_ (h : FlowG ls on bs ps g) (hr : radB nb ls on bs = true) (hp : PL ls on bs ps) {y : Int} (hb : BadR nb ls on bs g y) : y = -1 := by
  obtain ⟨hf, hc, ho⟩ := (radB_iff _ _ _ _).1 hr
  have hok : okB nb ls on bs g = true := by unfold okB; rw [hr, h.rd]; rfl
  rcases hb with ⟨_, h3⟩ | ⟨_, qs, h4, h5⟩
  · exact h3
  · rw [← resL_same hp h4 hc ho, h.res] at h5
    rcases h5 with ⟨_, h5⟩ | ⟨h5, _⟩
    · exact h5
    · cases h5
/-- What Residuals returns for the flows, and for flows of which one is changed. -/
theorem ResR.flow {r : List Int} (h : FlowG ls on bs ps g) (hr : radB nb ls on bs = true) (hp : PL ls on bs ps) (hb : ResR nb ls on bs g r) : r.length = bs.length ∧ zeroL r = true := by
  obtain ⟨hf, hc, ho⟩ := (radB_iff _ _ _ _).1 hr
  have hok : okB nb ls on bs g = true := by unfold okB; rw [hr, h.rd]; rfl
  rcases hb with ⟨h3, _⟩ | ⟨_, qs, h4, rfl⟩
  · rw [hok] at h3; cases h3
  · rw [← resL_same hp h4 hc ho]; exact ⟨resL_len _ _ _ _ _, h.res⟩
theorem ResR.shift {r : List Int} (h : FlowG ls on bs ps g) (hr : radB nb ls on bs = true) (hp : PL ls on bs ps) {x k : Nat} (hx : x < bs.length) (hk : at_ ps x = k) {v : Int} (h1 : 0 ≤ v) (h2 : v ≤ 15984) (hb : ResR nb ls on bs (g.set k v) r) : r.length = bs.length ∧ at_ r x = v - at_ g k := by
  obtain ⟨hf, hc, ho⟩ := (radB_iff _ _ _ _).1 hr
  obtain ⟨i1, _, _⟩ := hp.inc hx (show 0 ≤ at_ ps x by omega)
  rw [hk, Int.toNat_natCast] at i1
  have hok : okB nb ls on bs (g.set k v) = true := by unfold okB; rw [hr, h.rdSet i1 h1 h2]; rfl
  rcases hb with ⟨h3, _⟩ | ⟨_, qs, h4, rfl⟩
  · rw [hok] at h3; cases h3
  · rw [← resL_same hp h4 hc ho]; exact ⟨resL_len _ _ _ _ _, by rw [resL_at hx, h.shift hp hx hk]⟩
end

theorem FlowG.same {ls : List (Int × Int × Int)} {on : List Bool} {bs : List (Int × Int)} {ps qs fl : List Int} (h : FlowG ls on bs ps fl) (hp : PL ls on bs ps) (hq : PL ls on bs qs) (hc : ¬ Cyc ls (onP on)) (ho : OneF ls on bs) : FlowG ls on bs qs fl := by
  refine ⟨h.len, h.rng, fun k hk hz => h.zer k hk fun x hx he => hz x hx ?_, by rw [← resL_same hp hq hc ho]; exact h.res⟩
  rcases hp.same hq hc ho hx with ⟨h1, _⟩ | ⟨_, h1⟩ <;> omega
theorem FlowG.empty {ls : List (Int × Int × Int)} {on : List Bool} {bs : List (Int × Int)} {qs : List Int} (hl : ls.length = 0) (hq : PL ls on bs qs) : FlowG ls on bs qs [] := by
  refine ⟨hl.symm, fun k hk => by omega, fun k hk => by omega, zeroL_yes fun x hx => ?_⟩
  rw [resL_len] at hx
  rw [resL_at hx]
  unfold resF
  by_cases h0 : 0 ≤ at_ qs x
  · have := (hq.inc hx h0).1; omega
  · rw [if_pos (by omega)]
/-- The flows so far. -/
def PartF (ls : List (Int × Int × Int)) (on : List Bool) (bs : List (Int × Int)) (i : Nat) (g : List Int) : Prop :=
  g.length = i ∧ (∀ ps fl, PN ls on bs ps → FlowG ls on bs ps fl → ∀ j, j < i → at_ g j = at_ fl j) ∧ (0 < i → ∃ ps fl, PN ls on bs ps ∧ FlowG ls on bs ps fl)
theorem PartF.snoc {nb : Nat} {ls : List (Int × Int × Int)} {on : List Bool} {bs : List (Int × Int)} {i : Nat} {g ps fl : List Int} (hv : netB nb ls = true) (hbn : bs.length = nb) (hc : ¬ Cyc ls (onP on)) (ho : OneF ls on bs) (h : PartF ls on bs i g) (hp : PN ls on bs ps) (hf : FlowG ls on bs ps fl) : PartF ls on bs (i + 1) (g ++ [at_ fl i]) := by
  refine ⟨by simp [h.1], fun qs fl' hq hf' j hj => ?_, fun _ => ⟨ps, fl, hp, hf⟩⟩
  obtain rfl := hp.unique hq hc ho
  obtain rfl := hf.unique hv hbn hp.1 hc ho hf'
  have hg := h.1
  by_cases hji : j < i
  · rw [← h.2.1 ps fl hp hf j hji]
    simp only [at_, List.getD_eq_getElem?_getD, List.getElem?_append_left (show j < g.length by omega)]
  · obtain rfl : j = g.length := by omega
    rw [show i = g.length by omega]
    simp [at_]
theorem PL.empty {ls : List (Int × Int × Int)} {on : List Bool} {bs : List (Int × Int)} (hl : ls.length = 0) : PL ls on bs (List.replicate bs.length (-1)) := by
  have hat : ∀ x, x < bs.length → at_ (List.replicate bs.length (-1)) x = -1 := fun x hx => by simp [at_, hx]
  refine ⟨by simp, fun x hx => by rw [hat x hx]; omega, fun x hx _ => ?_, fun x hx h => by rw [hat x hx] at h; omega⟩
  by_cases hf : ∃ f, FeedP bs f ∧ Con ls (onP on) x f
  · obtain ⟨f, h1, h2⟩ := hf
    have : f = x := Rea.all (E := EdgeP ls (onP on)) (t := (x : Int)) (fun u => u = x) rfl (fun u v he _ => by obtain ⟨k, hk, _⟩ := he; omega) h2.sym.sym
    exact .inl (this ▸ h1)
  · exact .inr hf
theorem PartF.done {ls : List (Int × Int × Int)} {on : List Bool} {bs : List (Int × Int)} {g : List Int} (h : PartF ls on bs ls.length g) : ∃ ps, PL ls on bs ps ∧ FlowG ls on bs ps g := by
  by_cases hl : ls.length = 0
  · have : g = [] := List.eq_nil_of_length_eq_zero (h.1.trans hl)
    subst this
    exact ⟨_, PL.empty hl, FlowG.empty hl (PL.empty hl)⟩
  · obtain ⟨ps, fl, hp, hf⟩ := h.2.2 (by omega)
    have : g = fl := same_of_at (h.1.trans hf.len.symm) fun j hj => h.2.1 ps fl hp hf j (by rw [← h.1]; exact hj)
    subst this
    exact ⟨ps, hp.1, hf⟩

set_option maxHeartbeats 1000000 in
theorem lawFlows_any (nb : Nat) (A D B : Option Addr) (c d f : Nat) (ls : List (Int × Int × Int)) (on : List Bool) (bs : List (Int × Int)) (w : World) (h : Sl w w.heap.size 3 A ls.length (enc3 ls)) (g : Sl w w.heap.size 1 D ls.length (encB on)) (hon : on.length = ls.length) (s : Sl w w.heap.size 2 B bs.length (enc2 bs)) (hr : radB nb ls on bs = true) :
    Calls Tryd.prog 12 #[.agg #[.int .i64 nb, .slice A ls.length c], .slice D ls.length d, .slice B bs.length f] w (MadeInts (fun l => ∃ ps, PL ls on bs ps ∧ FlowG ls on bs ps l) w) := by
  have hsz : (w.alloc (.cells #[.int .i64 nb, .slice A ls.length c] 25)).heap.size = w.heap.size + 1 := by simp
  have B0 := hide ((Blk.new w 25 #[.int .i64 nb, .slice A ls.length c]).alloc (.cells #[] 3))
  have K0 := hide (((Below.refl _ w).alloc (Nat.le_refl _) (.cells #[.int .i64 nb, .slice A ls.length c] 25)).alloc (by omega) (.cells #[] 3))
  have ho0 := World.ownsRow_lit (base := w.heap.size + 1) (e := 3) (size := 1) (w.alloc (.cells #[.int .i64 nb, .slice A ls.length c] 25)) #[] 0 (by simp) (by unfold maxLen; omega) rfl
  rw [hsz] at ho0
  have O0 := hide ho0
  have hz0 : w.heap.size + 2 ≤ ((w.alloc (.cells #[.int .i64 nb, .slice A ls.length c] 25)).alloc (.cells #[] 3)).heap.size := by simp
  obtain ⟨hf, hcy, hon1⟩ := (radB_iff _ _ _ _).1 hr
  obtain ⟨hv, _, hbl, hok⟩ := fedB_true hf
  obtain ⟨⟨n1, n2⟩, n3⟩ := net_len hv
  have HBN := hide (show bs.length = nb by omega)
  have HV := hide hv
  have HH := hide h
  have GG := hide g
  have SS := hide s
  have HRAD := hide hr
  have HCY := hide hcy
  have HONE := hide hon1
  clear h g s hr hf hcy hon1 hv hok hsz ho0 hbl
  go_enter Tryd.func12, Tryd.ntmps12
  go_wp2_with fail
  go_loopw [7, 8] (fun o x wr => ∃ (k : Nat) (E : Option Addr) (e : Nat) (l : List Int), k ≤ ls.length ∧ o = .slice E k e ∧ x = .int .i64 k ∧ w.heap.size + 2 ≤ wr.heap.size ∧ Hid (PartF ls on bs k l) ∧ Hid (wr.ownsRow (w.heap.size + 1) 3 1 (.slice E k e) k (encI l)) ∧ Hid (Blk wr w.heap.size 25 #[.int .i64 nb, .slice A ls.length c]) ∧ Hid (Below w.heap.size w wr)) (fun _ x _ => ls.length - (intOf x).toNat)
  case atStart => exact ⟨0, _, 0, [], Nat.zero_le _, rfl, rfl, hz0, hide ⟨rfl, fun _ _ _ _ j hj => absurd hj (by omega), fun h => absurd h (by omega)⟩, O0, B0, K0⟩
  case round =>
    clear O0 B0 K0 hz0
    obtain ⟨k, E, e, l, hk, rfl, rfl, hz, HP, HO, HB, HK⟩ := hrel
    obtain ⟨g0, g1⟩ := HB.out.two
    by_cases hkl : k < ls.length
    · have H1 := hide (HH.out.to HK.out)
      have G1 := hide (GG.out.to HK.out)
      have S1 := hide (SS.out.to HK.out)
      go_wp2_with (first | (at_builtin; refine app_int w2 rfl (.tmp 16) (.tmp 22) rfl (w.heap.size + 1) E k e l (at_ fl k) rfl O2.out w2.heap.size rfl rfl hz2 (by omega) ?_; intro D2 d2 w3 ho3 hg3) | (go_at_call 35; refine (lineFlow_any nb k _ _ _ _ _ _ ls on bs wr H1.out G1.out hon S1.out HRAD.out hkl).mono ?_; rintro e' w2 ⟨ps, fl, hp, hf, rfl, hb2⟩; have HP2 := hide (HP.out.snoc HV.out HBN.out HCY.out HONE.out hp hf); have K2 := hide (HK.out.then hb2); have O2 := hide (HO.out.keepB hb2); have B2 := hide (HB.out.to hb2); have hz2 : w.heap.size + 1 ≤ w2.heap.size := (by have := hb2.size; omega); have hz22 : w.heap.size + 2 ≤ w2.heap.size := (by have := hb2.size; omega); clear hp hf hb2))
      have K3 := hide (K2.out.trans ((grown_below O2.out hg3 hz2).mono (by omega)))
      have B3 := hide (B2.out.below (grown_below O2.out hg3 hz2) (by omega))
      have O3 := hide ho3
      have hs3 := hg3.size
      have hz3 : w.heap.size + 2 ≤ w3.heap.size := by omega
      clear ho3 hg3
      go_roundw
      case rel => exact ⟨k + 1, D2, d2, _, by omega, rfl, by go_num, hz3, HP2, O3, B3, K3⟩
      case measure => simp [intOf]; omega
    · obtain rfl : k = ls.length := by omega
      have HD := hide HP.out.done
      have hll := HP.out.1
      have HLL := hide hll
      clear hll
      go_wp2_with fail
      go_ret
      exact ⟨l, E, e, HD.out, by rw [HLL.out]; rfl, by rw [HLL.out]; exact own_mono HO.out (by omega), HK.out⟩

theorem lawNone_any (A : Option Addr) (c : Nat) (xs : List Int) (w : World) (h : Sl w w.heap.size 1 A xs.length (encI xs)) (hm : xs.length ≤ 1048576) :
    Calls Tryd.prog 13 #[.slice A xs.length c] w fun e w' => e = .returned (.bool (zeroL xs)) ∧ w = w' := by
  go_enter Tryd.func13, Tryd.ntmps13
  go_wp2_with fail
  go_loop [3] (fun i => ∃ k : Nat, k ≤ xs.length ∧ i = .int .i64 k ∧ Hid (∀ j, j < k → at_ xs j = 0)) (fun i => xs.length - (intOf i).toNat)
  case atStart => exact ⟨0, Nat.zero_le _, rfl, hide (fun j hj => absurd hj (by omega))⟩
  case round =>
    obtain ⟨k, hk, rfl, H⟩ := hrel
    by_cases hlt : k < xs.length
    · obtain ⟨b, off, rfl, hb, hc⟩ := h.int k hlt
      have i0 : (0 : Int) ≤ k := by omega
      have i1 : (k : Int) < xs.length := by omega
      by_cases he : at_ xs k = 0
      · have he' : (at_ xs k != 0) = false := by simp [he]
        have HE := hide he
        clear he
        go_wp2_with fail
        go_round
        case rel => exact ⟨k + 1, by omega, by go_num, hide (fun j hj => by
            by_cases hjk : j = k
            · subst hjk; exact HE.out
            · exact H.out j (by omega))⟩
        case measure => simp [intOf]; omega
      · have he' : (at_ xs k != 0) = true := by simp [he]
        have HE := hide he
        clear he
        go_wp2_with fail
        go_ret
        exact ⟨ret_bool (zeroL_no k hlt HE.out).symm, rfl⟩
    · go_wp2_with fail
      go_ret
      exact ⟨ret_bool (zeroL_yes fun j hj => H.out j (by omega)).symm, rfl⟩

theorem sameInts_any (A D : Option Addr) (c d : Nat) (xs ys : List Int) (w : World) (h : Sl w w.heap.size 1 A xs.length (encI xs)) (g : Sl w w.heap.size 1 D ys.length (encI ys)) (hm : xs.length ≤ 1048576) :
    Calls Tryd.prog 8 #[.slice A xs.length c, .slice D ys.length d] w fun e w' => e = .returned (.bool (eqI xs ys)) ∧ Below w.heap.size w w' := by
  by_cases hl : xs.length = ys.length
  · have hl1 : ((xs.length : Int) != ys.length) = false := by simp [hl]
    have HL := hide hl
    have hl2 : xs.length ≤ ys.length := by omega
    clear hl
    go_enter Tryd.func8, Tryd.ntmps8
    go_wp2
    go_loopw [5] (fun i wr => ∃ k : Nat, k ≤ xs.length ∧ i = .int .i64 k ∧ (∀ j, j < k → at_ xs j = at_ ys j) ∧ Below w.heap.size w wr) (fun i _ => xs.length - (intOf i).toNat)
    case atStart => exact ⟨0, Nat.zero_le _, rfl, fun j hj => absurd hj (by omega), Below.refl _ _⟩
    case round =>
      obtain ⟨k, hk, rfl, hall, hb⟩ := hrel
      have HA := hide hall
      clear hall
      by_cases hlt : k < xs.length
      · obtain ⟨b, off, rfl, hbb, hc⟩ := h.int k hlt
        obtain ⟨b2, off2, rfl, hbb2, hc2⟩ := g.int k (by omega)
        have hc' := (hb.cell (p := ⟨b, off + k, none⟩) hbb).trans hc
        have hc2' := (hb.cell (p := ⟨b2, off2 + k, none⟩) hbb2).trans hc2
        have hlt2 : k < ys.length := by omega
        have HB := hide hb
        clear hb
        by_cases he : at_ xs k = at_ ys k
        · have he' : (at_ xs k != at_ ys k) = false := by simp [he]
          have HE := hide he
          clear he
          go_wp2
          go_quiet (fail)
          go_wp2
          go_roundw
          case rel =>
            refine ⟨k + 1, by omega, by go_num, fun j hj => ?_, ?_⟩
            · by_cases hjk : j = k
              · subst hjk; exact HE.out
              · exact HA.out j (by omega)
            · first | exact HB.out | exact HB.out.drew | exact below_drewN HB.out _
          case measure => simp [intOf]; omega
        · have he' : (at_ xs k != at_ ys k) = true := by simp [he]
          have HE := hide he
          clear he
          go_wp2
          go_quiet (fail)
          go_wp2
          go_ret
          refine ⟨ret_bool (eqI_ne_at k HE.out).symm, ?_⟩
          first | exact HB.out | exact HB.out.drew | exact below_drewN HB.out _
      · go_wp2
        go_ret
        refine ⟨ret_bool ?_, hb⟩
        have : xs = ys := same_of_at HL.out fun j hj => HA.out j (by omega)
        simp [eqI, this]
  · have hl1 : ((xs.length : Int) != ys.length) = true := by simp; omega
    have HL := hide hl
    clear hl
    go_enter Tryd.func8, Tryd.ntmps8
    go_wp2
    go_ret
    refine ⟨ret_bool ?_, Below.refl _ _⟩
    unfold eqI
    symm
    simp
    rintro rfl
    exact HL.out rfl

end Go.Proofs.YtbebhbcjdiahcaaDoor
