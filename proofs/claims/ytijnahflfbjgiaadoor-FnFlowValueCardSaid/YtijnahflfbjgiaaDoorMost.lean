/-
  Chapter 34: the most that can flow is the least that a cut lets through; plain definitions and lemmas, no function of the program.
-/
import Derived.Test.YtijnahflfbjgiaaDoorFlow
import Derived.Test.YtijnahflfbjgiaaDoorCutCap
namespace Go.Proofs.YtijnahflfbjgiaaDoor
open Go.RowKit
set_option linter.unusedVariables false

section
variable {ls : List (Int × Int × Int)} {os : List Bool} {b : Int}

theorem pathF_congr (hv : netB b ls = true) {fl : List Int} {f g : Int → Int} (h : ∀ u, 0 ≤ u → u < b → f u = g u) : ∀ (s : Nat) (bus : Int), 0 ≤ bus → bus < b → pathF ls os fl f s bus = pathF ls os fl g s bus := by
  have hin : ∀ k bus, k < ls.length → 0 ≤ otherF (at3 ls k) bus → otherF (at3 ls k) bus < b := by
    intro k bus hk ho
    obtain ⟨m1, m2, m3, m4⟩ := net_at hv k hk
    rcases otherF_cases ho with ⟨_, e⟩ | ⟨_, _, e⟩ <;> omega
  intro s
  induction s with
  | zero => intro bus _ _; rfl
  | succ s ih =>
    intro bus h0 h1
    have he : (List.range ls.length).find? (okL ls os fl f bus) = (List.range ls.length).find? (okL ls os fl g bus) := by
      refine find_same fun k hk => ?_
      unfold okL
      by_cases ho : 0 ≤ otherF (at3 ls k) bus
      · rw [h _ ho (hin k bus hk ho), h bus h0 h1]
      · simp [ho]
    rw [pathF, pathF, he]
    cases hf : (List.range ls.length).find? (okL ls os fl g bus) with
    | none => rfl
    | some k =>
      obtain ⟨hk, hok, _⟩ := find_some hf
      have ho := (okL_true hok).1
      simp only
      rw [ih _ ho (hin k bus hk ho)]

/-! ### one more at a time -/
/-- One more flows on the best way. -/
def One (b : Int) (ls : List (Int × Int × Int)) (os : List Bool) (from_ to : Int) (fl fl' : List Int) : Prop := ∃ f, Way b ls os fl to f ∧ 0 ≤ f from_ ∧ fl' = augL ls 1 (pathF ls os fl f (f from_).toNat from_) fl
inductive Ones (b : Int) (ls : List (Int × Int × Int)) (os : List Bool) (from_ to : Int) : List Int → List Int → Prop
  | refl (a : List Int) : Ones b ls os from_ to a a
  | head {a c d : List Int} : One b ls os from_ to a c → Ones b ls os from_ to c d → Ones b ls os from_ to a d
theorem Ones.trans {from_ to : Int} {a c d : List Int} (h : Ones b ls os from_ to a c) (k : Ones b ls os from_ to c d) : Ones b ls os from_ to a d := by
  induction h with
  | refl => exact k
  | head h1 _ ih => exact .head h1 (ih k)
theorem Ones.tail {from_ to : Int} {a c d : List Int} (h : Ones b ls os from_ to a c) (k : One b ls os from_ to c d) : Ones b ls os from_ to a d := h.trans (.head k (.refl _))
theorem One.same {from_ to : Int} {a c d : List Int} (h0 : 0 ≤ from_) (h1 : from_ < b) (h : One b ls os from_ to a c) (k : One b ls os from_ to a d) : c = d := by
  obtain ⟨f, hf, _, rfl⟩ := h
  obtain ⟨g, hg, _, rfl⟩ := k
  have hb := hf.bnat
  have he : ∀ u, 0 ≤ u → u < b → f u = g u := fun u a c => hf.far.unique hg.far u a (by omega)
  rw [he _ h0 h1, pathF_congr hf.net he _ _ h0 h1]
/-- Nothing more can flow. -/
def Stuck (ls : List (Int × Int × Int)) (os : List Bool) (from_ to : Int) (fl : List Int) : Prop := ¬ Rea (Res ls os fl) to from_
theorem One.free {from_ to : Int} {a c : List Int} (h0 : 0 ≤ from_) (h1 : from_ < b) (h : One b ls os from_ to a c) : ¬ Stuck ls os from_ to a := by
  obtain ⟨f, hf, hp, _⟩ := h
  have hb := hf.bnat
  exact fun hs => hs ((hf.far.reach h0 (by omega)).1 hp)
theorem Ones.same {from_ to : Int} {a c d : List Int} (h0 : 0 ≤ from_) (h1 : from_ < b) (h : Ones b ls os from_ to a c) (k : Ones b ls os from_ to a d) (hc : Stuck ls os from_ to c) (hd : Stuck ls os from_ to d) : c = d := by
  induction h with
  | refl =>
    cases k with
    | refl => rfl
    | head k1 _ => exact absurd hc (k1.free h0 h1)
  | head x1 x2 ih =>
    cases k with
    | refl => exact absurd hd (x1.free h0 h1)
    | head k1 k2 => rw [← x1.same h0 h1 k1] at k2; exact ih k2 hc

/-! ### flows between two buses -/
/-- So much flows from a bus to another one. -/
structure Flo (b : Int) (ls : List (Int × Int × Int)) (os : List Bool) (from_ to : Int) (fl : List Int) (v : Int) : Prop where
  ok : FlOk ls os fl
  out : ∀ u, outF ls fl u ls.length = (if u = from_ then v else 0) - (if u = to then v else 0)
  pos : 0 ≤ v
def zeros (n : Nat) : List Int := List.replicate n 0
theorem zeros_at (n k : Nat) : at_ (zeros n) k = 0 := by
  unfold at_ zeros
  rw [List.getD_eq_getElem?_getD, List.getElem?_replicate]
  split <;> rfl
theorem outF_zeros (n : Nat) (u : Int) (m : Nat) : outF ls (zeros n) u m = 0 := by
  induction m with
  | zero => rfl
  | succ m ih => rw [outF, ih, zeros_at]; simp
theorem Flo.zero (hv : netB b ls = true) (from_ to : Int) : Flo b ls os from_ to (zeros ls.length) 0 :=
  ⟨⟨by simp [zeros], fun k hk => by rw [zeros_at]; have := net_at hv k hk; exact ⟨by omega, fun _ => rfl⟩⟩, fun u => by rw [outF_zeros]; simp, Int.le_refl _⟩
theorem Flo.aug {from_ to : Int} {fl : List Int} {v : Int} {f : Int → Int} (h : Flo b ls os from_ to fl v) (hw : Way b ls os fl to f) (h0 : 0 ≤ from_) (h1 : from_ < b) (hp : 0 ≤ f from_) (t : Int) (ht0 : 0 ≤ t) (ht : ∀ p ∈ pathF ls os fl f (f from_).toNat from_, t ≤ roomF ls os fl p.1 p.2) :
    Flo b ls os from_ to (augL ls t (pathF ls os fl f (f from_).toNat from_) fl) (v + t) := by
  obtain ⟨hc, hpath, _⟩ := hw.path (f from_).toNat from_ h0 h1 (by omega)
  have hd := hw.lines (f from_).toNat from_ h0 h1 (by omega)
  generalize pathF ls os fl f (f from_).toNat from_ = path at hc hpath hd ht ⊢
  refine ⟨⟨by rw [augL_len]; exact h.ok.1, fun k hk => ?_⟩, fun u => ?_, by have := h.pos; omega⟩
  · have hk0 := h.ok.2 k hk
    rcases mem_or path k with ⟨q, hq⟩ | hq
    · obtain ⟨_, ⟨p2, p3, p4⟩, p5, _⟩ := hpath _ hq
      simp only at p2 p3 p4 p5
      have hon := room_on p4
      have hr := ht _ hq
      have hi := augL_in (ls := ls) t path fl hd (k, q) hq (by rw [h.ok.1]; exact hk)
      simp only at hr hi
      rw [hi]
      unfold roomF at hr
      rw [hon] at hr ⊢
      simp only [if_true] at hr
      refine ⟨?_, fun hx => by cases hx⟩
      split
      · rename_i hA; rw [if_pos hA] at hr; omega
      · rename_i hA; rw [if_neg hA] at hr; omega
    · rw [augL_out t path fl k hq]; exact hk0
  · rw [augL_sum hw.net t to path from_ fl h.ok.1 hc, h.out u]
    split <;> split <;> omega
theorem augL_add {path : List (Nat × Int)} {fl : List Int} (hd : (path.map Prod.fst).Nodup) (hk : ∀ p ∈ path, p.1 < fl.length) (s t : Int) : augL ls t path (augL ls s path fl) = augL ls (s + t) path fl := by
  refine same_of_at (by simp only [augL_len]) fun j hj => ?_
  rcases mem_or path j with ⟨q, hq⟩ | hq
  · have h1 := augL_in (ls := ls) t path (augL ls s path fl) hd (j, q) hq (by rw [augL_len]; exact hk _ hq)
    have h2 := augL_in (ls := ls) s path fl hd (j, q) hq (hk _ hq)
    have h3 := augL_in (ls := ls) (s + t) path fl hd (j, q) hq (hk _ hq)
    simp only at h1 h2 h3
    rw [h1, h3, h2]
    split <;> omega
  · rw [augL_out _ _ _ _ hq, augL_out _ _ _ _ hq, augL_out _ _ _ _ hq]
theorem augL_zero {path : List (Nat × Int)} {fl : List Int} (hd : (path.map Prod.fst).Nodup) (hk : ∀ p ∈ path, p.1 < fl.length) : augL ls 0 path fl = fl := by
  refine same_of_at (by simp only [augL_len]) fun j hj => ?_
  rcases mem_or path j with ⟨q, hq⟩ | hq
  · have h2 := augL_in (ls := ls) 0 path fl hd (j, q) hq (hk _ hq)
    simp only at h2
    rw [h2]
    split <;> omega
  · rw [augL_out _ _ _ _ hq]
/-- As much more at once is so many times one more. -/
theorem Ones.many {from_ to : Int} {fl : List Int} {f : Int → Int} (hl : fl.length = ls.length) (hw : Way b ls os fl to f) (h0 : 0 ≤ from_) (h1 : from_ < b) (hp : 0 ≤ f from_) (t : Nat) (ht : ∀ p ∈ pathF ls os fl f (f from_).toNat from_, (t : Int) ≤ roomF ls os fl p.1 p.2) :
    Ones b ls os from_ to fl (augL ls t (pathF ls os fl f (f from_).toNat from_) fl) := by
  obtain ⟨hc, hpath, _⟩ := hw.path (f from_).toNat from_ h0 h1 (by omega)
  have hd := hw.lines (f from_).toNat from_ h0 h1 (by omega)
  have hk : ∀ p ∈ pathF ls os fl f (f from_).toNat from_, p.1 < fl.length := fun p hp => by rw [hl]; exact (hpath p hp).1
  induction t with
  | zero =>
    show Ones b ls os from_ to fl (augL ls 0 _ fl)
    rw [augL_zero hd hk]
    exact .refl _
  | succ t ih =>
    refine (ih fun p hp => by have := ht p hp; omega).tail ?_
    obtain ⟨w1, w2⟩ := hw.same hl h0 h1 (s := (f from_).toNat) (by omega) t (by omega) (fun p hp => by have := ht p hp; omega)
    refine ⟨f, w1, hp, ?_⟩
    rw [w2, augL_add hd hk]
    rfl
theorem One.flo {from_ to : Int} {fl fl' : List Int} {v : Int} (h : Flo b ls os from_ to fl v) (h0 : 0 ≤ from_) (h1 : from_ < b) (k : One b ls os from_ to fl fl') : Flo b ls os from_ to fl' (v + 1) := by
  obtain ⟨f, hw, hp, rfl⟩ := k
  refine h.aug hw h0 h1 hp 1 (by omega) fun p hpp => ?_
  have := (hw.path (f from_).toNat from_ h0 h1 (by omega)).2.1 p hpp
  omega
theorem Ones.flo {from_ to : Int} {fl fl' : List Int} {v : Int} (h : Flo b ls os from_ to fl v) (h0 : 0 ≤ from_) (h1 : from_ < b) (k : Ones b ls os from_ to fl fl') : ∃ v', Flo b ls os from_ to fl' v' := by
  induction k generalizing v with
  | refl => exact ⟨v, h⟩
  | head k1 _ ih => exact ih (k1.flo h h0 h1)
theorem outF_in (hv : netB b ls = true) {fl : List Int} (h : FlOk ls os fl) (u : Int) (k : Nat) (hk : k ≤ ls.length) : -(999 * (k : Int)) ≤ outF ls fl u k ∧ outF ls fl u k ≤ 999 * k := by
  induction k with
  | zero => simp [outF]
  | succ k ih =>
    have := ih (by omega)
    have h1 := net_at hv k (by omega)
    have h2 := (h.2 k (by omega)).1
    rw [outF]
    split
    · omega
    · split <;> omega
theorem Flo.most (hv : netB b ls = true) {from_ to : Int} {fl : List Int} {v : Int} (h : Flo b ls os from_ to fl v) (hne : from_ ≠ to) : v ≤ 9990 := by
  have h1 := h.out from_
  rw [if_pos rfl, if_neg hne] at h1
  have h2 := outF_in hv h.ok from_ ls.length (Nat.le_refl _)
  have h3 := (net_len hv).2
  omega
/-- The most that can flow. -/
def MostFl (b : Int) (ls : List (Int × Int × Int)) (os : List Bool) (from_ to : Int) (fl : List Int) : Prop := Ones b ls os from_ to (zeros ls.length) fl ∧ Stuck ls os from_ to fl
theorem MostFl.unique {from_ to : Int} {c d : List Int} (h0 : 0 ≤ from_) (h1 : from_ < b) (h : MostFl b ls os from_ to c) (k : MostFl b ls os from_ to d) : c = d := Ones.same h0 h1 h.1 k.1 h.2 k.2

/-! ### cuts -/
/-- What flows over the border of some buses. -/
def crossF (ls : List (Int × Int × Int)) (fl : List Int) (zs : List Int) (k : Nat) : Int := (if (at3 ls k).1 ∈ zs then at_ fl k else 0) - (if (at3 ls k).2.1 ∈ zs then at_ fl k else 0)
def crossS (ls : List (Int × Int × Int)) (fl : List Int) (zs : List Int) : Nat → Int
  | 0 => 0
  | k + 1 => crossS ls fl zs k + crossF ls fl zs k
theorem sum_one (zs : List Int) (hd : zs.Nodup) (a v : Int) : (zs.map fun u => if u = a then v else 0).sum = if a ∈ zs then v else 0 := by
  induction zs with
  | nil => simp
  | cons z zs ih =>
    simp only [List.nodup_cons] at hd
    rw [List.map_cons, List.sum_cons, ih hd.2]
    by_cases h : z = a
    · subst h
      rw [if_pos rfl, if_neg hd.1, if_pos (by simp)]
      omega
    · rw [if_neg h]
      by_cases hm : a ∈ zs
      · rw [if_pos hm, if_pos (by simp [hm])]; omega
      · rw [if_neg hm, if_neg (by simp [hm, Ne.symm h])]; omega
theorem sum_sub (zs : List Int) (f g : Int → Int) : (zs.map fun u => f u - g u).sum = (zs.map f).sum - (zs.map g).sum := by
  induction zs with
  | nil => simp
  | cons z zs ih => simp only [List.map_cons, List.sum_cons, ih]; omega
theorem sum_add (zs : List Int) (f g : Int → Int) : (zs.map fun u => f u + g u).sum = (zs.map f).sum + (zs.map g).sum := by
  induction zs with
  | nil => simp
  | cons z zs ih => simp only [List.map_cons, List.sum_cons, ih]; omega
theorem cross_sum (hv : netB b ls = true) (fl : List Int) (zs : List Int) (hd : zs.Nodup) (k : Nat) (hk : k ≤ ls.length) : (zs.map fun u => outF ls fl u k).sum = crossS ls fl zs k := by
  induction k with
  | zero =>
    simp only [outF, crossS]
    clear hd
    induction zs with
    | nil => rfl
    | cons z zs ih => rw [List.map_cons, List.sum_cons, ih]; rfl
  | succ k ih =>
    have hne := (net_at hv k (by omega)).2.2.1
    rw [crossS, ← ih (by omega)]
    simp only [outF]
    rw [sum_add]
    congr 1
    have : (fun u => if (at3 ls k).1 = u then at_ fl k else if (at3 ls k).2.1 = u then - at_ fl k else 0) = fun u => (if u = (at3 ls k).1 then at_ fl k else 0) - (if u = (at3 ls k).2.1 then at_ fl k else 0) := by
      funext u
      by_cases h1 : u = (at3 ls k).1
      · rw [if_pos h1.symm, if_pos h1, if_neg (by omega)]; omega
      · rw [if_neg (Ne.symm h1), if_neg h1]
        by_cases h2 : u = (at3 ls k).2.1
        · rw [if_pos h2.symm, if_pos h2]; omega
        · rw [if_neg (Ne.symm h2), if_neg h2]; omega
    rw [this, sum_sub, sum_one zs hd, sum_one zs hd]
    rfl
theorem Flo.cross (hv : netB b ls = true) {from_ to : Int} {fl : List Int} {v : Int} (h : Flo b ls os from_ to fl v) {zs : List Int} (hd : zs.Nodup) (h1 : from_ ∈ zs) (h2 : to ∉ zs) : crossS ls fl zs ls.length = v := by
  rw [← cross_sum hv fl zs hd ls.length (Nat.le_refl _)]
  have : (fun u => outF ls fl u ls.length) = fun u => (if u = from_ then v else 0) - (if u = to then v else 0) := funext fun u => h.out u
  rw [this, sum_sub, sum_one zs hd, sum_one zs hd, if_pos h1, if_neg h2]
  omega
theorem cross_le {fl : List Int} (h : FlOk ls os fl) (zs : List Int) (k : Nat) (hk : k < ls.length) : crossF ls fl zs k ≤ cutS ls os zs k := by
  have h1 := h.2 k hk
  unfold crossF cutS
  cases ho : atB os k
  · have := h1.2 ho
    simp [this]
  · by_cases a : (at3 ls k).1 ∈ zs <;> by_cases c : (at3 ls k).2.1 ∈ zs <;> simp [hasB, a, c] <;> omega
theorem crossS_le {fl : List Int} (h : FlOk ls os fl) (zs : List Int) (k : Nat) (hk : k ≤ ls.length) : crossS ls fl zs k ≤ cutF ls os zs k := by
  induction k with
  | zero => simp [crossS, cutF]
  | succ k ih =>
    have := ih (by omega)
    have := cross_le h zs k (by omega)
    rw [crossS, cutF]
    omega
theorem crossS_eq {fl : List Int} (h : FlOk ls os fl) (zs : List Int) (k : Nat) (hk : k ≤ ls.length) (he : crossS ls fl zs k = cutF ls os zs k) : ∀ j, j < k → crossF ls fl zs j = cutS ls os zs j := by
  induction k with
  | zero => intro j hj; omega
  | succ k ih =>
    have h1 := crossS_le h zs k (by omega)
    have h2 := cross_le h zs k (by omega)
    rw [crossS, cutF] at he
    intro j hj
    by_cases hjk : j = k
    · subst hjk; omega
    · exact ih (by omega) (by omega) j (by omega)
theorem crossS_mk {fl : List Int} (zs : List Int) (k : Nat) (h : ∀ j, j < k → crossF ls fl zs j = cutS ls os zs j) : crossS ls fl zs k = cutF ls os zs k := by
  induction k with
  | zero => rfl
  | succ k ih => rw [crossS, cutF, ih (fun j hj => h j (by omega)), h k (by omega)]
/-- No flow is greater than any cut. -/
theorem Flo.cut (hv : netB b ls = true) {from_ to : Int} {fl : List Int} {v : Int} (h : Flo b ls os from_ to fl v) {zs : List Int} (hd : zs.Nodup) (h1 : from_ ∈ zs) (h2 : to ∉ zs) : v ≤ cutF ls os zs ls.length := by
  rw [← h.cross hv hd h1 h2]
  exact crossS_le h.ok zs ls.length (Nat.le_refl _)
/-- A side out of which nothing more can flow lets through what flows. -/
theorem Flo.tight (hv : netB b ls = true) {from_ to : Int} {fl : List Int} {v : Int} (h : Flo b ls os from_ to fl v) {zs : List Int} (hd : zs.Nodup) (h1 : from_ ∈ zs) (h2 : to ∉ zs) (hc : ∀ x y, x ∈ zs → Res ls os fl x y → y ∈ zs) : cutF ls os zs ls.length = v := by
  rw [← h.cross hv hd h1 h2]
  refine (crossS_mk zs ls.length fun k hk => ?_).symm
  have hk0 := h.ok.2 k hk
  have hn := net_at hv k hk
  unfold crossF cutS
  cases ho : atB os k
  · have := hk0.2 ho
    simp [this]
  · by_cases a : (at3 ls k).1 ∈ zs <;> by_cases c : (at3 ls k).2.1 ∈ zs
    · simp [hasB, a, c]
    · have : ¬ 0 < roomF ls os fl k (at3 ls k).1 := fun hr => c (hc _ _ a ⟨k, hk, hn.2.1.1, otherF_A _, hr⟩)
      simp only [roomF, ho, if_true] at this
      simp [hasB, a, c]
      omega
    · have : ¬ 0 < roomF ls os fl k (at3 ls k).2.1 := fun hr => a (hc _ _ c ⟨k, hk, hn.1.1, otherF_B hn.2.2.1, hr⟩)
      simp only [roomF, ho, if_true, if_neg (Ne.symm hn.2.2.1)] at this
      simp [hasB, a, c]
      omega
    · simp [hasB, a, c]
/-- A side that lets through only what flows holds all to which more can flow. -/
theorem Flo.closed (hv : netB b ls = true) {from_ to : Int} {fl : List Int} {v : Int} (h : Flo b ls os from_ to fl v) {zs : List Int} (hd : zs.Nodup) (h1 : from_ ∈ zs) (h2 : to ∉ zs) (he : cutF ls os zs ls.length = v) : ∀ x y, x ∈ zs → Res ls os fl x y → y ∈ zs := by
  rintro x y hx ⟨k, hk, hy0, ho, hr⟩
  have hs := crossS_eq h.ok zs ls.length (Nat.le_refl _) (by rw [h.cross hv hd h1 h2, he]) k hk
  have hon := room_on hr
  have hn := net_at hv k hk
  refine Classical.byContradiction fun hny => ?_
  rcases otherF_cases (x := at3 ls k) (u := x) (by omega) with ⟨e1, e2⟩ | ⟨e1, e3, e2⟩
  · rw [e1] at hx
    rw [← ho, e2] at hny
    simp only [roomF, hon, if_true, if_pos e1] at hr
    simp [crossF, cutS, hasB, hx, hny, hon] at hs
    omega
  · rw [e1] at hx
    rw [← ho, e2] at hny
    simp only [roomF, hon, if_true, if_neg e3] at hr
    simp [crossF, cutS, hasB, hx, hny, hon] at hs
    omega
end

end Go.Proofs.YtijnahflfbjgiaaDoor
