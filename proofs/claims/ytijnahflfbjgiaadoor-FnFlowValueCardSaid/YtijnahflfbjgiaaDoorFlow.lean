/-
  Chapter 34: flows, ways that can carry more, and the most that can flow, as plain definitions and lemmas; no function of the program.
-/
import Derived.Test.YtijnahflfbjgiaaDoorCuts
import Derived.Test.YtijnahflfbjgiaaDoorReach
namespace Go.Proofs.YtijnahflfbjgiaaDoor
open Go.RowKit
set_option linter.unusedVariables false

theorem at_set_eq (xs : List Int) (k : Nat) (v : Int) (h : k < xs.length) : at_ (xs.set k v) k = v := by simp [at_, h]
theorem at_set_ne (xs : List Int) (k j : Nat) (v : Int) (h : k ≠ j) : at_ (xs.set k v) j = at_ xs j := by simp [at_, List.getElem?_set_ne h]

section
variable (ls : List (Int × Int × Int)) (os : List Bool)

/-- How much more a line can carry away from one of its buses. -/
def roomF (fl : List Int) (k : Nat) (bus : Int) : Int := if atB os k then (if bus = (at3 ls k).1 then (at3 ls k).2.2 - at_ fl k else (at3 ls k).2.2 + at_ fl k) else 0
/-- One more can flow from a bus to another one. -/
def Res (fl : List Int) (u v : Int) : Prop := ∃ k, k < ls.length ∧ 0 ≤ v ∧ otherF (at3 ls k) u = v ∧ 0 < roomF ls os fl k u
/-- Flows that the lines can carry. -/
def FlOk (fl : List Int) : Prop := fl.length = ls.length ∧ ∀ k, k < ls.length → (-(at3 ls k).2.2 ≤ at_ fl k ∧ at_ fl k ≤ (at3 ls k).2.2) ∧ (atB os k = false → at_ fl k = 0)
/-- What flows out of a bus, through the first k lines. -/
def outF (fl : List Int) (u : Int) : Nat → Int
  | 0 => 0
  | k + 1 => outF fl u k + (if (at3 ls k).1 = u then at_ fl k else if (at3 ls k).2.1 = u then - at_ fl k else 0)
/-- More on one line, away from a bus. -/
def augS (t : Int) (fl : List Int) (p : Nat × Int) : List Int := fl.set p.1 (if p.2 = (at3 ls p.1).1 then at_ fl p.1 + t else at_ fl p.1 - t)
def augL (t : Int) (path : List (Nat × Int)) (fl : List Int) : List Int := path.foldl (augS ls t) fl
/-- The line comes nearer. -/
def okL (fl : List Int) (f : Int → Int) (bus : Int) (k : Nat) : Bool := decide (0 ≤ otherF (at3 ls k) bus) && decide (f (otherF (at3 ls k) bus) = f bus - 1) && decide (0 < roomF ls os fl k bus)
/-- The way of s lines from a bus, each the first one that comes nearer. -/
def pathF (fl : List Int) (f : Int → Int) : Nat → Int → List (Nat × Int)
  | 0, _ => []
  | s + 1, bus => match (List.range ls.length).find? (okL ls os fl f bus) with
    | none => []
    | some k => (k, bus) :: pathF fl f s (otherF (at3 ls k) bus)
/-- A way of lines from a bus to another one. -/
def ChainF (t : Int) : Int → List (Nat × Int) → Prop
  | bus, [] => bus = t
  | bus, (k, u) :: rest => u = bus ∧ k < ls.length ∧ 0 ≤ otherF (at3 ls k) bus ∧ ChainF t (otherF (at3 ls k) bus) rest
end

section
variable {ls : List (Int × Int × Int)} {os : List Bool} {b : Int}

theorem otherF_A (x : Int × Int × Int) : otherF x x.1 = x.2.1 := by simp [otherF]
theorem otherF_B {x : Int × Int × Int} (h : x.1 ≠ x.2.1) : otherF x x.2.1 = x.1 := by simp [otherF, Ne.symm h]
theorem otherF_cases {x : Int × Int × Int} {u : Int} (h : 0 ≤ otherF x u) : (u = x.1 ∧ otherF x u = x.2.1) ∨ (u = x.2.1 ∧ u ≠ x.1 ∧ otherF x u = x.1) := by
  unfold otherF at h ⊢
  by_cases h1 : u = x.1
  · rw [if_pos h1]; exact .inl ⟨h1, rfl⟩
  · by_cases h2 : u = x.2.1
    · rw [if_neg h1, if_pos h2]; exact .inr ⟨h2, h1, rfl⟩
    · rw [if_neg h1, if_neg h2] at h; omega
theorem Res.range (hv : netB b ls = true) {fl : List Int} {u v : Int} (h : Res ls os fl u v) : (0 ≤ u ∧ u < b) ∧ (0 ≤ v ∧ v < b) := by
  obtain ⟨k, hk, h0, h1, _⟩ := h
  obtain ⟨m1, m2, m3, m4⟩ := net_at hv k hk
  rcases otherF_cases (x := at3 ls k) (u := u) (by omega) with ⟨e1, e2⟩ | ⟨e1, _, e2⟩
  · rw [e1]; omega
  · rw [e1]; omega

/-! ### what changes on the way -/
theorem augS_len (t : Int) (fl : List Int) (p : Nat × Int) : (augS ls t fl p).length = fl.length := by simp [augS]
theorem augL_len (t : Int) (path : List (Nat × Int)) (fl : List Int) : (augL ls t path fl).length = fl.length := by
  induction path generalizing fl with
  | nil => rfl
  | cons p path ih => show (augL ls t path (augS ls t fl p)).length = _; rw [ih, augS_len]
theorem augL_out (t : Int) (path : List (Nat × Int)) (fl : List Int) (j : Nat) (h : ∀ p ∈ path, p.1 ≠ j) : at_ (augL ls t path fl) j = at_ fl j := by
  induction path generalizing fl with
  | nil => rfl
  | cons p path ih =>
    show at_ (augL ls t path (augS ls t fl p)) j = _
    rw [ih _ (fun q hq => h q (by simp [hq])), augS, at_set_ne _ _ _ _ (h p (by simp))]
theorem augL_in (t : Int) (path : List (Nat × Int)) (fl : List Int) (hd : (path.map Prod.fst).Nodup) (p : Nat × Int) (hp : p ∈ path) (hl : p.1 < fl.length) :
    at_ (augL ls t path fl) p.1 = if p.2 = (at3 ls p.1).1 then at_ fl p.1 + t else at_ fl p.1 - t := by
  induction path generalizing fl with
  | nil => simp at hp
  | cons q path ih =>
    show at_ (augL ls t path (augS ls t fl q)) p.1 = _
    simp only [List.map_cons, List.nodup_cons] at hd
    rcases List.mem_cons.1 hp with rfl | hp
    · rw [augL_out, augS, at_set_eq _ _ _ hl]
      intro r hr he
      exact hd.1 (he ▸ List.mem_map_of_mem hr)
    · have hne : q.1 ≠ p.1 := fun he => hd.1 (he ▸ List.mem_map_of_mem hp)
      rw [ih _ hd.2 hp (by rw [augS_len]; exact hl), augS, at_set_ne _ _ _ _ hne]
theorem outF_set (fl : List Int) (k : Nat) (v : Int) (u : Int) (m : Nat) (hk : k < fl.length) :
    outF ls (fl.set k v) u m = outF ls fl u m + (if k < m then (if (at3 ls k).1 = u then v - at_ fl k else if (at3 ls k).2.1 = u then at_ fl k - v else 0) else 0) := by
  induction m with
  | zero => simp [outF]
  | succ m ih =>
    rw [outF, outF, ih]
    by_cases hkm : k = m
    · subst hkm
      rw [at_set_eq _ _ _ hk, if_neg (show ¬ k < k from Nat.lt_irrefl _), if_pos (show k < k + 1 by omega)]
      split
      · omega
      · split <;> omega
    · rw [at_set_ne _ _ _ _ hkm]
      by_cases hlt : k < m
      · rw [if_pos hlt, if_pos (show k < m + 1 by omega)]; omega
      · rw [if_neg hlt, if_neg (show ¬ k < m + 1 by omega)]; omega
theorem augS_out (hv : netB b ls = true) (t : Int) (fl : List Int) (k : Nat) (bus u : Int) (hk : k < ls.length) (hl : fl.length = ls.length) (ho : 0 ≤ otherF (at3 ls k) bus) :
    outF ls (augS ls t fl (k, bus)) u ls.length = outF ls fl u ls.length + (if u = bus then t else 0) - (if u = otherF (at3 ls k) bus then t else 0) := by
  obtain ⟨m1, m2, m3, m4⟩ := net_at hv k hk
  unfold augS
  rw [outF_set _ _ _ _ _ (by omega), if_pos hk]
  rcases otherF_cases ho with ⟨e1, e2⟩ | ⟨e1, e3, e2⟩
  · rw [e2, if_pos e1, e1]
    by_cases h1 : u = (at3 ls k).1
    · rw [if_pos h1.symm, if_pos h1, if_neg (by omega)]; omega
    · rw [if_neg (Ne.symm h1), if_neg h1]
      by_cases h2 : u = (at3 ls k).2.1
      · rw [if_pos h2.symm, if_pos h2]; omega
      · rw [if_neg (Ne.symm h2), if_neg h2]; omega
  · rw [e2, if_neg e3, e1]
    by_cases h1 : u = (at3 ls k).1
    · rw [if_pos h1.symm, if_pos h1, if_neg (by omega)]; omega
    · rw [if_neg (Ne.symm h1), if_neg h1]
      by_cases h2 : u = (at3 ls k).2.1
      · rw [if_pos h2.symm, if_pos h2]; omega
      · rw [if_neg (Ne.symm h2), if_neg h2]; omega
theorem augL_sum (hv : netB b ls = true) (t to : Int) (path : List (Nat × Int)) : ∀ (bus : Int) (fl : List Int), fl.length = ls.length → ChainF ls to bus path → ∀ u,
    outF ls (augL ls t path fl) u ls.length = outF ls fl u ls.length + (if u = bus then t else 0) - (if u = to then t else 0) := by
  induction path with
  | nil =>
    intro bus fl hl hc u
    rw [show bus = to from hc]
    show outF ls fl u ls.length = _
    omega
  | cons p path ih =>
    obtain ⟨k, q⟩ := p
    intro bus fl hl hc u
    obtain ⟨rfl, hk, ho, hc⟩ := hc
    show outF ls (augL ls t path (augS ls t fl (k, q))) u ls.length = _
    rw [ih _ _ (by rw [augS_len]; exact hl) hc, augS_out hv t fl k q u hk hl ho]
    omega

/-! ### the way itself -/
theorem okL_true {fl : List Int} {f : Int → Int} {bus : Int} {k : Nat} (h : okL ls os fl f bus k = true) : 0 ≤ otherF (at3 ls k) bus ∧ f (otherF (at3 ls k) bus) = f bus - 1 ∧ 0 < roomF ls os fl k bus := by
  simp only [okL, Bool.and_eq_true, decide_eq_true_eq] at h
  exact ⟨h.1.1, h.1.2, h.2⟩
theorem find_some {p : Nat → Bool} {m k : Nat} (h : (List.range m).find? p = some k) : k < m ∧ p k = true ∧ ∀ j, j < k → p j = false := by
  have h1 := List.find?_range_eq_some.1 h
  refine ⟨by simpa using h1.2.1, h1.1, fun j hj => ?_⟩
  simpa using h1.2.2 j hj
theorem find_mk {p : Nat → Bool} {m k : Nat} (h1 : k < m) (h2 : p k = true) (h3 : ∀ j, j < k → p j = false) : (List.range m).find? p = some k :=
  List.find?_range_eq_some.2 ⟨h2, by simpa using h1, fun j hj => by simp [h3 j hj]⟩
theorem find_ex {p : Nat → Bool} {m k : Nat} (h1 : k < m) (h2 : p k = true) : ∃ j, (List.range m).find? p = some j := by
  cases h : (List.range m).find? p with
  | some j => exact ⟨j, rfl⟩
  | none =>
    have := List.find?_eq_none.1 h k (by simpa using h1)
    exact absurd h2 this

theorem find_same {p q : Nat → Bool} {m : Nat} (h : ∀ k, k < m → p k = q k) : (List.range m).find? p = (List.range m).find? q := by
  cases h1 : (List.range m).find? q with
  | none =>
    rw [List.find?_eq_none] at h1 ⊢
    intro k hk
    rw [h k (by simpa using hk)]
    exact h1 k hk
  | some j =>
    obtain ⟨a, c, d⟩ := find_some h1
    exact find_mk a (by rw [h j a]; exact c) fun i hi => by rw [h i (by omega)]; exact d i hi

/-- Ways of a network whose lines can carry some flows, by how far its buses are away from one. -/
structure Way (b : Int) (ls : List (Int × Int × Int)) (os : List Bool) (fl : List Int) (to : Int) (f : Int → Int) : Prop where
  net : netB b ls = true
  to0 : 0 ≤ to
  to1 : to < b
  far : Far (Res ls os fl) to b.toNat f
theorem Way.bnat {fl : List Int} {to : Int} {f : Int → Int} (h : Way b ls os fl to f) : (b.toNat : Int) = b := by
  have := (net_len h.net).1
  omega
theorem Way.line {fl : List Int} {to : Int} {f : Int → Int} (h : Way b ls os fl to f) {bus : Int} (h0 : 0 ≤ bus) (h1 : bus < b) (hp : 0 < f bus) : ∃ k, (List.range ls.length).find? (okL ls os fl f bus) = some k := by
  have hb := h.bnat
  obtain ⟨v, hv, he⟩ := h.far.nearer (fun u v huv => by have := Res.range h.net huv; omega) h0 (by omega) hp
  obtain ⟨k, hk, hv0, ho, hr⟩ := hv
  exact find_ex hk (by simp only [okL, Bool.and_eq_true, decide_eq_true_eq]; exact ⟨⟨by omega, by rw [ho]; exact he⟩, hr⟩)
theorem Way.next {fl : List Int} {to : Int} {f : Int → Int} (h : Way b ls os fl to f) {bus : Int} {k : Nat} (hf : (List.range ls.length).find? (okL ls os fl f bus) = some k) :
    k < ls.length ∧ (0 ≤ otherF (at3 ls k) bus ∧ otherF (at3 ls k) bus < b) ∧ f (otherF (at3 ls k) bus) = f bus - 1 ∧ 0 < roomF ls os fl k bus := by
  obtain ⟨hk, ho, _⟩ := find_some hf
  obtain ⟨h1, h2, h3⟩ := okL_true ho
  obtain ⟨m1, m2, m3, m4⟩ := net_at h.net k hk
  refine ⟨hk, ⟨h1, ?_⟩, h2, h3⟩
  rcases otherF_cases h1 with ⟨_, e⟩ | ⟨_, _, e⟩ <;> omega
theorem pathF_some {fl : List Int} {f : Int → Int} {s : Nat} {bus : Int} {k : Nat} (h : (List.range ls.length).find? (okL ls os fl f bus) = some k) : pathF ls os fl f (s + 1) bus = (k, bus) :: pathF ls os fl f s (otherF (at3 ls k) bus) := by
  rw [pathF, h]
theorem Way.path {fl : List Int} {to : Int} {f : Int → Int} (h : Way b ls os fl to f) : ∀ (s : Nat) (bus : Int), 0 ≤ bus → bus < b → f bus = s →
    ChainF ls to bus (pathF ls os fl f s bus) ∧ (∀ p ∈ pathF ls os fl f s bus, p.1 < ls.length ∧ (0 ≤ otherF (at3 ls p.1) p.2 ∧ f (otherF (at3 ls p.1) p.2) = f p.2 - 1 ∧ 0 < roomF ls os fl p.1 p.2) ∧ 1 ≤ f p.2 ∧ f p.2 ≤ s) ∧ (pathF ls os fl f s bus).length = s := by
  have hb := h.bnat
  intro s
  induction s with
  | zero => intro bus h0 h1 hs; exact ⟨h.far.zero h0 (by omega) hs, by simp [pathF], rfl⟩
  | succ s ih =>
    intro bus h0 h1 hs
    obtain ⟨k, hk⟩ := h.line h0 h1 (by omega)
    obtain ⟨n1, n2, n3, n4⟩ := h.next hk
    obtain ⟨i1, i2, i3⟩ := ih _ n2.1 n2.2 (by omega)
    rw [pathF_some hk]
    refine ⟨⟨rfl, n1, n2.1, i1⟩, fun p hp => ?_, by simp [i3]⟩
    rcases List.mem_cons.1 hp with rfl | hp
    · exact ⟨n1, ⟨n2.1, n3, n4⟩, by show 1 ≤ f bus; omega, by show f bus ≤ _; omega⟩
    · have := i2 p hp
      exact ⟨this.1, this.2.1, this.2.2.1, by omega⟩
theorem Way.lines {fl : List Int} {to : Int} {f : Int → Int} (h : Way b ls os fl to f) : ∀ (s : Nat) (bus : Int), 0 ≤ bus → bus < b → f bus = s → ((pathF ls os fl f s bus).map Prod.fst).Nodup := by
  have hb := h.bnat
  intro s
  induction s with
  | zero => intro bus h0 h1 hs; simp [pathF]
  | succ s ih =>
    intro bus h0 h1 hs
    obtain ⟨k, hk⟩ := h.line h0 h1 (by omega)
    obtain ⟨n1, n2, n3, n4⟩ := h.next hk
    rw [pathF_some hk, List.map_cons, List.nodup_cons]
    refine ⟨fun hm => ?_, ih _ n2.1 n2.2 (by omega)⟩
    obtain ⟨p, hp, he⟩ := List.mem_map.1 hm
    obtain ⟨_, hpath, _⟩ := h.path s _ n2.1 n2.2 (by omega)
    obtain ⟨q1, ⟨q2, q3, q4⟩, q5, q6⟩ := hpath p hp
    have he : p.1 = k := he
    rw [he] at q2 q3
    have m3 := (net_at h.net k n1).2.2.1
    rcases otherF_cases n2.1 with ⟨e1, e2⟩ | ⟨e1, _, e2⟩ <;> rcases otherF_cases q2 with ⟨g1, g2⟩ | ⟨g1, _, g2⟩
    · rw [g1, ← e1] at q6; omega
    · rw [g2, g1, ← e1] at q3; rw [e2] at n3; omega
    · rw [g2, g1, ← e1] at q3; rw [e2] at n3; omega
    · rw [g1, ← e1] at q6; omega

/-! ### a way stays the best one until one of its lines is full -/
theorem room_on {fl : List Int} {k : Nat} {bus : Int} (h : 0 < roomF ls os fl k bus) : atB os k = true := by
  unfold roomF at h
  split at h
  · assumption
  · omega
/-- The room of lines on the way, and of others. -/
theorem room_in {fl : List Int} {path : List (Nat × Int)} {t : Int} (hd : (path.map Prod.fst).Nodup) {k : Nat} {u : Int} (hp : (k, u) ∈ path) (hl : k < fl.length) (hon : atB os k = true) (hne : (at3 ls k).1 ≠ (at3 ls k).2.1) (ho : 0 ≤ otherF (at3 ls k) u) :
    roomF ls os (augL ls t path fl) k u = roomF ls os fl k u - t ∧ roomF ls os (augL ls t path fl) k (otherF (at3 ls k) u) = roomF ls os fl k (otherF (at3 ls k) u) + t := by
  have := augL_in (ls := ls) t path fl hd (k, u) hp hl
  simp only at this
  unfold roomF
  rw [hon, this]
  rcases otherF_cases ho with ⟨e1, e2⟩ | ⟨e1, e3, e2⟩
  · rw [e2, if_pos e1]
    simp only [if_true, if_pos e1, if_neg (Ne.symm hne)]
    omega
  · rw [e2, if_neg e3]
    simp only [if_true, if_neg e3]
    omega
theorem room_out {fl : List Int} {path : List (Nat × Int)} {t : Int} {k : Nat} (hp : ∀ p ∈ path, p.1 ≠ k) (u : Int) : roomF ls os (augL ls t path fl) k u = roomF ls os fl k u := by
  unfold roomF
  rw [augL_out t path fl k hp]
theorem mem_or (path : List (Nat × Int)) (k : Nat) : (∃ u, (k, u) ∈ path) ∨ ∀ p ∈ path, p.1 ≠ k := by
  by_cases h : ∃ u, (k, u) ∈ path
  · exact .inl h
  · exact .inr fun p hp he => h ⟨p.2, by rw [← he]; exact hp⟩
theorem Way.same {fl : List Int} {to : Int} {f : Int → Int} (h : Way b ls os fl to f) (hl : fl.length = ls.length) {from_ : Int} {s : Nat} (h0 : 0 ≤ from_) (h1 : from_ < b) (hs : f from_ = s) (t : Int) (ht0 : 0 ≤ t)
    (ht : ∀ p ∈ pathF ls os fl f s from_, t < roomF ls os fl p.1 p.2) :
    Way b ls os (augL ls t (pathF ls os fl f s from_) fl) to f ∧ ∀ s' bus, pathF ls os (augL ls t (pathF ls os fl f s from_) fl) f s' bus = pathF ls os fl f s' bus := by
  have hb := h.bnat
  obtain ⟨hc, hpath, _⟩ := h.path s from_ h0 h1 hs
  have hd := h.lines s from_ h0 h1 hs
  generalize pathF ls os fl f s from_ = path at hc hpath hd ht ⊢
  have hE : ∀ u v, Res ls os fl u v → Res ls os (augL ls t path fl) u v := by
    rintro u v ⟨k, hk, hv0, ho, hr⟩
    refine ⟨k, hk, hv0, ho, ?_⟩
    rcases mem_or path k with ⟨q, hq⟩ | hq
    · obtain ⟨_, ⟨p2, p3, p4⟩, _⟩ := hpath _ hq
      have := room_in (fl := fl) (t := t) hd hq (by omega) (room_on p4) (net_at h.net k hk).2.2.1 p2
      have hlt := ht _ hq
      simp only at hlt p2 this
      rcases otherF_cases p2 with ⟨e1, e2⟩ | ⟨e1, e3, e2⟩ <;> rcases otherF_cases (x := at3 ls k) (u := u) (by omega) with ⟨g1, g2⟩ | ⟨g1, g3, g2⟩
      · rw [g1, ← e1]; omega
      · rw [e2, ← g1] at this; omega
      · rw [e2, ← g1] at this; omega
      · rw [g1, ← e1]; omega
    · rw [room_out hq]; exact hr
  have hE2 : ∀ u v, Res ls os (augL ls t path fl) u v → Res ls os fl u v ∨ (0 ≤ f u ∧ f v = f u + 1) := by
    rintro u v ⟨k, hk, hv0, ho, hr⟩
    rcases mem_or path k with ⟨q, hq⟩ | hq
    · obtain ⟨_, ⟨p2, p3, p4⟩, p5, _⟩ := hpath _ hq
      simp only at p2 p3 p4 p5
      have := room_in (fl := fl) (t := t) hd hq (by omega) (room_on p4) (net_at h.net k hk).2.2.1 p2
      rcases otherF_cases p2 with ⟨e1, e2⟩ | ⟨e1, e3, e2⟩ <;> rcases otherF_cases (x := at3 ls k) (u := u) (by omega) with ⟨g1, g2⟩ | ⟨g1, g3, g2⟩
      · left; refine ⟨k, hk, hv0, ho, ?_⟩; rw [g1, ← e1]; exact p4
      · right; rw [e2, ← g1] at p3; rw [← ho, g2, ← e1]; omega
      · right; rw [e2, ← g1] at p3; rw [← ho, g2, ← e1]; omega
      · left; refine ⟨k, hk, hv0, ho, ?_⟩; rw [g1, ← e1]; exact p4
    · left; refine ⟨k, hk, hv0, ho, ?_⟩; rw [← room_out hq]; exact hr
  refine ⟨⟨h.net, h.to0, h.to1, ?_⟩, ?_⟩
  · refine Far.local (fun u v huv => by have := Res.range h.net huv; omega) ⟨h.to0, by have := h.to1; omega⟩ (fun u a c => (h.far u a c).1) (h.far.at ⟨h.to0, by have := h.to1; omega⟩) ?_ ?_
    · intro u v huv hv
      have hr := Res.range h.net huv
      rcases hE2 u v huv with h2 | h2
      · exact h.far.step (by omega) (by omega) h2 hv
      · omega
    · intro u a c hu
      by_cases hz : f u = 0
      · exact .inl (h.far.zero a c hz)
      · obtain ⟨v, hv1, hv2⟩ := h.far.nearer (fun u v huv => by have := Res.range h.net huv; omega) a c (by omega)
        exact .inr ⟨v, hE u v hv1, by omega, by omega⟩
  · have hok : ∀ bus k, k < ls.length → okL ls os (augL ls t path fl) f bus k = okL ls os fl f bus k := by
      intro bus k hk
      have hne := (net_at h.net k hk).2.2.1
      by_cases hx : 0 ≤ otherF (at3 ls k) bus ∧ f (otherF (at3 ls k) bus) = f bus - 1
      · have : (0 < roomF ls os (augL ls t path fl) k bus) ↔ (0 < roomF ls os fl k bus) := by
          rcases mem_or path k with ⟨q, hq⟩ | hq
          · obtain ⟨_, ⟨p2, p3, p4⟩, p5, _⟩ := hpath _ hq
            simp only at p2 p3 p4 p5
            have := room_in (fl := fl) (t := t) hd hq (by omega) (room_on p4) hne p2
            have hlt := ht _ hq
            simp only at hlt
            rcases otherF_cases p2 with ⟨e1, e2⟩ | ⟨e1, e3, e2⟩ <;> rcases otherF_cases hx.1 with ⟨g1, g2⟩ | ⟨g1, g3, g2⟩
            · rw [g1, ← e1]; omega
            · exfalso; rw [e2, ← g1] at p3; have := hx.2; rw [g2, ← e1] at this; omega
            · exfalso; rw [e2, ← g1] at p3; have := hx.2; rw [g2, ← e1] at this; omega
            · rw [g1, ← e1]; omega
          · rw [room_out hq]
        unfold okL
        rw [decide_eq_decide.2 this]
      · unfold okL
        have : (decide (0 ≤ otherF (at3 ls k) bus) && decide (f (otherF (at3 ls k) bus) = f bus - 1)) = false := by
          rw [Bool.and_eq_false_iff]
          simp only [decide_eq_false_iff_not]
          omega
        rw [this]
        rfl
    have hfind : ∀ bus, (List.range ls.length).find? (okL ls os (augL ls t path fl) f bus) = (List.range ls.length).find? (okL ls os fl f bus) := by
      intro bus
      exact find_same fun k hk => hok bus k hk
    intro s'
    induction s' with
    | zero => intro bus; rfl
    | succ s' ih =>
      intro bus
      rw [pathF, pathF, hfind]
      cases (List.range ls.length).find? (okL ls os fl f bus) with
      | none => rfl
      | some k => simp [ih]
end

end Go.Proofs.YtijnahflfbjgiaaDoor
