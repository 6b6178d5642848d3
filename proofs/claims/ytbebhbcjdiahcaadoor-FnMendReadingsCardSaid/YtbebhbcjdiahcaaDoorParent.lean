/-
  The lines through which buses are fed: what the reference's rounds and the program's search keep. Plain definitions and lemmas.
-/
import Derived.Test.YtbebhbcjdiahcaaDoorRadial
namespace Go.Proofs.YtbebhbcjdiahcaaDoor
open Go.RowKit
set_option linter.unusedVariables false

section
variable {ls : List (Int × Int × Int)} {on : List Bool} {bs : List (Int × Int)}
/-- The lines through which buses are fed. -/
structure PL (ls : List (Int × Int × Int)) (on : List Bool) (bs : List (Int × Int)) (ps : List Int) : Prop where
  len : ps.length = bs.length
  rng : ∀ x, x < bs.length → -2 ≤ at_ ps x ∧ at_ ps x < ls.length
  no : ∀ x : Nat, x < bs.length → at_ ps x < 0 → FeedP bs x ∨ ¬ ∃ f, FeedP bs f ∧ Con ls (onP on) x f
  par : ∀ x : Nat, x < bs.length → 0 ≤ at_ ps x → ¬ FeedP bs x ∧ Par ls (onP on) (FeedP bs) (at_ ps x).toNat x
theorem Par.fed {O : Nat → Prop} {F : Int → Prop} {k : Nat} {x : Int} (h : Par ls O F k x) : ∃ f, F f ∧ Con ls O x f := by
  obtain ⟨hk, hO, o, f, he, hf, hc⟩ := h
  refine ⟨f, hf, ?_⟩
  have e : Con ls O x o := Con.edge (by rcases he with ⟨h1, h2⟩ | ⟨h1, h2⟩; exact ⟨k, hk, hO, .inr ⟨h1, h2⟩⟩; exact ⟨k, hk, hO, .inl ⟨h1, h2⟩⟩)
  exact e.trans (hc.mono fun j _ hj => hj.1)
theorem PL.same {ps qs : List Int} (hp : PL ls on bs ps) (hq : PL ls on bs qs) (hc : ¬ Cyc ls (onP on)) (ho : OneF ls on bs) {x : Nat} (hx : x < bs.length) : (at_ ps x < 0 ∧ at_ qs x < 0) ∨ (0 ≤ at_ ps x ∧ at_ ps x = at_ qs x) := by
  by_cases h1 : at_ ps x < 0
  · by_cases h2 : at_ qs x < 0
    · exact .inl ⟨h1, h2⟩
    · obtain ⟨n1, n2⟩ := hq.par x hx (by omega)
      rcases hp.no x hx h1 with h | h
      · exact absurd h n1
      · exact absurd n2.fed h
  · obtain ⟨m1, m2⟩ := hp.par x hx (by omega)
    by_cases h2 : at_ qs x < 0
    · rcases hq.no x hx h2 with h | h
      · exact absurd h m1
      · exact absurd m2.fed h
    · obtain ⟨n1, n2⟩ := hq.par x hx (by omega)
      have := Par.unique hc ho m2 n2
      exact .inr ⟨by omega, by omega⟩
theorem PL.inj {ps : List Int} (hp : PL ls on bs ps) (hc : ¬ Cyc ls (onP on)) (ho : OneF ls on bs) {x y : Nat} (hx : x < bs.length) (hy : y < bs.length) (h0 : 0 ≤ at_ ps x) (he : at_ ps x = at_ ps y) : x = y := by
  obtain ⟨m1, m2⟩ := hp.par x hx h0
  obtain ⟨n1, n2⟩ := hp.par y hy (by omega)
  rw [he] at m2
  have := Par.one hc ho m2 n2
  omega

/-- Lines that are on and whose ends both are seen. -/
def SvP (ls : List (Int × Int × Int)) (on : List Bool) (V : Nat → Prop) (j : Nat) : Prop := onP on j ∧ V (at3 ls j).1.toNat ∧ V (at3 ls j).2.1.toNat
/-- The ends of line k are x and y. -/
def Ends (ls : List (Int × Int × Int)) (k x y : Nat) : Prop := ((at3 ls k).1 = x ∧ (at3 ls k).2.1 = y) ∨ ((at3 ls k).1 = y ∧ (at3 ls k).2.1 = x)
theorem Ends.con {k x y : Nat} {S : Nat → Prop} (h : Ends ls k x y) (hk : k < ls.length) (hS : S k) : Con ls S y x :=
  Con.edge (h.elim (fun h => ⟨k, hk, hS, .inl h⟩) (fun h => ⟨k, hk, hS, .inr h⟩))
theorem Ends.sv {k x y : Nat} {V : Nat → Prop} (h : Ends ls k x y) : SvP ls on V k ↔ onP on k ∧ V x ∧ V y := by
  unfold SvP
  rcases h with ⟨h1, h2⟩ | ⟨h1, h2⟩
  · rw [h1, h2, Int.toNat_natCast, Int.toNat_natCast]
  · rw [h1, h2, Int.toNat_natCast, Int.toNat_natCast]
    exact ⟨fun h => ⟨h.1, h.2.2, h.2.1⟩, fun h => ⟨h.1, h.2.2, h.2.1⟩⟩
/-- One bus more is seen, through line k. -/
theorem seen_par {V : Nat → Prop} {k x y : Nat} {F : Int → Prop} {f : Int} (he : Ends ls k x y) (hk : k < ls.length) (ho : onP on k) (hy : ¬ V y) (hf : F f) (hc : Con ls (SvP ls on V) x f) : Par ls (onP on) F k y :=
  ⟨hk, ho, x, f, he.elim (fun h => .inr h) (fun h => .inl h), hf, hc.mono fun j _ hj => ⟨hj.1, by
    rintro rfl
    exact hy ((he.sv).1 hj).2.2⟩⟩
theorem seen_con {V V' : Nat → Prop} {k x y : Nat} {f : Int} (he : Ends ls k x y) (hk : k < ls.length) (ho : onP on k) (hx : V x) (hV : ∀ z, V z → V' z) (hy : V' y) (hc : Con ls (SvP ls on V) x f) : Con ls (SvP ls on V') y f :=
  (he.con hk ((he.sv).2 ⟨ho, hV x hx, hy⟩) : Con ls (SvP ls on V') y x).trans (hc.mono fun j _ hj => ⟨hj.1, hV _ hj.2.1, hV _ hj.2.2⟩)

/-! ### the reference's rounds -/
def VisP (ps : List Int) (x : Nat) : Prop := -2 < at_ ps x
structure WP (ls : List (Int × Int × Int)) (on : List Bool) (bs : List (Int × Int)) (ps : List Int) : Prop where
  len : ps.length = bs.length
  rng : ∀ x, x < bs.length → -2 ≤ at_ ps x ∧ at_ ps x < ls.length
  fd : ∀ x, x < bs.length → (at_ ps x = -1 ↔ 0 < (at2 bs x).1)
  par : ∀ x : Nat, x < bs.length → 0 ≤ at_ ps x → Par ls (onP on) (FeedP bs) (at_ ps x).toNat x
  con : ∀ x : Nat, x < bs.length → -2 < at_ ps x → ∃ f, FeedP bs f ∧ Con ls (SvP ls on (VisP ps)) x f
def par0 (bs : List (Int × Int)) : List Int := bs.map fun b => if 0 < b.1 then -1 else -2
theorem par0_at {x : Nat} (h : x < bs.length) : at_ (par0 bs) x = if 0 < (at2 bs x).1 then -1 else -2 := by
  simp [at_, par0, at2, h]
theorem WP.start (ls : List (Int × Int × Int)) (on : List Bool) (bs : List (Int × Int)) : WP ls on bs (par0 bs) := by
  refine ⟨by simp [par0], fun x hx => ?_, fun x hx => ?_, fun x hx h => ?_, fun x hx h => ?_⟩
  · rw [par0_at hx]; split <;> omega
  · rw [par0_at hx]; split <;> omega
  · rw [par0_at hx] at h; split at h <;> omega
  · rw [par0_at hx] at h
    split at h
    · rename_i hp; exact ⟨x, ⟨x, hx, rfl, hp⟩, Con.refl _ _⟩
    · omega
theorem WP.set {ps : List Int} (h : WP ls on bs ps) {k x y : Nat} (he : Ends ls k x y) (hk : k < ls.length) (ho : onP on k) (hx : x < bs.length) (hy : y < bs.length) (hvx : -2 < at_ ps x) (hvy : at_ ps y = -2) : WP ls on bs (ps.set y k) := by
  have key : ∀ z, at_ (ps.set y k) z = if z = y then (k : Int) else at_ ps z := fun z => at_setN ps y z k (by rw [h.len]; exact hy)
  have mono : ∀ z, VisP ps z → VisP (ps.set y k) z := fun z hz => by unfold VisP; rw [key]; split; omega; exact hz
  obtain ⟨f, hf, hc⟩ := h.con x hx hvx
  refine ⟨by rw [List.length_set]; exact h.len, fun z hz => ?_, fun z hz => ?_, fun z hz hp => ?_, fun z hz hp => ?_⟩
  · rw [key]; split
    · omega
    · exact h.rng z hz
  · rw [key]; split
    · rename_i e; subst e
      have := h.fd z hz
      omega
    · exact h.fd z hz
  · rw [key] at hp ⊢
    split
    · rename_i e; subst e
      rw [Int.toNat_natCast]
      exact seen_par he hk ho (by unfold VisP; omega) hf hc
    · rename_i e; rw [if_neg e] at hp; exact h.par z hz hp
  · by_cases e : z = y
    · subst e
      exact ⟨f, hf, seen_con he hk ho hvx mono (by unfold VisP; rw [key, if_pos rfl]; omega) hc⟩
    · rw [key, if_neg e] at hp
      obtain ⟨f', hf', hc'⟩ := h.con z hz hp
      exact ⟨f', hf', hc'.mono fun j _ hj => ⟨hj.1, mono _ hj.2.1, mono _ hj.2.2⟩⟩
structure PassP (ls : List (Int × Int × Int)) (on : List Bool) (p0 ps : List Int) (k : Nat) : Prop where
  up : ∀ x, VisP p0 x → VisP ps x
  did : ∀ j, j < k → onP on j → VisP p0 (at3 ls j).1.toNat ∨ VisP p0 (at3 ls j).2.1.toNat → VisP ps (at3 ls j).1.toNat ∧ VisP ps (at3 ls j).2.1.toNat
theorem PassP.zero (p0 : List Int) : PassP ls on p0 p0 0 := ⟨fun _ h => h, fun _ hj => absurd hj (by omega)⟩
theorem PassP.skip {p0 ps : List Int} {k : Nat} (h : PassP ls on p0 ps k) (hn : onP on k → (VisP ps (at3 ls k).1.toNat ↔ VisP ps (at3 ls k).2.1.toNat)) : PassP ls on p0 ps (k + 1) :=
  ⟨h.up, fun j hj ho hs => by
    by_cases hjk : j = k
    · subst hjk
      have := hn ho
      rcases hs with hs | hs
      · exact ⟨h.up _ hs, this.1 (h.up _ hs)⟩
      · exact ⟨this.2 (h.up _ hs), h.up _ hs⟩
    · exact h.did j (by omega) ho hs⟩
theorem PassP.set {p0 ps : List Int} {k x y : Nat} (h : PassP ls on p0 ps k) (he : Ends ls k x y) (hy : y < ps.length) (hvx : -2 < at_ ps x) : PassP ls on p0 (ps.set y k) (k + 1) := by
  have key : ∀ z, at_ (ps.set y k) z = if z = y then (k : Int) else at_ ps z := fun z => at_setN ps y z k hy
  have mono : ∀ z, VisP ps z → VisP (ps.set y k) z := fun z hz => by unfold VisP; rw [key]; split; omega; exact hz
  refine ⟨fun z hz => mono z (h.up z hz), fun j hj ho hs => ?_⟩
  by_cases hjk : j = k
  · subst hjk
    have vy : VisP (ps.set y j) y := by unfold VisP; rw [key, if_pos rfl]; omega
    have vx : VisP (ps.set y j) x := mono x hvx
    rcases he with ⟨h1, h2⟩ | ⟨h1, h2⟩
    · rw [h1, h2, Int.toNat_natCast, Int.toNat_natCast]; exact ⟨vx, vy⟩
    · rw [h1, h2, Int.toNat_natCast, Int.toNat_natCast]; exact ⟨vy, vx⟩
  · obtain ⟨d1, d2⟩ := h.did j (by omega) ho hs
    exact ⟨mono _ d1, mono _ d2⟩
def GotP (ls : List (Int × Int × Int)) (on : List Bool) (bs : List (Int × Int)) (s : Nat) (ps : List Int) : Prop := ∀ f, FeedP bs f → ∀ x : Nat, x < bs.length → Rch (EdgeP ls (onP on)) f s x → VisP ps x
theorem GotP.start : GotP ls on bs 0 (par0 bs) := by
  rintro f ⟨i, hi, rfl, hp⟩ x hx hr
  have : x = i := by have : (x : Int) = i := hr; omega
  subst this
  unfold VisP
  rw [par0_at hx, if_pos hp]; omega
theorem GotP.next {nb : Nat} (hv : netB nb ls = true) (hnb : bs.length = nb) {p0 ps : List Int} {s : Nat} (hg : GotP ls on bs s p0) (hp : PassP ls on p0 ps ls.length) : GotP ls on bs (s + 1) ps := by
  intro f hf x hx hr
  rcases hr with hr | ⟨v, he, hr⟩
  · exact hp.up x (hg f hf x hx hr)
  · obtain ⟨_, v1, v2⟩ := edge_in hv he
    obtain ⟨v, rfl⟩ := Int.eq_ofNat_of_zero_le v1
    have hsv := hg f hf v (by omega) hr
    obtain ⟨k, hk, ho, h⟩ := he
    rcases h with ⟨h1, h2⟩ | ⟨h1, h2⟩
    · have := (hp.did k hk ho (by rw [h2, Int.toNat_natCast]; exact .inr hsv)).1
      rwa [h1, Int.toNat_natCast] at this
    · have := (hp.did k hk ho (by rw [h1, Int.toNat_natCast]; exact .inl hsv)).2
      rwa [h2, Int.toNat_natCast] at this
theorem WP.done {nb : Nat} (hv : netB nb ls = true) (hnb : bs.length = nb) {ps : List Int} (h : WP ls on bs ps) (hg : GotP ls on bs nb ps) : PL ls on bs ps := by
  refine ⟨h.len, h.rng, fun x hx hp => ?_, fun x hx hp => ⟨?_, h.par x hx hp⟩⟩
  · by_cases h1 : at_ ps x = -1
    · exact .inl ⟨x, hx, rfl, (h.fd x hx).1 h1⟩
    · right
      rintro ⟨f, hf, hc⟩
      have hfr := hf
      obtain ⟨i, hi, rfl, _⟩ := hfr
      have hr := (Rea.enough nb (by omega) (fun u v h => (edge_in hv h).1) hc.sym).up nb (by omega)
      have := hg _ hf x hx hr
      unfold VisP at this
      omega
  · rintro ⟨i, hi, he, hp'⟩
    obtain rfl : x = i := by omega
    have := (h.fd x hx).2 hp'
    omega

/-! ### the program's search -/
def VisF (fs : List Int) (x : Nat) : Prop := 0 ≤ at_ fs x
structure TV (ls : List (Int × Int × Int)) (on : List Bool) (bs : List (Int × Int)) (i : Nat) (fs ps : List Int) : Prop where
  lf : fs.length = bs.length
  lp : ps.length = bs.length
  rf : ∀ x, x < bs.length → -1 ≤ at_ fs x ∧ at_ fs x < bs.length
  rp : ∀ x, x < bs.length → -1 ≤ at_ ps x ∧ at_ ps x < ls.length
  np : ∀ x, x < bs.length → at_ fs x < 0 → at_ ps x = -1
  fv : ∀ x, x < bs.length → FeedP bs x → x < i → 0 ≤ at_ fs x
  vs : ∀ x : Nat, x < bs.length → 0 ≤ at_ fs x → ∃ f : Int, FeedP bs f ∧ f < i ∧ Con ls (SvP ls on (VisF fs)) x f
  pp : ∀ x : Nat, x < bs.length → 0 ≤ at_ fs x → (FeedP bs x ∧ x < i ∧ at_ ps x = -1) ∨ (0 ≤ at_ ps x ∧ Par ls (onP on) (FeedP bs) (at_ ps x).toNat x ∧ (FeedP bs x → i ≤ x))
theorem TV.skip {i : Nat} {fs ps : List Int} (h : TV ls on bs i fs ps) (hn : ¬ FeedP bs i) : TV ls on bs (i + 1) fs ps := by
  refine ⟨h.lf, h.lp, h.rf, h.rp, h.np, fun x hx hf hi => ?_, fun x hx hv => ?_, fun x hx hv => ?_⟩
  · by_cases he : x = i
    · subst he; exact absurd hf hn
    · exact h.fv x hx hf (by omega)
  · obtain ⟨f, hf, hi, hc⟩ := h.vs x hx hv
    exact ⟨f, hf, by omega, hc⟩
  · rcases h.pp x hx hv with ⟨h1, h2, h3⟩ | ⟨h1, h2, h3⟩
    · exact .inl ⟨h1, by omega, h3⟩
    · refine .inr ⟨h1, h2, fun hf => ?_⟩
      have := h3 hf
      by_cases he : x = i
      · subst he; exact absurd hf hn
      · omega
theorem TV.feed {i : Nat} {fs ps : List Int} (h : TV ls on bs i fs ps) (hi : i < bs.length) (hf : FeedP bs i) (hn : at_ fs i < 0) : TV ls on bs (i + 1) (fs.set i i) ps := by
  have key : ∀ z, at_ (fs.set i i) z = if z = i then (i : Int) else at_ fs z := fun z => at_setN fs i z i (by rw [h.lf]; exact hi)
  have mono : ∀ z, VisF fs z → VisF (fs.set i i) z := fun z hz => by unfold VisF; rw [key]; split; omega; exact hz
  refine ⟨by rw [List.length_set]; exact h.lf, h.lp, fun x hx => ?_, h.rp, fun x hx hv => ?_, fun x hx hf' hi' => ?_, fun x hx hv => ?_, fun x hx hv => ?_⟩
  · rw [key]; split
    · omega
    · exact h.rf x hx
  · rw [key] at hv
    split at hv
    · omega
    · exact h.np x hx hv
  · rw [key]; split
    · omega
    · exact h.fv x hx hf' (by omega)
  · by_cases he : x = i
    · subst he; exact ⟨x, hf, by omega, Con.refl _ _⟩
    · rw [key, if_neg he] at hv
      obtain ⟨f, h1, h2, h3⟩ := h.vs x hx hv
      exact ⟨f, h1, by omega, h3.mono fun j _ hj => ⟨hj.1, mono _ hj.2.1, mono _ hj.2.2⟩⟩
  · by_cases he : x = i
    · subst he; exact .inl ⟨hf, by omega, h.np x hx hn⟩
    · rw [key, if_neg he] at hv
      rcases h.pp x hx hv with ⟨h1, h2, h3⟩ | ⟨h1, h2, h3⟩
      · exact .inl ⟨h1, by omega, h3⟩
      · exact .inr ⟨h1, h2, fun hf => by have := h3 hf; omega⟩
theorem TV.push {i : Nat} {fs ps : List Int} (h : TV ls on bs i fs ps) {k x y fd : Nat} (he : Ends ls k x y) (hk : k < ls.length) (ho : onP on k) (hx : x < bs.length) (hy : y < bs.length) (hfd : fd < bs.length) (hvx : 0 ≤ at_ fs x) (hvy : at_ fs y < 0) : TV ls on bs i (fs.set y fd) (ps.set y k) := by
  have key : ∀ z, at_ (fs.set y fd) z = if z = y then (fd : Int) else at_ fs z := fun z => at_setN fs y z fd (by rw [h.lf]; exact hy)
  have keyp : ∀ z, at_ (ps.set y k) z = if z = y then (k : Int) else at_ ps z := fun z => at_setN ps y z k (by rw [h.lp]; exact hy)
  have mono : ∀ z, VisF fs z → VisF (fs.set y fd) z := fun z hz => by unfold VisF; rw [key]; split; omega; exact hz
  obtain ⟨f, hf, hfi, hc⟩ := h.vs x hx hvx
  refine ⟨by rw [List.length_set]; exact h.lf, by rw [List.length_set]; exact h.lp, fun z hz => ?_, fun z hz => ?_, fun z hz hv => ?_, fun z hz hf' hi' => ?_, fun z hz hv => ?_, fun z hz hv => ?_⟩
  · rw [key]; split
    · omega
    · exact h.rf z hz
  · rw [keyp]; split
    · omega
    · exact h.rp z hz
  · rw [key] at hv
    split at hv
    · omega
    · rename_i e; rw [keyp, if_neg e]; exact h.np z hz hv
  · rw [key]; split
    · omega
    · exact h.fv z hz hf' hi'
  · by_cases e : z = y
    · subst e
      exact ⟨f, hf, hfi, seen_con he hk ho hvx mono (by unfold VisF; rw [key, if_pos rfl]; omega) hc⟩
    · rw [key, if_neg e] at hv
      obtain ⟨f', h1, h2, h3⟩ := h.vs z hz hv
      exact ⟨f', h1, h2, h3.mono fun j _ hj => ⟨hj.1, mono _ hj.2.1, mono _ hj.2.2⟩⟩
  · by_cases e : z = y
    · subst e
      rw [keyp, if_pos rfl]
      refine .inr ⟨by omega, ?_, fun hf' => ?_⟩
      · rw [Int.toNat_natCast]
        exact seen_par he hk ho (by unfold VisF; omega) hf hc
      · refine Classical.byContradiction fun hlt => ?_
        have := h.fv z hz hf' (by omega)
        omega
    · rw [key, if_neg e] at hv
      rw [keyp, if_neg e]
      exact h.pp z hz hv
/-- No bus that is seen has a line to one that is not, but for those that still wait. -/
def Closed (ls : List (Int × Int × Int)) (on : List Bool) (bs : List (Int × Int)) (fs : List Int) (pend : List Int) : Prop := ∀ x : Nat, x < bs.length → 0 ≤ at_ fs x → (x : Int) ∉ pend → ∀ (j y : Nat), j < ls.length → onP on j → Ends ls j x y → 0 ≤ at_ fs y
theorem Closed.all {nb : Nat} (hv : netB nb ls = true) (hnb : bs.length = nb) {fs : List Int} (h : Closed ls on bs fs []) {x y : Nat} (hy : y < bs.length) (hc : Con ls (onP on) y x) (hvy : 0 ≤ at_ fs y) : 0 ≤ at_ fs x := by
  have := Rea.all (E := EdgeP ls (onP on)) (t := (y : Int)) (fun u => 0 ≤ at_ fs u.toNat) (by rw [Int.toNat_natCast]; exact hvy) (fun u v he hP => by
    obtain ⟨⟨u1, u2⟩, v1, v2⟩ := edge_in hv he
    obtain ⟨u, rfl⟩ := Int.eq_ofNat_of_zero_le u1
    obtain ⟨v, rfl⟩ := Int.eq_ofNat_of_zero_le v1
    obtain ⟨j, hj, ho, h1⟩ := he
    rw [Int.toNat_natCast] at hP ⊢
    exact h v (by omega) hP (by simp) j u hj ho (h1.elim (fun h => .inr h) (fun h => .inl h))) hc
  rwa [Int.toNat_natCast] at this
/-- Feeds below i are in islands of their own. -/
def OneI (ls : List (Int × Int × Int)) (on : List Bool) (bs : List (Int × Int)) (i : Nat) : Prop := ∀ f g : Nat, f < i → g < i → FeedP bs f → FeedP bs g → Con ls (onP on) f g → f = g
theorem sv_on {V : Nat → Prop} {x y : Int} (h : Con ls (SvP ls on V) x y) : Con ls (onP on) x y := h.mono fun j _ hj => hj.1
theorem OneI.skip {i : Nat} (h : OneI ls on bs i) (hn : ¬ FeedP bs i) : OneI ls on bs (i + 1) := fun f g hf hg ff fg hc => by
  have h1 : f ≠ i := by rintro rfl; exact hn ff
  have h2 : g ≠ i := by rintro rfl; exact hn fg
  exact h f g (by omega) (by omega) ff fg hc
theorem OneI.feed {nb i : Nat} (hv : netB nb ls = true) (hnb : bs.length = nb) {fs ps : List Int} (h : OneI ls on bs i) (ht : TV ls on bs i fs ps) (hcl : Closed ls on bs fs []) (hn : at_ fs i < 0) : OneI ls on bs (i + 1) := by
  have key : ∀ g : Nat, g < i → FeedP bs g → ¬ Con ls (onP on) g i := fun g hg fg hc => by
    have fg' := fg
    obtain ⟨q, hq, he, _⟩ := fg'
    obtain rfl : g = q := by omega
    have := hcl.all hv hnb hq hc (ht.fv g hq fg hg)
    omega
  intro f g hf hg ff fg hc
  by_cases h1 : f = i
  · by_cases h2 : g = i
    · omega
    · subst h1; exact absurd hc.sym (key g (by omega) fg)
  · by_cases h2 : g = i
    · subst h2; exact absurd hc (key f (by omega) ff)
    · exact h f g (by omega) (by omega) ff fg hc
theorem TV.bad {i : Nat} {fs ps : List Int} (h : TV ls on bs i fs ps) (hi : i < bs.length) (hf : FeedP bs i) (hv : 0 ≤ at_ fs i) : ¬ OneF ls on bs := by
  intro ho
  obtain ⟨f, h1, h2, h3⟩ := h.vs i hi hv
  have := ho i f hf h1 (sv_on h3)
  omega
theorem TV.done {nb : Nat} (hv : netB nb ls = true) (hnb : bs.length = nb) {fs ps : List Int} (h : TV ls on bs nb fs ps) (hcl : Closed ls on bs fs []) : PL ls on bs ps := by
  refine ⟨h.lp, fun x hx => by have := h.rp x hx; omega, fun x hx hp => ?_, fun x hx hp => ?_⟩
  · by_cases hvx : 0 ≤ at_ fs x
    · rcases h.pp x hx hvx with ⟨h1, _⟩ | ⟨h1, _⟩
      · exact .inl h1
      · omega
    · right
      rintro ⟨f, hf, hc⟩
      have hf' := hf
      obtain ⟨i, hi, rfl, _⟩ := hf'
      exact hvx (hcl.all hv hnb hi hc.sym (h.fv i hi hf (by omega)))
  · have hvx : 0 ≤ at_ fs x := Classical.byContradiction fun hn => by have := h.np x hx (by omega); omega
    rcases h.pp x hx hvx with ⟨_, _, h1⟩ | ⟨_, h2, h3⟩
    · omega
    · exact ⟨fun hf => by have := h3 hf; omega, h2⟩
theorem OneI.all {nb : Nat} (hnb : bs.length = nb) (h : OneI ls on bs nb) : OneF ls on bs := by
  intro f g hf hg hc
  have hf' := hf
  have hg' := hg
  obtain ⟨i, hi, rfl, _⟩ := hf'
  obtain ⟨j, hj, rfl, _⟩ := hg'
  have := h i j (by omega) (by omega) hf hg hc
  omega
/-- Nothing is seen at the start. -/
def noneL (n : Nat) : List Int := List.replicate n (-1)
theorem noneL_at (n x : Nat) (h : x < n) : at_ (noneL n) x = -1 := by simp [at_, noneL, h]
theorem TV.start (ls : List (Int × Int × Int)) (on : List Bool) (bs : List (Int × Int)) : TV ls on bs 0 (noneL bs.length) (noneL bs.length) := by
  have key := fun x hx => noneL_at bs.length x hx
  refine ⟨by simp [noneL], by simp [noneL], fun x hx => ?_, fun x hx => ?_, fun x hx _ => key x hx, fun x hx _ h => absurd h (by omega), fun x hx h => ?_, fun x hx h => ?_⟩
  · rw [key x hx]; omega
  · rw [key x hx]; omega
  · rw [key x hx] at h; omega
  · rw [key x hx] at h; omega
theorem Closed.start : Closed ls on bs (noneL bs.length) [] := fun x hx h => by rw [noneL_at _ x hx] at h; omega
/-- Each bus that is listed stands behind the one from which it is fed. -/
def OrdP (ls : List (Int × Int × Int)) (ps ord : List Int) : Prop := ∀ (j y : Nat), j < ord.length → at_ ord j = y → 0 ≤ at_ ps y → ∃ i x : Nat, i < j ∧ at_ ord i = x ∧ Ends ls (at_ ps y).toNat x y
/-- A search from a feed: the list of buses that are seen, of which those from number 'from_' on still wait. -/
structure SQ (ls : List (Int × Int × Int)) (on : List Bool) (bs : List (Int × Int)) (i : Nat) (fs ps ord : List Int) (fr : Nat) : Prop where
  tv : TV ls on bs i fs ps
  nod : ord.Nodup
  rng : ∀ x ∈ ord, 0 ≤ x ∧ x < bs.length ∧ 0 ≤ at_ fs x.toNat
  cl : Closed ls on bs fs (ord.drop fr)
  al : ∀ x : Nat, x < bs.length → 0 ≤ at_ fs x → (x : Int) ∈ ord
  bk : OrdP ls ps ord
/-- The lines before k at a bus have been followed. -/
def Did (ls : List (Int × Int × Int)) (on : List Bool) (fs : List Int) (x k : Nat) : Prop := ∀ (j y : Nat), j < k → onP on j → Ends ls j x y → 0 ≤ at_ fs y
theorem Did.zero (fs : List Int) (x : Nat) : Did ls on fs x 0 := fun j y hj => absurd hj (by omega)
theorem Did.skip {fs : List Int} {x k : Nat} (h : Did ls on fs x k) (hn : onP on k → ∀ y, Ends ls k x y → 0 ≤ at_ fs y) : Did ls on fs x (k + 1) := fun j y hj ho he => by
  by_cases hjk : j = k
  · subst hjk; exact hn ho y he
  · exact h j y (by omega) ho he
theorem SQ.pop {i : Nat} {fs ps ord : List Int} {fr x : Nat} (h : SQ ls on bs i fs ps ord fr) (hf : fr < ord.length) (hx : at_ ord fr = x) (hd : Did ls on fs x ls.length) : SQ ls on bs i fs ps ord (fr + 1) := by
  refine ⟨h.tv, h.nod, h.rng, fun z hz hv hn j y hj ho he => ?_, h.al, h.bk⟩
  by_cases hzx : z = x
  · subst hzx; exact hd j y hj ho he
  · refine h.cl z hz hv (fun hm => hn ?_) j y hj ho he
    rw [List.drop_eq_getElem_cons hf] at hm
    rcases List.mem_cons.1 hm with hm | hm
    · rw [at_eq ord fr hf] at hx; omega
    · exact hm
theorem SQ.push {i : Nat} {fs ps ord : List Int} {fr k x y fd : Nat} (h : SQ ls on bs i fs ps ord fr) (hf : fr < ord.length) (hx : at_ ord fr = x) (hd : Did ls on fs x k) (he : Ends ls k x y) (hk : k < ls.length) (ho : onP on k) (hy : y < bs.length) (hfd : fd < bs.length) (hvy : at_ fs y < 0) :
    SQ ls on bs i (fs.set y fd) (ps.set y k) (ord ++ [(y : Int)]) fr ∧ Did ls on (fs.set y fd) x (k + 1) ∧ at_ (ord ++ [(y : Int)]) fr = x := by
  have hmem : (x : Int) ∈ ord := by rw [← hx]; exact mem_at fr hf
  obtain ⟨_, x1, x2⟩ := h.rng _ hmem
  rw [Int.toNat_natCast] at x2
  have key : ∀ z, at_ (fs.set y fd) z = if z = y then (fd : Int) else at_ fs z := fun z => at_setN fs y z fd (by rw [h.tv.lf]; exact hy)
  have mono : ∀ z, 0 ≤ at_ fs z → 0 ≤ at_ (fs.set y fd) z := fun z hz => by rw [key]; split; omega; exact hz
  have hny : (y : Int) ∉ ord := fun hm => by
    have := (h.rng _ hm).2.2
    rw [Int.toNat_natCast] at this
    omega
  refine ⟨⟨h.tv.push he hk ho (by omega) hy hfd x2 hvy, ?_, fun z hz => ?_, fun z hz hv hn j q hj hoj hej => ?_, fun z hz hv => ?_, fun j z hj hz hpz => ?_⟩, fun j q hj hoj hej => ?_, ?_⟩
  · rw [List.nodup_append]
    refine ⟨h.nod, by simp, fun a ha b hb => ?_⟩
    rw [List.mem_singleton] at hb
    rintro rfl
    exact hny (hb ▸ ha)
  · rcases List.mem_append.1 hz with hz | hz
    · obtain ⟨z1, z2, z3⟩ := h.rng z hz
      exact ⟨z1, z2, mono _ z3⟩
    · rw [List.mem_singleton] at hz
      subst hz
      exact ⟨by omega, by omega, by rw [key, if_pos (Int.toNat_natCast y)]; omega⟩
  · rw [List.drop_append_of_le_length (by omega)] at hn
    have hzy : z ≠ y := by rintro rfl; exact hn (List.mem_append.2 (.inr (by simp)))
    rw [key, if_neg hzy] at hv
    exact mono q (h.cl z hz hv (fun hm => hn (List.mem_append.2 (.inl hm))) j q hj hoj hej)
  · by_cases hzy : z = y
    · subst hzy; simp
    · rw [key, if_neg hzy] at hv
      exact List.mem_append.2 (.inl (h.al z hz hv))
  · have keyp : ∀ z, at_ (ps.set y k) z = if z = y then (k : Int) else at_ ps z := fun z => at_setN ps y z k (by rw [h.tv.lp]; exact hy)
    have att : ∀ i, i < ord.length → at_ (ord ++ [(y : Int)]) i = at_ ord i := fun i hi => by simp only [at_, List.getD_eq_getElem?_getD, List.getElem?_append_left hi]
    by_cases hjl : j < ord.length
    · rw [att j hjl] at hz
      have hzy : z ≠ y := by
        rintro rfl
        exact hny (hz ▸ mem_at j hjl)
      rw [keyp, if_neg hzy] at hpz ⊢
      obtain ⟨i, q, h1, h2, h3⟩ := h.bk j z hjl hz hpz
      exact ⟨i, q, h1, by rw [att i (by omega)]; exact h2, h3⟩
    · have hje : j = ord.length := by simp at hj; omega
      subst hje
      have hzy : z = y := by
        have : at_ (ord ++ [(y : Int)]) ord.length = y := by simp [at_]
        omega
      subst hzy
      rw [keyp, if_pos rfl, Int.toNat_natCast]
      exact ⟨fr, x, hf, by rw [att fr hf]; exact hx, he⟩
  · by_cases hjk : j = k
    · subst hjk
      have : q = y := by
        rcases he with ⟨h1, h2⟩ | ⟨h1, h2⟩ <;> rcases hej with ⟨h3, h4⟩ | ⟨h3, h4⟩ <;> omega
      rw [key, if_pos this]; omega
    · exact mono q (hd j q (by omega) hoj hej)
  · rw [← hx]
    simp only [at_, List.getD_eq_getElem?_getD, List.getElem?_append_left hf]
theorem SQ.start {i : Nat} {fs ps ord : List Int} (h : TV ls on bs i fs ps) (hi : i < bs.length) (hf : FeedP bs i) (hn : at_ fs i < 0) (hcl : Closed ls on bs fs []) (hnod : ord.Nodup) (hr : ∀ x ∈ ord, 0 ≤ x ∧ x < bs.length ∧ 0 ≤ at_ fs x.toNat) (hal : ∀ x : Nat, x < bs.length → 0 ≤ at_ fs x → (x : Int) ∈ ord) (hbk : OrdP ls ps ord) : SQ ls on bs (i + 1) (fs.set i i) ps (ord ++ [(i : Int)]) ord.length := by
  have key : ∀ z, at_ (fs.set i i) z = if z = i then (i : Int) else at_ fs z := fun z => at_setN fs i z i (by rw [h.lf]; exact hi)
  have mono : ∀ z, 0 ≤ at_ fs z → 0 ≤ at_ (fs.set i i) z := fun z hz => by rw [key]; split; omega; exact hz
  have hny : (i : Int) ∉ ord := fun hm => by
    have := (hr _ hm).2.2
    rw [Int.toNat_natCast] at this
    omega
  refine ⟨h.feed hi hf hn, ?_, fun z hz => ?_, fun z hz hv hnz j q hj hoj hej => ?_, fun z hz hv => ?_, fun j z hj hz hpz => ?_⟩
  · rw [List.nodup_append]
    refine ⟨hnod, by simp, fun a ha b hb => ?_⟩
    rw [List.mem_singleton] at hb
    rintro rfl
    exact hny (hb ▸ ha)
  · rcases List.mem_append.1 hz with hz | hz
    · obtain ⟨z1, z2, z3⟩ := hr z hz
      exact ⟨z1, z2, mono _ z3⟩
    · rw [List.mem_singleton] at hz
      subst hz
      exact ⟨by omega, by omega, by rw [key, if_pos (Int.toNat_natCast i)]; omega⟩
  · rw [List.drop_append_of_le_length (Nat.le_refl _), List.drop_length, List.nil_append] at hnz
    have hzi : z ≠ i := by rintro rfl; exact hnz (by simp)
    rw [key, if_neg hzi] at hv
    exact mono q (hcl z hz hv (by simp) j q hj hoj hej)
  · by_cases hzi : z = i
    · subst hzi; simp
    · rw [key, if_neg hzi] at hv
      exact List.mem_append.2 (.inl (hal z hz hv))
  · have att : ∀ q, q < ord.length → at_ (ord ++ [(i : Int)]) q = at_ ord q := fun q hq => by simp only [at_, List.getD_eq_getElem?_getD, List.getElem?_append_left hq]
    by_cases hjl : j < ord.length
    · rw [att j hjl] at hz
      obtain ⟨q, x, h1, h2, h3⟩ := hbk j z hjl hz hpz
      exact ⟨q, x, h1, by rw [att q (by omega)]; exact h2, h3⟩
    · have hje : j = ord.length := by simp at hj; omega
      subst hje
      have hzi : z = i := by
        have : at_ (ord ++ [(i : Int)]) ord.length = i := by simp [at_]
        omega
      subst hzi
      have := h.np z hi hn
      omega
theorem SQ.done {i : Nat} {fs ps ord : List Int} {fr : Nat} (h : SQ ls on bs i fs ps ord fr) (hf : ord.length ≤ fr) : Closed ls on bs fs [] := by
  have := h.cl
  rwa [List.drop_eq_nil_of_le hf] at this
end

end Go.Proofs.YtbebhbcjdiahcaaDoor
