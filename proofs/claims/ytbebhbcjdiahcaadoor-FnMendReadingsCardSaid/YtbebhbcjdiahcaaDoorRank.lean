/-
  How far buses lie from their feeds; readings that leave nothing are the only ones. Plain definitions and lemmas.
-/
import Derived.Test.YtbebhbcjdiahcaaDoorResP
namespace Go.Proofs.YtbebhbcjdiahcaaDoor
open Go.RowKit
set_option linter.unusedVariables false

theorem least {P : Nat → Prop} (h : ∃ n, P n) : ∃ n, P n ∧ ∀ m, m < n → ¬ P m := by
  obtain ⟨n, hn⟩ := h
  induction n using Nat.strongRecOn with
  | _ n ih =>
    by_cases hm : ∃ m, m < n ∧ P m
    · obtain ⟨m, h1, h2⟩ := hm
      exact ih m h1 h2
    · exact ⟨n, hn, fun m h1 h2 => hm ⟨m, h1, h2⟩⟩
section
variable {ls : List (Int × Int × Int)} {on : List Bool} {bs : List (Int × Int)} {nb : Nat}
/-- Within s steps of a feed. -/
def ReachN (ls : List (Int × Int × Int)) (on : List Bool) (bs : List (Int × Int)) (s : Nat) (x : Int) : Prop := ∃ f, FeedP bs f ∧ Rch (EdgeP ls (onP on)) f s x
theorem ReachN.up {s t : Nat} {x : Int} (h : ReachN ls on bs s x) (ht : s ≤ t) : ReachN ls on bs t x := by
  obtain ⟨f, h1, h2⟩ := h
  exact ⟨f, h1, h2.up t ht⟩
/-- How many steps a bus lies from its feed. -/
noncomputable def dep (ls : List (Int × Int × Int)) (on : List Bool) (bs : List (Int × Int)) (nb : Nat) (x : Int) : Nat := (List.range nb).countP fun s => @decide (¬ ReachN ls on bs s x) (Classical.propDecidable _)
theorem dep_le (x : Int) : dep ls on bs nb x ≤ nb := by
  have : dep ls on bs nb x ≤ (List.range nb).length := List.countP_le_length
  simpa using this
theorem dep_lt {s : Nat} {x v : Int} (hs : s < nb) (hx : ∀ t, ReachN ls on bs t x → s < t) (hv : ReachN ls on bs s v) : dep ls on bs nb v < dep ls on bs nb x := by
  refine countP_lt (List.range nb) (fun t _ ht => ?_) ⟨s, by simpa using hs, ?_, ?_⟩
  · refine @decide_eq_true _ (Classical.propDecidable _) fun hr => ?_
    exact (@of_decide_eq_true _ (Classical.propDecidable _) ht) (hv.up (Nat.le_of_lt (hx t hr)))
  · exact @decide_eq_true _ (Classical.propDecidable _) fun hr => by have := hx s hr; omega
  · exact @decide_eq_false _ (Classical.propDecidable _) fun hn => hn hv
/-- No feed is fed through a line. -/
theorem Par.nofeed {k : Nat} {x : Int} (hc : ¬ Cyc ls (onP on)) (ho : OneF ls on bs) (h : Par ls (onP on) (FeedP bs) k x) : ¬ FeedP bs x := by
  intro hf
  obtain ⟨hk, hO, o, f, he, hff, hco⟩ := h
  have e : Con ls (onP on) x o := Con.edge (by rcases he with ⟨h1, h2⟩ | ⟨h1, h2⟩; exact ⟨k, hk, hO, .inr ⟨h1, h2⟩⟩; exact ⟨k, hk, hO, .inl ⟨h1, h2⟩⟩)
  have : x = f := ho x f hf hff (e.trans (hco.mono fun j _ hj => hj.1))
  subst this
  refine hc ⟨k, hk, hO, ?_⟩
  rcases he with ⟨h1, h2⟩ | ⟨h1, h2⟩
  · rw [h1, h2]; exact hco.sym
  · rw [h1, h2]; exact hco
/-- The bus from which a bus is fed lies nearer to the feed. -/
theorem PL.up {ps : List Int} (hv : netB nb ls = true) (hbn : bs.length = nb) (hp : PL ls on bs ps) (hc : ¬ Cyc ls (onP on)) (ho : OneF ls on bs) {x : Nat} (hx : x < bs.length) (h0 : 0 ≤ at_ ps x) :
    ∃ o : Nat, o < bs.length ∧ Ends ls (at_ ps x).toNat o x ∧ dep ls on bs nb o < dep ls on bs nb x := by
  obtain ⟨hnf, hpar⟩ := hp.par x hx h0
  obtain ⟨f0, hf0, hc0⟩ := hpar.fed
  have hfr : ∀ f, FeedP bs f → 0 ≤ f ∧ f < nb := fun f hf => by obtain ⟨i, hi, rfl, _⟩ := hf; omega
  have henough : ReachN ls on bs (nb - 1) x := ⟨f0, hf0, Rea.enough nb (hfr f0 hf0) (fun u v h => (edge_in hv h).1) hc0.sym⟩
  obtain ⟨s, hs, hmin⟩ := least (P := fun s => ReachN ls on bs s x) ⟨_, henough⟩
  have hsl : s ≤ nb - 1 := Classical.byContradiction fun hn => hmin (nb - 1) (by omega) henough
  obtain ⟨f, hf, hr⟩ := hs
  cases s with
  | zero => exact absurd (show FeedP bs x by rw [show (x : Int) = f from hr]; exact hf) hnf
  | succ s =>
    rcases hr with hr | ⟨v, he, hr⟩
    · exact absurd ⟨f, hf, hr⟩ (hmin s (by omega))
    · obtain ⟨_, v1, v2⟩ := edge_in hv he
      obtain ⟨v, rfl⟩ := Int.eq_ofNat_of_zero_le v1
      obtain ⟨k, hk, hok, hends⟩ := he
      have avoid : ∀ t, t ≤ s → ∀ u, Rch (EdgeP ls (onP on)) f t u → Con ls (fun j => onP on j ∧ j ≠ k) u f := by
        intro t
        induction t with
        | zero => intro _ u hu; rw [show u = f from hu]; exact Con.refl _ _
        | succ t ih =>
          intro ht u hu
          rcases hu with hu | ⟨u', he', hu'⟩
          · exact ih (by omega) u hu
          · obtain ⟨j, hj, hoj, hej⟩ := he'
            have hne : j ≠ k := by
              rintro rfl
              have hux : ¬ u = x := fun e => hmin (t + 1) (by omega) ⟨f, hf, .inr ⟨u', ⟨j, hj, hoj, by rw [← e]; exact hej⟩, hu'⟩⟩
              have hux' : ¬ u' = x := fun e => hmin t (by omega) ⟨f, hf, by rw [← e]; exact hu'⟩
              rcases hends with ⟨h1, _⟩ | ⟨_, h1⟩ <;> rcases hej with ⟨h2, h3⟩ | ⟨h2, h3⟩
              · exact hux (h2.symm.trans h1)
              · exact hux' (h2.symm.trans h1)
              · exact hux' (h3.symm.trans h1)
              · exact hux (h3.symm.trans h1)
            exact (Con.edge (show EdgeP ls (fun j => onP on j ∧ j ≠ k) u u' from ⟨j, hj, ⟨hoj, hne⟩, hej⟩)).sym.trans (ih (by omega) u' hu')
      have hpk : Par ls (onP on) (FeedP bs) k x := ⟨hk, hok, v, f, hends, hf, avoid s (Nat.le_refl _) v hr⟩
      have hkp := Par.unique hc ho hpar hpk
      refine ⟨v, by omega, ?_, dep_lt (s := s) (by omega) (fun t ht => Classical.byContradiction fun hn => hmin t (by omega) ht) ⟨f, hf, hr⟩⟩
      rw [hkp]
      exact hends.elim (fun h => .inr h) (fun h => .inl h)
/-- A line at a fed bus that does not feed it feeds the bus at its other end. -/
theorem PL.child {ps : List Int} (hp : PL ls on bs ps) (hc : ¬ Cyc ls (onP on)) (ho : OneF ls on bs) {x y k : Nat} (hx : x < bs.length) (hy : y < bs.length) (he : Ends ls k x y) (hk : k < ls.length) (hok : onP on k) (hfed : ∃ f, FeedP bs f ∧ Con ls (onP on) x f) (hne : ¬ at_ ps x = k) : at_ ps y = k := by
  obtain ⟨f, hf, hcx⟩ := hfed
  have both : Par ls (onP on) (FeedP bs) k x ∨ Par ls (onP on) (FeedP bs) k y := by
    have pl := Con.plus (S := fun j => onP on j ∧ j ≠ k) (k := k) (fun j _ hj => by by_cases hjk : j = k; exact .inr hjk; exact .inl ⟨hj, hjk⟩) hcx
    have px : Con ls (fun j => onP on j ∧ j ≠ k) y f → Par ls (onP on) (FeedP bs) k x := fun h => ⟨hk, hok, y, f, he, hf, h⟩
    have py : Con ls (fun j => onP on j ∧ j ≠ k) x f → Par ls (onP on) (FeedP bs) k y := fun h => ⟨hk, hok, x, f, he.elim (fun h => .inr h) (fun h => .inl h), hf, h⟩
    rcases pl with h | ⟨h1, h2⟩ | ⟨h1, h2⟩
    · exact .inr (py h)
    · rcases he with ⟨e1, e2⟩ | ⟨e1, e2⟩
      · rw [e2] at h2; exact .inl (px h2)
      · rw [e2] at h2; exact .inr (py h2)
    · rcases he with ⟨e1, e2⟩ | ⟨e1, e2⟩
      · rw [e1] at h2; exact .inr (py h2)
      · rw [e1] at h2; exact .inl (px h2)
  have key : ∀ z : Nat, z < bs.length → Par ls (onP on) (FeedP bs) k z → at_ ps z = k := fun z hz hpz => by
    by_cases h0 : 0 ≤ at_ ps z
    · have := Par.unique hc ho (hp.par z hz h0).2 hpz
      omega
    · rcases hp.no z hz (by omega) with h | h
      · exact absurd h (hpz.nofeed hc ho)
      · exact absurd hpz.fed h
  rcases both with h | h
  · exact absurd (key x hx h) hne
  · exact key y hy h
theorem incO_congr {rs rs' : List Int} {x p : Int} : ∀ n, (∀ k, k < n → atB on k = true → incB ls x k = true → ¬ (k : Int) = p → at_ rs k = at_ rs' k) → incO ls on rs x p n = incO ls on rs' x p n
  | 0, _ => rfl
  | n + 1, h => by
    unfold incO
    rw [incO_congr n fun k hk => h k (by omega)]
    by_cases hc : atB on n = true ∧ incB ls x n = true ∧ ¬ (n : Int) = p
    · rw [if_pos hc, if_pos hc, h n (by omega) hc.1 hc.2.1 hc.2.2]
    · rw [if_neg hc, if_neg hc]
theorem inc_ends (hv : netB nb ls = true) (hbn : bs.length = nb) {x k : Nat} (hk : k < ls.length) (h : incB ls x k = true) : ∃ y : Nat, y < bs.length ∧ Ends ls k x y := by
  obtain ⟨m1, m2, _⟩ := net_at hv k hk
  simp only [incB, Bool.or_eq_true, decide_eq_true_eq] at h
  rcases h with h | h
  · obtain ⟨y, hy⟩ := Int.eq_ofNat_of_zero_le m2.1
    exact ⟨y, by omega, .inl ⟨h, hy⟩⟩
  · obtain ⟨y, hy⟩ := Int.eq_ofNat_of_zero_le m1.1
    exact ⟨y, by omega, .inr ⟨hy, h⟩⟩
theorem PL.fed {ps : List Int} (hp : PL ls on bs ps) {x : Nat} (hx : x < bs.length) (h0 : 0 ≤ at_ ps x) : ∃ f, FeedP bs f ∧ Con ls (onP on) x f := (hp.par x hx h0).2.fed
/-- Readings that leave nothing are alike where power flows. -/
theorem res_unique {ps rs rs' : List Int} (hv : netB nb ls = true) (hbn : bs.length = nb) (hp : PL ls on bs ps) (hc : ¬ Cyc ls (onP on)) (ho : OneF ls on bs) (h : zeroL (resL ls on bs rs ps) = true) (h' : zeroL (resL ls on bs rs' ps) = true) :
    ∀ x : Nat, x < bs.length → 0 ≤ at_ ps x → at_ rs (at_ ps x).toNat = at_ rs' (at_ ps x).toNat := by
  have z : ∀ {rs : List Int}, zeroL (resL ls on bs rs ps) = true → ∀ x, x < bs.length → 0 ≤ at_ ps x → at_ rs (at_ ps x).toNat = (at2 bs x).2 + incO ls on rs x (at_ ps x) ls.length := fun {rs} h x hx h0 => by
    have h1 := of_decide_eq_true h x (by rw [resL_len]; exact hx)
    rw [resL_at hx, resF_spec hp hx h0] at h1
    omega
  have main : ∀ d, ∀ x : Nat, x < bs.length → 0 ≤ at_ ps x → nb ≤ dep ls on bs nb x + d → at_ rs (at_ ps x).toNat = at_ rs' (at_ ps x).toNat := by
    intro d
    induction d with
    | zero =>
      intro x hx h0 hd
      rw [z h x hx h0, z h' x hx h0]
      rw [incO_congr ls.length fun k hk hok hik hne => ?_]
      obtain ⟨y, hy, he⟩ := inc_ends hv hbn hk hik
      have hpy := hp.child hc ho hx hy he hk hok (hp.fed hx h0) (fun e => hne e.symm)
      obtain ⟨o, ho1, he2, hd2⟩ := hp.up hv hbn hc ho hy (by omega)
      have := dep_le (ls := ls) (on := on) (bs := bs) (nb := nb) y
      rw [hpy, Int.toNat_natCast] at he2
      have : o = x := by rcases he with ⟨a1, a2⟩ | ⟨a1, a2⟩ <;> rcases he2 with ⟨b1, b2⟩ | ⟨b1, b2⟩ <;> omega
      subst this
      omega
    | succ d ih =>
      intro x hx h0 hd
      rw [z h x hx h0, z h' x hx h0]
      rw [incO_congr ls.length fun k hk hok hik hne => ?_]
      obtain ⟨y, hy, he⟩ := inc_ends hv hbn hk hik
      have hpy := hp.child hc ho hx hy he hk hok (hp.fed hx h0) (fun e => hne e.symm)
      obtain ⟨o, ho1, he2, hd2⟩ := hp.up hv hbn hc ho hy (by omega)
      rw [hpy, Int.toNat_natCast] at he2
      have : o = x := by rcases he with ⟨a1, a2⟩ | ⟨a1, a2⟩ <;> rcases he2 with ⟨b1, b2⟩ | ⟨b1, b2⟩ <;> omega
      subst this
      have := ih y hy (by omega) (by omega)
      rwa [hpy, Int.toNat_natCast] at this
  intro x hx h0
  exact main nb x hx h0 (by omega)
end

end Go.Proofs.YtbebhbcjdiahcaaDoor
