/-
  The search from a feed: what the program's function computes.
-/
import Derived.Test.YtbebhbcjdiahcaaDoorParent
import Derived.Test.YtbebhbcjdiahcaaDoorBut
import Derived.Test.YtbebhbcjdiahcaaDoorSort
import Derived.BigRegion
namespace Go.Proofs.YtbebhbcjdiahcaaDoor
open Go.RowKit
set_option linter.unusedVariables false

theorem otherF_yes {x : Int × Int × Int} {u : Int} (h : 0 ≤ otherF x u) : (u = x.1 ∧ otherF x u = x.2.1) ∨ (u = x.2.1 ∧ otherF x u = x.1) := by
  unfold otherF at h ⊢
  by_cases h1 : u = x.1
  · rw [if_pos h1]; exact .inl ⟨h1, rfl⟩
  · rw [if_neg h1] at h ⊢
    by_cases h2 : u = x.2.1
    · rw [if_pos h2]; exact .inr ⟨h2, rfl⟩
    · rw [if_neg h2] at h; omega
theorem ends_of {ls : List (Int × Int × Int)} {k x y : Nat} (h : otherF (at3 ls k) x = y) : Ends ls k x y := by
  rcases otherF_yes (x := at3 ls k) (u := x) (by omega) with ⟨h1, h2⟩ | ⟨h1, h2⟩
  · exact .inl ⟨h1.symm, by omega⟩
  · exact .inr ⟨by omega, h1.symm⟩
theorem of_ends {ls : List (Int × Int × Int)} {k x y : Nat} (h : Ends ls k x y) : otherF (at3 ls k) x = y := by
  unfold otherF
  rcases h with ⟨h1, h2⟩ | ⟨h1, h2⟩
  · rw [if_pos h1.symm, h2]
  · by_cases h3 : (x : Int) = (at3 ls k).1
    · rw [if_pos h3]; omega
    · rw [if_neg h3, if_pos h2.symm, h1]

/-- The tree while it is made. -/
structure TS (base ob g qf qp nb : Nat) (A : Option Addr) (m c : Nat) (fs ps ord : List Int) (E : Option Addr) (f : Nat) (wr : World) : Prop where
  tr : Blk wr g 47 #[.int .i64 nb, .slice A m c, .slice (some ⟨qf, 0, none⟩) nb nb, .slice (some ⟨qp, 0, none⟩) nb nb, .slice E ord.length f]
  hf : wr.ownsRow base 3 1 (.slice (some ⟨qf, 0, none⟩) nb nb) nb (encI fs)
  hp : wr.ownsRow base 3 1 (.slice (some ⟨qp, 0, none⟩) nb nb) nb (encI ps)
  ho : wr.ownsRow ob 3 1 (.slice E ord.length f) ord.length (encI ord)
/-- Where its parts lie. -/
structure TL (base ob g qf qp : Nat) : Prop where
  bg : base ≤ g
  bf : base ≤ qf
  bp : base ≤ qp
  go : g < ob
  fo : qf < ob
  po : qp < ob
  gf : g ≠ qf
  gp : g ≠ qp
  fp : qf ≠ qp
section
variable {base ob g qf qp nb m c f : Nat} {A E : Option Addr} {fs ps ord : List Int} {w w' : World}
theorem TS.to (h : TS base ob g qf qp nb A m c fs ps ord E f w) (hb : Below w.heap.size w w') : TS base ob g qf qp nb A m c fs ps ord E f w' := ⟨h.tr.to hb, h.hf.keepB hb, h.hp.keepB hb, h.ho.keepB hb⟩
theorem TS.five (h : TS base ob g qf qp nb A m c fs ps ord E f w) : w.cell? ⟨g, 0, none⟩ = some (.int .i64 nb) ∧ w.cell? ⟨g, 1, none⟩ = some (.slice A m c) ∧ w.cell? ⟨g, 2, none⟩ = some (.slice (some ⟨qf, 0, none⟩) nb nb) ∧ w.cell? ⟨g, 3, none⟩ = some (.slice (some ⟨qp, 0, none⟩) nb nb) ∧ w.cell? ⟨g, 4, none⟩ = some (.slice E ord.length f) :=
  ⟨h.tr.cell 0, h.tr.cell 1, h.tr.cell 2, h.tr.cell 3, h.tr.cell 4⟩
theorem TS.app (L : TL base ob g qf qp) (h : TS base ob g qf qp nb A m c fs ps ord E f w) {D : Option Addr} {d : Nat} {y : Int} (hz : ob ≤ w.heap.size) (ho : w'.ownsRow ob 3 1 (.slice D (ord.length + 1) d) (ord.length + 1) (encI (ord ++ [y]))) (hg : w.grownBy w' (Value.slice E ord.length f).ownBlock) :
    TS base ob g qf qp nb A m c fs ps (ord ++ [y]) D d (w'.setCell ⟨g, 4, none⟩ (.slice D (ord.length + 1) d)) := by
  have hb := grown_below h.ho hg hz
  have t1 : Blk w' g _ _ := h.tr.below hb L.go
  have hs : But (fun x => x = g) w' (w'.setCell ⟨g, 4, none⟩ (.slice D (ord.length + 1) d)) := (But.refl _ w').setCell _ _ fun _ => rfl
  have own : ∀ {q : Nat} {cs : List Value}, q < ob → g ≠ q → w.ownsRow base 3 1 (.slice (some ⟨q, 0, none⟩) nb nb) nb cs → (w'.setCell ⟨g, 4, none⟩ (.slice D (ord.length + 1) d)).ownsRow base 3 1 (.slice (some ⟨q, 0, none⟩) nb nb) nb cs := fun {q cs} hq hne ho' =>
    hs.own (own_apart ho' hg (fun k hk he => by
      have : q = k := by simpa [Value.ownBlock] using hk
      have := (h.ho.lt k he).1
      omega)) (fun k hk he => by
      have : q = k := by simpa [Value.ownBlock] using hk
      omega)
  refine ⟨?_, own L.fo L.gf h.hf, own L.po L.gp h.hp, ?_⟩
  · have := t1.set_ 4 (.slice D (ord.length + 1) d)
    rw [List.length_append]
    exact this
  · have := hs.own ho (fun k hk he => by have := (ho.lt k hk).1; have := L.go; omega)
    simpa using this
theorem TS.mark (L : TL base ob g qf qp) (h : TS base ob g qf qp nb A m c fs ps ord E f w) {y : Nat} (hy : y < nb) (a b : Int) :
    TS base ob g qf qp nb A m c (fs.set y a) (ps.set y b) ord E f ((w.setCell ⟨qf, y, none⟩ (.int .i64 a)).setCell ⟨qp, y, none⟩ (.int .i64 b)) := by
  have s1 : But (fun x => x = qf) w (w.setCell ⟨qf, y, none⟩ (.int .i64 a)) := (But.refl _ w).setCell _ _ fun _ => rfl
  have s2 : But (fun x => x = qp) (w.setCell ⟨qf, y, none⟩ (.int .i64 a)) ((w.setCell ⟨qf, y, none⟩ (.int .i64 a)).setCell ⟨qp, y, none⟩ (.int .i64 b)) := (But.refl _ _).setCell _ _ fun _ => rfl
  have e1 : ∀ {q n : Nat} {d : Nat} {v : Option Addr} {k : Nat}, (Value.slice (some ⟨q, 0, none⟩) n d).ownBlock = some k → q = k := fun hk => by simpa [Value.ownBlock] using hk
  refine ⟨?_, ?_, ?_, ?_⟩
  · exact s2.blk (s1.blk h.tr L.gf) L.gp
  · have := (h.hf.stored y (.int .i64 a)).1
    rw [← encI_setU] at this
    exact s2.own this (fun k hk he => by have := e1 (v := none) hk; have := L.fp; omega)
  · have := ((s1.own h.hp (fun k hk he => by have := e1 (v := none) hk; have := L.fp; omega)).stored y (.int .i64 b)).1
    rw [← encI_setU] at this
    exact this
  · exact s2.own (s1.own h.ho (fun k hk he => by have := (h.ho.lt k hk).1; have := L.fo; omega)) (fun k hk he => by have := (h.ho.lt k hk).1; have := L.po; omega)
theorem TS.mark' (L : TL base ob g qf qp) (h : TS base ob g qf qp nb A m c fs ps ord E f w) {y : Nat} (hy : y < nb) (a b : Int) :
    TS base ob g qf qp nb A m c (fs.set y a) (ps.set y b) ord E f ((w.setCell ⟨qp, y, none⟩ (.int .i64 b)).setCell ⟨qf, y, none⟩ (.int .i64 a)) := by
  have s1 : But (fun x => x = qf) (w.setCell ⟨qp, y, none⟩ (.int .i64 b)) ((w.setCell ⟨qp, y, none⟩ (.int .i64 b)).setCell ⟨qf, y, none⟩ (.int .i64 a)) := (But.refl _ _).setCell _ _ fun _ => rfl
  have s2 : But (fun x => x = qp) w (w.setCell ⟨qp, y, none⟩ (.int .i64 b)) := (But.refl _ _).setCell _ _ fun _ => rfl
  have e1 : ∀ {q n : Nat} {d : Nat} {v : Option Addr} {k : Nat}, (Value.slice (some ⟨q, 0, none⟩) n d).ownBlock = some k → q = k := fun hk => by simpa [Value.ownBlock] using hk
  refine ⟨?_, ?_, ?_, ?_⟩
  · exact s1.blk (s2.blk h.tr L.gp) L.gf
  · have := ((s2.own h.hf (fun k hk he => by have := e1 (v := none) hk; have := L.fp; omega)).stored y (.int .i64 a)).1
    rw [← encI_setU] at this
    exact this
  · have := (h.hp.stored y (.int .i64 b)).1
    rw [← encI_setU] at this
    exact s1.own this (fun k hk he => by have := e1 (v := none) hk; have := L.fp; omega)
  · exact s1.own (s2.own h.ho (fun k hk he => by have := (h.ho.lt k hk).1; have := L.po; omega)) (fun k hk he => by have := (h.ho.lt k hk).1; have := L.fo; omega)
end

end Go.Proofs.YtbebhbcjdiahcaaDoor
