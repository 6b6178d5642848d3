/-
  The reference's drawing for the law FnCutCapacity. Of what is drawn only lengths are said.
-/
import Derived.Test.YtijnahflfbjgiaaDoorNetEnds
namespace Go.Proofs.YtijnahflfbjgiaaDoor
open Go.RowKit
set_option linter.unusedVariables false

/-- A drawn network with a state and a zone, in memory of the call's own. -/
def GotC (w : World) (en : Ending) (w' : World) : Prop :=
  ∃ (b : Int) (ls : List (Int × Int × Int)) (D : Option Addr) (d : Nat) (os : List Bool) (E : Option Addr) (f : Nat) (zs : List Int) (Z : Option Addr) (z : Nat), (-1 ≤ b ∧ b ≤ 9) ∧ ls.length ≤ 11 ∧ os.length ≤ 12 ∧ zs.length ≤ 10 ∧ en = .returned (.tuple #[.agg #[.int .i64 b, .slice D ls.length d], .slice E os.length f, .slice Z zs.length z]) ∧
    w'.ownsRow w.heap.size 76 3 (.slice D ls.length d) ls.length (enc3 ls) ∧ w'.ownsRow w.heap.size 4 1 (.slice E os.length f) os.length (encB os) ∧ w'.ownsRow w.heap.size 3 1 (.slice Z zs.length z) zs.length (encI zs) ∧ Below w.heap.size w w'

set_option maxRecDepth 8000 in
set_option maxHeartbeats 1000000 in
theorem DrawCutCapacity_any (A : Option Addr) (c : Nat) (xs : List Int) (w : World) (h : Sl w w.heap.size 1 A xs.length (encU xs)) (hc : xs.length ≤ c) (hm : c ≤ maxLen) (hx : ∀ n ∈ xs, 0 ≤ n ∧ n ≤ 255) :
    Calls Tryd.prog 32 #[.slice A xs.length c] w (GotC w) := by
  have B0 := (Below.refl w.heap.size w).alloc (Nat.le_refl _) (.cells #[.int .i64 0, .slice none 0 0] 50)
  have Z0 := hide (Blk.new w 50 #[.int .i64 0, .slice none 0 0])
  have SA := hide (h.to B0)
  have e0 : (w.alloc (.cells #[.int .i64 0, .slice none 0 0] 50)).heap.size = w.heap.size + 1 := by simp
  have E0 := hide e0
  have HB0 := hide B0
  clear B0 e0
  go_enter Tryd.func32, Tryd.ntmps32
  go_wp2_with fail
  refine (l20Open_any _ _ _ _ SA.out hc hm hx).mono ?_
  rintro e w0 ⟨rfl, hr, hb⟩
  have hr0 := RdU.mk hr
  rw [E0.out] at hr0
  have K0 := hide (HB0.out.then hb)
  have Z1 := hide (Z0.out.to hb)
  have hs := hb.size
  rw [E0.out] at hs
  clear hr hb hx
  go_wp2_with fail
  refine (l20Switched_any _ _ 0 _ _ hr0 (by omega) (by omega) (by omega)).mono ?_
  rintro e w1 ⟨b, ls, D, d, os, E, f, hb, hl, hol, rfl, ho1, ho2, hr1, hg1⟩
  have hgt := hr0.lt
  have hs1 := hg1.size
  have Z2 := hide (Z1.out.grown hg1 (fun he => by injection he; omega))
  have X1 := hide (Blk.new w1 50 #[.int .i64 b, .slice D ls.length d])
  have R1 := hide ((hr1.grown (World.grownBy_alloc w1 (.cells #[.int .i64 b, .slice D ls.length d] 50) none) (fun k hk => by cases hk)).drew)
  have O1 := hide ho1
  have O2 := hide ho2
  have K1 := hide (K0.out.trans (below_of_grown hg1 (B := w.heap.size) (by omega) (by omega)))
  have HB := hide hb
  obtain ⟨c0, c1⟩ := X1.out.two
  have q1 : ¬ w.heap.size = w1.heap.size := by omega
  have q2 : ¬ w1.heap.size = w.heap.size := by omega
  have hb9 := hb.2
  clear hb ho1 ho2 hr1 hg1 hr0
  go_wp2_with fail
  go_region_held3 (fun w' => w'.cell? ⟨w1.heap.size, 0, none⟩ = some (.int .i64 b) ∧ w'.cell? ⟨w1.heap.size, 1, none⟩ = some (.slice D ls.length d))
    (refine ⟨?_, ?_⟩ <;> first | assumption | go_keep | (go_simp; done))
    ((go_at_call 72; refine (l20Zone_any (w.heap.size + 1) (w.heap.size + 1) (0 + 80) b D ls.length d _ _ ?_ ?_ ?_ ?_).mono ?_; exact R1.out; omega; omega; omega; rintro _ w2 ⟨zs, Z, z, hzl, rfl, ho3, hr2, hg2⟩; have X2 := X1.out.drew.grown hg2 (fun he => by injection he; omega); have Z3 := (Z2.out.alloc (.cells #[.int .i64 b, .slice D ls.length d] 50)).drew.grown hg2 (fun he => by injection he; omega); obtain ⟨v0, v1⟩ := X2.two; obtain ⟨z0, z3⟩ := Z3.two; have z1 := Z3.frozen 0; have z2 := Z3.frozen 1))
  obtain ⟨p0, p1⟩ := Z3.two_set (u := .int .i64 b) (v := .slice D ls.length d)
  go_wp2_with fail
  refine bodyPost_ret (v := .tuple #[.agg #[.int .i64 b, .slice D ls.length d], .slice E os.length f, .slice Z zs.length z]) (by simp [results, Tryd.results32, go_sem, p0, p1]) rfl ?_
  have e2 : (w1.alloc (.cells #[.int .i64 b, .slice D ls.length d] 50)).drew.heap.size = w1.heap.size + 1 := by simp
  have K2 := (K1.out.alloc (by omega) (.cells #[.int .i64 b, .slice D ls.length d] 50)).drew.trans (below_of_grown hg2 (B := w.heap.size) (by omega) (by rw [e2]; omega))
  have O1' := grown_own hg2 (show (w1.alloc (.cells #[.int .i64 b, .slice D ls.length d] 50)).drew.ownsRow _ _ _ _ _ _ from O1.out.alloc _) (by omega)
  have O2' := grown_own hg2 (show (w1.alloc (.cells #[.int .i64 b, .slice D ls.length d] 50)).drew.ownsRow _ _ _ _ _ _ from O2.out.alloc _) (by omega)
  rw [e2] at ho3
  exact ⟨b, ls, D, d, os, E, f, zs, Z, z, HB.out, hl, hol, hzl, rfl, own_mono (own_set (own_set O1' (by omega) _ _) (by omega) _ _) (by omega), own_mono (own_set (own_set O2' (by omega) _ _) (by omega) _ _) (by omega), own_mono (own_set (own_set ho3 (by omega) _ _) (by omega) _ _) (by omega), (K2.setCell (p := ⟨w.heap.size, 0, none⟩) (Nat.le_refl _) _).setCell (p := ⟨w.heap.size, 1, none⟩) (Nat.le_refl _) _⟩

end Go.Proofs.YtijnahflfbjgiaaDoor
