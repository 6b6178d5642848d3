/-
  The law FnExactMendReadings: for every input the call returns true, and the arguments read behind it as before. No condition. (The frame was written by a program of mine, wip/tools/genlaw.py, after the guide's shell.)
-/
import Derived.Test.YtkocagdiikaneaaRows
import Derived.Test.YtkocagdiikaneaaOpen
import Derived.Test.YtkocagdiikaneaaExMendReadings
namespace Go.Proofs.Ytkocagdiikaneaa.fnExactMendReadingsDone
open Go.ChangeShapes Go.WideShapes Go.ChangeAt Go.RowKit
set_option linter.unusedVariables false

theorem own : ownKnob Try.prog.godebug = none := by kernel_rfl

theorem laidOut : laidOutB Try.prog = true := by kernel_rfl

set_option maxRecDepth 100000 in
theorem lifted (os : Os) (started : os.Started) (H : Type) (enc : TypeId × Value → H) :
    ReturnsInHanded {} Try.checked os 5 .any (Rows.fnExactMendReadingsSpec.pre6 enc Try.prog Try.f5 Rows.fnExactMendReadingsRow.domain false) (Rows.fnExactMendReadingsSpec.post enc Try.prog Try.f5 false true false false) := by
  refine returnsInHanded_of_change (C := Try.checked) own started (by kernel_rfl) Try.func5
    (ChangeSpec.witness6 (enc := enc) (C := Try.checked) false ⟨#[], #[.agg #[.int .i64 0, .slice none 0 0], .slice none 0 0, .slice none 0 0, .slice none 0 0], []⟩ 8 (by kernel_rfl) (by kernel_rfl) (by kernel_rfl) (by kernel_rfl)) ?_
  intro W base args ds gs before hval0 hW hcnd _
  have hval : ∀ (j : Nat) t v, Try.f5.params[j]? = some t → args[j]? = some v → Value.okWide Try.prog W .any base t v := hval0
  have hW' := hW
  obtain ⟨p, q, hA0, hV, rfl, hfz, hnd⟩ := hW
  have hA : DataW.TrodAll enc Try.prog W 0 (fun _ => true) true Try.f5.params.toList args.toList ds p := hA0
  rw [Try.params5] at hA hval
  obtain ⟨v0, vs0, d0, ds0, p0, q0, hargs, rfl, rfl, h0, r0⟩ := trodAll_cons hA
  obtain ⟨v1, vs1, d1, ds1, p1, q1, rfl, rfl, rfl, h1, r1⟩ := trodAll_cons r0
  obtain ⟨v2, vs2, d2, ds2, p2, q2, rfl, rfl, rfl, h2, r2⟩ := trodAll_cons r1
  obtain ⟨v3, vs3, d3, ds3, p3, q3, rfl, rfl, rfl, h3, r3⟩ := trodAll_cons r2
  obtain ⟨rfl, rfl, rfl⟩ := trodAll_nil r3
  obtain rfl : args = #[v0, v1, v2, v3] := by cases args; simp_all
  obtain ⟨rfl, rfl⟩ := trodVars_none hV
  clear hA0 hval0
  have k0 := h0
  have lt0 : ∀ x ∈ p0, x.block < W.heap.size := by obtain ⟨m, hm⟩ := k0; exact DataW.trod_lt m _ _ _ hm
  obtain ⟨f0, o0, y0, z0, n0, e0, _, _, t0, hf0⟩ := Joins.open_agg2 Try.underlying24 (by kernel_rfl) (by kernel_rfl) (hval 0 24 v0 rfl rfl) h0
  subst e0
  obtain ⟨a0, ea0, _, wa0⟩ := DataW.trod_int Try.underlying3 t0
  simp at ea0
  subst ea0
  have pp0 := bounds_i64 wa0
  obtain ⟨A0, c0, x0, eo0, l0, m0, s0, i0⟩ := open_sl_three Try.underlying22 Try.underlying79 (by kernel_rfl) (by kernel_rfl) Try.underlying3 Try.underlying3 Try.underlying3 hf0
  subst eo0
  have k1 := h1
  have lt1 : ∀ x ∈ p1, x.block < W.heap.size := by obtain ⟨m, hm⟩ := k1; exact DataW.trod_lt m _ _ _ hm
  obtain ⟨b1, bl1, bc1, e1⟩ := okWide_slice Try.underlying25 (hval 1 25 v1 rfl rfl)
  subst e1
  obtain ⟨fu1, hf1⟩ := h1
  obtain ⟨A1, c1, x1, e1, l1, m1, s1⟩ := open_sl_bool Try.underlying25 Try.underlying4 (by kernel_rfl) (by simpa [Value.cells] using hf1)
  simp only [Value.slice.injEq] at e1
  obtain ⟨rfl, rfl, rfl⟩ := e1
  have k2 := h2
  have lt2 : ∀ x ∈ p2, x.block < W.heap.size := by obtain ⟨m, hm⟩ := k2; exact DataW.trod_lt m _ _ _ hm
  obtain ⟨b2, bl2, bc2, e2⟩ := okWide_slice Try.underlying26 (hval 2 26 v2 rfl rfl)
  subst e2
  obtain ⟨fu2, hf2⟩ := h2
  obtain ⟨A2, c2, x2, e2, l2, m2, s2, i2⟩ := open_sl_two Try.underlying26 Try.underlying59 (by kernel_rfl) (by kernel_rfl) Try.underlying3 Try.underlying3 (by simpa [Value.cells] using hf2)
  simp only [Value.slice.injEq] at e2
  obtain ⟨rfl, rfl, rfl⟩ := e2
  have k3 := h3
  have lt3 : ∀ x ∈ p3, x.block < W.heap.size := by obtain ⟨m, hm⟩ := k3; exact DataW.trod_lt m _ _ _ hm
  obtain ⟨b3, bl3, bc3, e3⟩ := okWide_slice Try.underlying27 (hval 3 27 v3 rfl rfl)
  subst e3
  obtain ⟨fu3, hf3⟩ := h3
  obtain ⟨A3, c3, x3, e3, l3, m3, s3, i3⟩ := open_sl_int Try.underlying27 Try.underlying3 (by kernel_rfl) (by simpa [Value.cells] using hf3)
  simp only [Value.slice.injEq] at e3
  obtain ⟨rfl, rfl, rfl⟩ := e3
  refine (fnExactMendReadings_walk a0 _ _ x0 _ _ x1 _ _ x2 _ _ x3 W pp0 l0 m0 s0 i0 l1 m1 s1 l2 m2 s2 i2 l3 m3 s3 i3).mono fun e W' ⟨he, bel⟩ => ?_
  subst he
  exact ⟨_, rfl, _, _, _, [], _, [], hW', trodAll_mk1 (shut_bool Try.underlying4 _), (trodAll_cons_mk (Below.trod laidOut (by kernel_rfl) (of_decide_eq_true (by kernel_rfl)) k0 bel lt0) (trodAll_cons_mk (Below.trod laidOut (by kernel_rfl) (of_decide_eq_true (by kernel_rfl)) k1 bel lt1) (trodAll_cons_mk (Below.trod laidOut (by kernel_rfl) (of_decide_eq_true (by kernel_rfl)) k2 bel lt2) (trodAll_cons_mk (Below.trod laidOut (by kernel_rfl) (of_decide_eq_true (by kernel_rfl)) k3 bel lt3) trodAll_mk0)))), rfl, bel.frame _, fun h => by cases h⟩

theorem over : Rows.fnExactMendReadingsRow.holds Try.pinned (OpenSpec.ofChange Rows.fnExactMendReadingsSpec) :=
  OpenClaim.holds_of_wide 5 Try.f5 rfl rfl rfl rfl rfl rfl rfl ⟨rfl, rfl, rfl, rfl, rfl⟩ rfl rfl rfl rfl rfl (by kernel_rfl) Try.func5 (by kernel_rfl)
    (of_decide_eq_true (by kernel_rfl)) (by unfold Func.isWrapper; first | (rw [if_pos (by decide +kernel)]; kernel_rfl) | (rw [if_neg (by decide +kernel)]; exact ⟨rfl, rfl⟩))
    (fun os started H enc _ => lifted os started H enc)

/-- The statement. -/
theorem proved : Rows.FnExactMendReadingsSaid := over
#print axioms proved

end Go.Proofs.Ytkocagdiikaneaa.fnExactMendReadingsDone
