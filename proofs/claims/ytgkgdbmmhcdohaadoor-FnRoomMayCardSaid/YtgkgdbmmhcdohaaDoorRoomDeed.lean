/-
  The reference's drawing of what a room does. Nothing is said of what is drawn.
-/
import Derived.Test.YtgkgdbmmhcdohaaDoorTaps
import Derived.Deep.RegionHeld3
import Derived.Test.YtgkgdbmmhcdohaaDoorMore
namespace Go.Proofs.YtgkgdbmmhcdohaaDoor
open Go.RowKit
set_option linter.unusedVariables false

/-- What is kept while a deed is drawn: the rooms, the deed's own block, and the reader. -/
structure RS (B g P : Nat) (w : World) (a b : Int) (A : Option Addr) (n c : Nat) (wr : World) : Prop where
  box : Blk wr w.heap.size 25 #[.int .i64 a, .int .i64 b, .slice A n c]
  res : Blk wr (w.heap.size + 1) 84 #[.int .i64 0, .int .i64 0, .int .i64 0]
  rd : RdU B wr g P
  grow : w.grownBy wr (some g)
  lt : g < w.heap.size
section
variable {B g P n c : Nat} {w wr w' : World} {a b : Int} {A : Option Addr}
theorem RS.drew (h : RS B g P w a b A n c wr) : RS B g P w a b A n c wr.drew := ⟨h.box, h.res, h.rd.far (Below.refl _ _).drew, ⟨h.grow.os, h.grow.tape, h.grow.output, h.grow.size, h.grow.block⟩, h.lt⟩
theorem RS.only {Q : Nat} (h : RS B g P w a b A n c wr) (k : Only g wr w') (hr : RdU B w' g Q) : RS B g Q w a b A n c w' :=
  ⟨h.box.grown k.1 (fun e => by injection e with e; have := h.lt; omega), h.res.grown k.1 (fun e => by injection e with e; have := h.lt; omega), hr, h.grow.trans k.1, h.lt⟩
theorem RS.alloc (h : RS B g P w a b A n c wr) (o : Obj) : RS B g P w a b A n c (wr.alloc o) :=
  ⟨h.box.alloc o, h.res.alloc o, h.rd.grown (World.grownBy_alloc wr o none) (fun k hk => by cases hk), grown_alloc h.grow o, h.lt⟩
theorem RS.box3 (h : RS B g P w a b A n c wr) : wr.cell? ⟨w.heap.size, 2, none⟩ = some (.slice A n c) := h.box.cell 2
theorem RS.size (h : RS B g P w a b A n c wr) : w.heap.size + 1 < wr.heap.size := h.res.lt
theorem RS.res3 (h : RS B g P w a b A n c wr) : (wr.cell? ⟨w.heap.size + 1, 0, none⟩ = some (.int .i64 0) ∧ wr.cell? ⟨w.heap.size + 1, 1, none⟩ = some (.int .i64 0) ∧ wr.cell? ⟨w.heap.size + 1, 2, none⟩ = some (.int .i64 0)) ∧ wr.frozen? ⟨w.heap.size + 1, 0, none⟩ = false ∧ wr.frozen? ⟨w.heap.size + 1, 1, none⟩ = false ∧ wr.frozen? ⟨w.heap.size + 1, 2, none⟩ = false := ⟨h.res.three, h.res.frozen 0, h.res.frozen 1, h.res.frozen 2⟩
end
theorem kind_at {r : Int} (h0 : 0 ≤ r) (h1 : r < 5) : ∃ (k : Nat) (y : Int), r = k ∧ (#[.int .i64 0, .int .i64 1, .int .i64 2, .int .i64 2, .int .i64 2] : Array Value)[k]? = some (.int .i64 y) := by
  rcases (by omega : r = 0 ∨ r = 1 ∨ r = 2 ∨ r = 3 ∨ r = 4) with rfl | rfl | rfl | rfl | rfl
  · exact ⟨0, 0, rfl, rfl⟩
  · exact ⟨1, 1, rfl, rfl⟩
  · exact ⟨2, 2, rfl, rfl⟩
  · exact ⟨3, 2, rfl, rfl⟩
  · exact ⟨4, 2, rfl, rfl⟩

/-- A drawn deed. -/
def DrawnD (B g P : Nat) (w : World) (en : Ending) (w' : World) : Prop :=
  ∃ k r s : Int, en = .returned (.agg #[.int .i64 k, .int .i64 r, .int .i64 s]) ∧ RdU B w' g P ∧ w.grownBy w' (some g)

theorem rsetc (w : World) (b o : Nat) (v : Value) : w.grownBy (w.setCell ⟨b, o, none⟩ v) (some b) :=
  ⟨rfl, rfl, rfl, by simp [World.setCell], fun i hi hne => Below.heap_setCell w ⟨b, o, none⟩ v i (fun e => hne (by rw [e]))⟩
theorem RS.fin {B g P Q n c : Nat} {w wr wf : World} {a b : Int} {A : Option Addr} {act : Act} {k r s : Int} (h : RS B g P w a b A n c wr) (hq : P ≤ Q) (h4 : act.tmps[4]?.getD undef = .pointer (some ⟨w.heap.size + 1, 0, none⟩)) (hd : act.defers = [])
    (hw : wf = (((wr.setCell ⟨w.heap.size + 1, 0, none⟩ (.int .i64 k)).setCell ⟨w.heap.size + 1, 1, none⟩ (.int .i64 r)).setCell ⟨w.heap.size + 1, 2, none⟩ (.int .i64 s)) ∨ ∃ o, wf = (((wr.setCell ⟨w.heap.size + 1, 0, none⟩ (.int .i64 k)).setCell ⟨w.heap.size + 1, 1, none⟩ (.int .i64 r)).setCell ⟨w.heap.size + 1, 2, none⟩ (.int .i64 s)).alloc o) :
    bodyPost Tryd.prog Tryd.f60 (DrawnD B g Q w) .ret act wf := by
  have hlt := h.lt
  have hB := ((h.res.set_ 0 (.int .i64 k)).set_ 1 (.int .i64 r)).set_ 2 (.int .i64 s)
  have hR := ((h.rd.grown (rsetc _ (w.heap.size + 1) 0 (.int .i64 k)) (fun q hq => by injection hq; omega)).grown (rsetc _ (w.heap.size + 1) 1 (.int .i64 r)) (fun q hq => by injection hq; omega)).grown (rsetc _ (w.heap.size + 1) 2 (.int .i64 s)) (fun q hq => by injection hq; omega)
  have hG := grown_step (grown_step (grown_step h.grow (rsetc _ (w.heap.size + 1) 0 (.int .i64 k)) (fun q hq => by injection hq; omega)) (rsetc _ (w.heap.size + 1) 1 (.int .i64 r)) (fun q hq => by injection hq; omega)) (rsetc _ (w.heap.size + 1) 2 (.int .i64 s)) (fun q hq => by injection hq; omega)
  rcases hw with rfl | ⟨o, rfl⟩
  · have p0 := (hB.cell 0).trans (show _ = some (.int .i64 k) by simp)
    have p1 := (hB.cell 1).trans (show _ = some (.int .i64 r) by simp)
    have p2 := (hB.cell 2).trans (show _ = some (.int .i64 s) by simp)
    exact bodyPost_ret (v := .agg #[.int .i64 k, .int .i64 r, .int .i64 s]) (by simp [results, Tryd.results60, go_sem, h4, p0, p1, p2]) hd ⟨k, r, s, rfl, hR.more hq, hG⟩
  · have hB := hB.alloc o
    have p0 := (hB.cell 0).trans (show _ = some (.int .i64 k) by simp)
    have p1 := (hB.cell 1).trans (show _ = some (.int .i64 r) by simp)
    have p2 := (hB.cell 2).trans (show _ = some (.int .i64 s) by simp)
    refine bodyPost_ret (v := .agg #[.int .i64 k, .int .i64 r, .int .i64 s]) ?_ hd ⟨k, r, s, rfl, (hR.grown (World.grownBy_alloc _ o none) (fun q hq => by cases hq)).more hq, grown_alloc hG o⟩
    exact (by simp [results, Tryd.results60, go_sem, h4, p0, p1, p2])

theorem rs_far {w : World} {p : Nat} {q : Addr} {x0 x1 x2 v : Value} (h : w.cell? q = some v) (hne : p ≠ q.block) : (((w.setCell ⟨p, 0, none⟩ x0).setCell ⟨p, 1, none⟩ x1).setCell ⟨p, 2, none⟩ x2).cell? q = some v := by
  rw [World.cell?_setCell_far _ _ _ _ hne, World.cell?_setCell_far _ _ _ _ hne, World.cell?_setCell_far _ _ _ _ hne]; exact h
theorem rs_farA {w : World} {p : Nat} {q : Addr} {x0 x1 x2 v : Value} (h : w.cell? q = some v) (hne : p ≠ q.block) (o : Obj) : ((((w.setCell ⟨p, 0, none⟩ x0).setCell ⟨p, 1, none⟩ x1).setCell ⟨p, 2, none⟩ x2).alloc o).cell? q = some v := by
  rw [World.cell?_alloc_some _ _ _ (by rw [rs_far h hne]; rfl)]; exact rs_far h hne
theorem rs_arr {w : World} {p k : Nat} {x0 x1 x2 v : Value} {cs : Array Value} {t : TypeId} (h : cs[k]? = some v) : ((((w.setCell ⟨p, 0, none⟩ x0).setCell ⟨p, 1, none⟩ x1).setCell ⟨p, 2, none⟩ x2).alloc (.cells cs t)).cell? ⟨w.heap.size, k, none⟩ = some v := by
  have hb := Blk.new (((w.setCell ⟨p, 0, none⟩ x0).setCell ⟨p, 1, none⟩ x1).setCell ⟨p, 2, none⟩ x2) t cs
  rw [show (((w.setCell ⟨p, 0, none⟩ x0).setCell ⟨p, 1, none⟩ x1).setCell ⟨p, 2, none⟩ x2).heap.size = w.heap.size by simp [World.setCell]] at hb
  exact (hb.cell k).trans h

set_option maxRecDepth 8000 in
set_option maxHeartbeats 16000000 in
theorem l20RoomDeed_any (B g P : Nat) (a b : Int) (A : Option Addr) (n c : Nat) (w : World) (h : RdU B w g P) (hp : P ≤ 1000) (hn : 1 ≤ n) (hn2 : n ≤ 5) :
    Calls Tryd.prog 60 #[.pointer (some ⟨g, 0, none⟩), .agg #[.int .i64 a, .int .i64 b, .slice A n c]] w (DrawnD B g (P + 6) w) := by
  have hgw := h.lt
  obtain ⟨V, hV⟩ : ∃ V, V = ((w.alloc (.cells #[.int .i64 a, .int .i64 b, .slice A n c] 25)).alloc (.cells #[.int .i64 0, .int .i64 0, .int .i64 0] 84)) := ⟨_, rfl⟩
  have HS : Hid (RS B g P w a b A n c V.drew) := hide (RS.drew (by rw [hV]; exact ⟨(Blk.new _ _ _).alloc _, by simpa using Blk.new (w.alloc (.cells #[.int .i64 a, .int .i64 b, .slice A n c] 25)) 84 #[.int .i64 0, .int .i64 0, .int .i64 0], (h.grown (World.grownBy_alloc w _ none) (fun k hk => by cases hk)).grown (World.grownBy_alloc _ _ none) (fun k hk => by cases hk), grown_alloc (grown_alloc (World.grownBy.refl _ _) _) _, hgw⟩))
  have eV : V.heap.size = w.heap.size + 1 + 1 := by rw [hV]; simp
  have EV := hide eV
  have HV := hide hV
  have hsz0 := HS.out.size
  have n0 : (0 : Int) ≤ n := by omega
  clear h eV
  go_enter Tryd.func60, Tryd.ntmps60
  go_wp2_with fail
  rw [← HV.out]
  clear hV
  refine wp_region_held_drew (S := fun w' => w'.cell? ⟨w.heap.size, 2, none⟩ = some (.slice A n c)) (by kernel_rfl) HS.out.box3 (fun hHeld => ?_)
  refine wpAnyH_take (i := 1) (v := ?_) rfl (by kernel_rfl) (by kernel_rfl) (by kernel_rfl) (fun _ _ _ h => h) (Or.inl ⟨by rfl, ?_⟩) (by assumption) ?_
  rotate_left
  · intro w' hSw
    (try dsimp only at hSw)
    go_simp
    try (with_reducible rfl)
  simp only [Act.put, List.getElem_toArray, List.getElem_cons_zero, List.getElem_cons_succ, List.setIfInBounds_toArray, List.set_cons_zero, List.set_cons_succ]
  refine wpAnyH_take (i := 5) (v := ?_) rfl (by kernel_rfl) (by kernel_rfl) (by kernel_rfl) (fun _ _ _ h => h) (Or.inl ⟨by rfl, ?_⟩) (by assumption) ?_
  rotate_left
  · intro w' hSw
    (try dsimp only at hSw)
    go_simp
    try (with_reducible rfl)
  simp only [Act.put, List.getElem_toArray, List.getElem_cons_zero, List.getElem_cons_succ, List.setIfInBounds_toArray, List.set_cons_zero, List.set_cons_succ]
  refine wpAnyH_take (i := 10) (v := ?_) rfl (by kernel_rfl) (by kernel_rfl) (by kernel_rfl) (fun _ _ _ h => h) (Or.inl ⟨by rfl, ?_⟩) (by assumption) ?_
  rotate_left
  · intro w' hSw
    (try dsimp only at hSw)
    go_simp
    try (with_reducible rfl)
  simp only [Act.put, List.getElem_toArray, List.getElem_cons_zero, List.getElem_cons_succ, List.setIfInBounds_toArray, List.set_cons_zero, List.set_cons_succ]
  refine wpAnyH_take (i := 12) (v := ?_) rfl (by kernel_rfl) (by kernel_rfl) (by kernel_rfl) (fun _ _ _ h => h) (Or.inl ⟨by rfl, ?_⟩) (by assumption) ?_
  rotate_left
  · intro w' hSw
    (try dsimp only at hSw)
    go_simp
    try (with_reducible rfl)
  simp only [Act.put, List.getElem_toArray, List.getElem_cons_zero, List.getElem_cons_succ, List.setIfInBounds_toArray, List.set_cons_zero, List.set_cons_succ]
  refine wpAnyH_take (i := 17) (v := ?_) rfl (by kernel_rfl) (by kernel_rfl) (by kernel_rfl) (fun _ _ _ h => h) (Or.inl ⟨by rfl, ?_⟩) (by assumption) ?_
  rotate_left
  · intro w' hSw
    (try dsimp only at hSw)
    go_simp
    try (with_reducible rfl)
  simp only [Act.put, List.getElem_toArray, List.getElem_cons_zero, List.getElem_cons_succ, List.setIfInBounds_toArray, List.set_cons_zero, List.set_cons_succ]
  refine wpAnyH_take (i := 18) (v := ?_) rfl (by kernel_rfl) (by kernel_rfl) (by kernel_rfl) (fun _ _ _ h => h) (Or.inl ⟨by rfl, ?_⟩) (by assumption) ?_
  rotate_left
  · intro w' hSw
    (try dsimp only at hSw)
    go_simp
    try (with_reducible rfl)
  simp only [Act.put, List.getElem_toArray, List.getElem_cons_zero, List.getElem_cons_succ, List.setIfInBounds_toArray, List.set_cons_zero, List.set_cons_succ]
  refine wpAnyH_take (i := 19) (v := ?_) rfl (by kernel_rfl) (by kernel_rfl) (by kernel_rfl) (fun _ _ _ h => h) (Or.inl ⟨by rfl, ?_⟩) (by assumption) ?_
  rotate_left
  · intro w' hSw
    (try dsimp only at hSw)
    go_simp
    try (with_reducible rfl)
  simp only [Act.put, List.getElem_toArray, List.getElem_cons_zero, List.getElem_cons_succ, List.setIfInBounds_toArray, List.set_cons_zero, List.set_cons_succ]
  refine wpAnyH_take (i := 20) (v := ?_) rfl (by kernel_rfl) (by kernel_rfl) (by kernel_rfl) (fun _ _ _ h => h) (Or.inl ⟨by rfl, ?_⟩) (by assumption) ?_
  rotate_left
  · intro w' hSw
    (try dsimp only at hSw)
    go_simp
    try (with_reducible rfl)
  simp only [Act.put, List.getElem_toArray, List.getElem_cons_zero, List.getElem_cons_succ, List.setIfInBounds_toArray, List.set_cons_zero, List.set_cons_succ]
  refine wpAnyH_take (i := 22) (v := ?_) rfl (by kernel_rfl) (by kernel_rfl) (by kernel_rfl) (fun _ _ _ h => h) (Or.inl ⟨by rfl, ?_⟩) (by assumption) ?_
  rotate_left
  · intro w' hSw
    (try dsimp only at hSw)
    go_simp
    try (with_reducible rfl)
  simp only [Act.put, List.getElem_toArray, List.getElem_cons_zero, List.getElem_cons_succ, List.setIfInBounds_toArray, List.set_cons_zero, List.set_cons_succ]
  refine wpAnyH_ready (rs := [0, 2]) (by kernel_rfl) (by simp) ?_
  refine AllReadyH.cons rfl (fun K hK => ?_) ?_
  · have HSo := HS
    have zA := HS.out.res3
    have hzA := HS.out.size
    go_simp
    replace HS := hide (HS.out.alloc (.cells #[.int .i64 0, .int .i64 1, .int .i64 2, .int .i64 2, .int .i64 2] 3))
    have BA : Hid (Blk ((V.drew).alloc (.cells #[.int .i64 0, .int .i64 1, .int .i64 2, .int .i64 2, .int .i64 2] 3)) V.heap.size 3 #[.int .i64 0, .int .i64 1, .int .i64 2, .int .i64 2, .int .i64 2]) := hide (Blk.new _ _ _)
    have hA := HS.out.box3
    refine hK.out _ _ HS.out.box3 (fun hHeld => ?_)
    clear hK K
    try simp only [Act.put, List.getElem_toArray, List.getElem_cons_zero, List.getElem_cons_succ, List.setIfInBounds_toArray, List.set_cons_zero, List.set_cons_succ]
    refine wpAnyH_ready (rs := [2]) (by kernel_rfl) (by simp) ?_
    refine AllReadyH.cons rfl (fun K hK => ?_) ?_
    · go_simp
      go_at_call 37
      refine (pick_u B g _ _ _ HS.out.rd (by omega)).mono ?_
      rintro _ w1 ⟨r1, p1, q1, _, rfl, h7, o7⟩
      replace HS := hide (HS.out.only o7 h7)
      have q5 : r1 < 5 := q1 (by decide)
      obtain ⟨nr, y, rfl, hy⟩ := kind_at p1 q5
      replace BA := hide (Blk.grown BA.out o7.1 (fun he => by injection he with he; have := HS.out.lt; have := EV.out; first | omega | (have := hsz0; omega)))
      clear o7 h7
      have hb3 := HS.out.box3
      have hsz1 := HS.out.size
      go_wp2_with fail
      refine hK.out _ _ HS.out.box3 (fun hHeld => ?_)
      clear hK K
      try simp only [Act.put, List.getElem_toArray, List.getElem_cons_zero, List.getElem_cons_succ, List.setIfInBounds_toArray, List.set_cons_zero, List.set_cons_succ]
      have hcy := (Blk.cell BA.out nr).trans hy
      refine wpAnyH_more (T := fun w' => w'.cell? ⟨w.heap.size, 2, none⟩ = some (.slice A n c) ∧ w'.cell? ⟨V.heap.size, nr, none⟩ = some (.int .i64 y)) (fun _ h => h.1) _ _ _ _ ?_
      replace hHeld := (show (w1).cell? ⟨w.heap.size, 2, none⟩ = some (.slice A n c) ∧ (w1).cell? ⟨V.heap.size, nr, none⟩ = some (.int .i64 y) from ⟨HS.out.box3, hcy⟩)
      refine wpAnyH_take (i := 3) (v := ?_) rfl (by kernel_rfl) (by kernel_rfl) (by kernel_rfl) (fun _ _ _ h => h) (Or.inl ⟨by rfl, ?_⟩) (by assumption) ?_
      rotate_left
      · intro w' hSw
        (try dsimp only at hSw)
        go_simp
        try (with_reducible rfl)
      simp only [Act.put, List.getElem_toArray, List.getElem_cons_zero, List.getElem_cons_succ, List.setIfInBounds_toArray, List.set_cons_zero, List.set_cons_succ]
      refine wpAnyH_take (i := 4) (v := ?_) rfl (by kernel_rfl) (by kernel_rfl) (by kernel_rfl) (fun _ _ _ h => h) (Or.inl ⟨by rfl, ?_⟩) (by assumption) ?_
      rotate_left
      · intro w' hSw
        (try dsimp only at hSw)
        go_simp
        try (with_reducible rfl)
      simp only [Act.put, List.getElem_toArray, List.getElem_cons_zero, List.getElem_cons_succ, List.setIfInBounds_toArray, List.set_cons_zero, List.set_cons_succ]
      refine wpAnyH_ready (rs := [6]) (by kernel_rfl) (by simp) ?_
      refine AllReadyH.cons rfl (fun K hK => ?_) ?_
      · go_simp
        go_at_call 37
        refine (pick_u B g _ _ _ HS.out.rd (by omega)).mono ?_
        rintro _ w2 ⟨r2, p2, q2, _, rfl, h7, o7⟩
        replace HS := hide (HS.out.only o7 h7)
        replace BA := hide (Blk.grown BA.out o7.1 (fun he => by injection he with he; have := HS.out.lt; have := EV.out; first | omega | (have := hsz0; omega)))
        replace hcy := (Blk.cell BA.out nr).trans hy
        clear o7 h7
        have hb3 := HS.out.box3
        have hsz2 := HS.out.size
        go_wp2_with fail
        refine hK.out _ _ ⟨HS.out.box3, hcy⟩ (fun hHeld => ?_)
        clear hK K
        try simp only [Act.put, List.getElem_toArray, List.getElem_cons_zero, List.getElem_cons_succ, List.setIfInBounds_toArray, List.set_cons_zero, List.set_cons_succ]
        refine wpAnyH_take (i := 7) (v := ?_) rfl (by kernel_rfl) (by kernel_rfl) (by kernel_rfl) (fun _ _ _ h => h) (Or.inl ⟨by rfl, ?_⟩) (by assumption) ?_
        rotate_left
        · intro w' hSw
          (try dsimp only at hSw)
          go_simp
          try (with_reducible rfl)
        simp only [Act.put, List.getElem_toArray, List.getElem_cons_zero, List.getElem_cons_succ, List.setIfInBounds_toArray, List.set_cons_zero, List.set_cons_succ]
        refine wpAnyH_take (i := 8) (v := ?_) rfl (by kernel_rfl) (by kernel_rfl) (by kernel_rfl) (fun _ _ _ h => h) (Or.inl ⟨by rfl, ?_⟩) (by assumption) ?_
        rotate_left
        · intro w' hSw
          (try dsimp only at hSw)
          go_simp
          try (with_reducible rfl)
        simp only [Act.put, List.getElem_toArray, List.getElem_cons_zero, List.getElem_cons_succ, List.setIfInBounds_toArray, List.set_cons_zero, List.set_cons_succ]
        refine wpAnyH_take (i := 9) (v := ?_) rfl (by kernel_rfl) (by kernel_rfl) (by kernel_rfl) (fun _ _ _ h => h) (Or.inl ⟨by rfl, ?_⟩) (by assumption) ?_
        rotate_left
        · intro w' hSw
          (try dsimp only at hSw)
          go_simp
          try (with_reducible rfl)
        simp only [Act.put, List.getElem_toArray, List.getElem_cons_zero, List.getElem_cons_succ, List.setIfInBounds_toArray, List.set_cons_zero, List.set_cons_succ]
        refine wpAnyH_ready (rs := [11]) (by kernel_rfl) (by simp) ?_
        refine AllReadyH.cons rfl (fun K hK => ?_) ?_
        · go_simp
          go_at_call 37
          refine (pick_u B g _ _ _ HS.out.rd (by omega)).mono ?_
          rintro _ w3 ⟨r3, p3, q3, _, rfl, h7, o7⟩
          replace HS := hide (HS.out.only o7 h7)
          replace BA := hide (Blk.grown BA.out o7.1 (fun he => by injection he with he; have := HS.out.lt; have := EV.out; first | omega | (have := hsz0; omega)))
          replace hcy := (Blk.cell BA.out nr).trans hy
          clear o7 h7
          have hb3 := HS.out.box3
          have hsz3 := HS.out.size
          go_wp2_with fail
          refine hK.out _ _ ⟨HS.out.box3, hcy⟩ (fun hHeld => ?_)
          clear hK K
          try simp only [Act.put, List.getElem_toArray, List.getElem_cons_zero, List.getElem_cons_succ, List.setIfInBounds_toArray, List.set_cons_zero, List.set_cons_succ]
          refine wpAnyH_ready (rs := [13]) (by kernel_rfl) (by simp) ?_
          refine AllReadyH.cons rfl (fun K hK => ?_) ?_
          · go_simp
            go_at_call 37
            refine (pick_u B g _ _ _ HS.out.rd (by omega)).mono ?_
            rintro _ w4 ⟨r4, p4, q4, _, rfl, h7, o7⟩
            replace HS := hide (HS.out.only o7 h7)
            replace BA := hide (Blk.grown BA.out o7.1 (fun he => by injection he with he; have := HS.out.lt; have := EV.out; first | omega | (have := hsz0; omega)))
            replace hcy := (Blk.cell BA.out nr).trans hy
            clear o7 h7
            have hb3 := HS.out.box3
            have hsz4 := HS.out.size
            go_wp2_with fail
            refine hK.out _ _ ⟨HS.out.box3, hcy⟩ (fun hHeld => ?_)
            clear hK K
            try simp only [Act.put, List.getElem_toArray, List.getElem_cons_zero, List.getElem_cons_succ, List.setIfInBounds_toArray, List.set_cons_zero, List.set_cons_succ]
            refine wpAnyH_take (i := 14) (v := ?_) rfl (by kernel_rfl) (by kernel_rfl) (by kernel_rfl) (fun _ _ _ h => h) (Or.inl ⟨by rfl, ?_⟩) (by assumption) ?_
            rotate_left
            · intro w' hSw
              (try dsimp only at hSw)
              go_simp
              try (with_reducible rfl)
            simp only [Act.put, List.getElem_toArray, List.getElem_cons_zero, List.getElem_cons_succ, List.setIfInBounds_toArray, List.set_cons_zero, List.set_cons_succ]
            refine wpAnyH_take (i := 15) (v := ?_) rfl (by kernel_rfl) (by kernel_rfl) (by kernel_rfl) (fun _ _ _ h => h) (Or.inl ⟨by rfl, ?_⟩) (by assumption) ?_
            rotate_left
            · intro w' hSw
              (try dsimp only at hSw)
              go_simp
              try (with_reducible rfl)
            simp only [Act.put, List.getElem_toArray, List.getElem_cons_zero, List.getElem_cons_succ, List.setIfInBounds_toArray, List.set_cons_zero, List.set_cons_succ]
            refine wpAnyH_take (i := 16) (v := ?_) rfl (by kernel_rfl) (by kernel_rfl) (by kernel_rfl) (fun _ _ _ h => h) (Or.inl ⟨by rfl, ?_⟩) (by assumption) ?_
            rotate_left
            · intro w' hSw
              (try dsimp only at hSw)
              go_simp
              try (with_reducible rfl)
            simp only [Act.put, List.getElem_toArray, List.getElem_cons_zero, List.getElem_cons_succ, List.setIfInBounds_toArray, List.set_cons_zero, List.set_cons_succ]
            refine wpAnyH_ready (rs := [21]) (by kernel_rfl) (by simp) ?_
            refine AllReadyH.cons rfl (fun K hK => ?_) ?_
            · go_simp
              go_at_call 37
              refine (pick_u B g _ _ _ HS.out.rd (by omega)).mono ?_
              rintro _ w5 ⟨r5, p5, q5, _, rfl, h7, o7⟩
              replace HS := hide (HS.out.only o7 h7)
              replace BA := hide (Blk.grown BA.out o7.1 (fun he => by injection he with he; have := HS.out.lt; have := EV.out; first | omega | (have := hsz0; omega)))
              replace hcy := (Blk.cell BA.out nr).trans hy
              clear o7 h7
              have hb3 := HS.out.box3
              have hsz5 := HS.out.size
              go_wp2_with fail
              refine hK.out _ _ ⟨HS.out.box3, hcy⟩ (fun hHeld => ?_)
              clear hK K
              try simp only [Act.put, List.getElem_toArray, List.getElem_cons_zero, List.getElem_cons_succ, List.setIfInBounds_toArray, List.set_cons_zero, List.set_cons_succ]
              refine wpAnyH_ready (rs := [23]) (by kernel_rfl) (by simp) ?_
              refine AllReadyH.cons rfl (fun K hK => ?_) ?_
              · go_simp
                go_at_call 37
                refine (pick_u B g _ _ _ HS.out.rd (by omega)).mono ?_
                rintro _ w6 ⟨r6, p6, q6, _, rfl, h7, o7⟩
                replace HS := hide (HS.out.only o7 h7)
                replace BA := hide (Blk.grown BA.out o7.1 (fun he => by injection he with he; have := HS.out.lt; have := EV.out; first | omega | (have := hsz0; omega)))
                replace hcy := (Blk.cell BA.out nr).trans hy
                clear o7 h7
                have hb3 := HS.out.box3
                have hsz6 := HS.out.size
                go_wp2_with fail
                refine hK.out _ _ ⟨HS.out.box3, hcy⟩ (fun hHeld => ?_)
                clear hK K
                try simp only [Act.put, List.getElem_toArray, List.getElem_cons_zero, List.getElem_cons_succ, List.setIfInBounds_toArray, List.set_cons_zero, List.set_cons_succ]
                refine wpAnyH_take (i := 24) (v := ?_) rfl (by kernel_rfl) (by kernel_rfl) (by kernel_rfl) (fun _ _ _ h => h) (Or.inl ⟨by rfl, ?_⟩) (by assumption) ?_
                rotate_left
                · intro w' hSw
                  (try dsimp only at hSw)
                  go_simp
                  try (with_reducible rfl)
                simp only [Act.put, List.getElem_toArray, List.getElem_cons_zero, List.getElem_cons_succ, List.setIfInBounds_toArray, List.set_cons_zero, List.set_cons_succ]
                refine wpAnyH_take (i := 25) (v := ?_) rfl (by kernel_rfl) (by kernel_rfl) (by kernel_rfl) (fun _ _ _ h => h) (Or.inl ⟨by rfl, ?_⟩) (by assumption) ?_
                rotate_left
                · intro w' hSw
                  (try dsimp only at hSw)
                  go_simp
                  try (with_reducible rfl)
                simp only [Act.put, List.getElem_toArray, List.getElem_cons_zero, List.getElem_cons_succ, List.setIfInBounds_toArray, List.set_cons_zero, List.set_cons_succ]
                refine wpAnyH_take (i := 26) (v := ?_) rfl (by kernel_rfl) (by kernel_rfl) (by kernel_rfl) (fun _ _ _ h => h) (Or.inl ⟨by rfl, ?_⟩) (by assumption) ?_
                rotate_left
                · intro w' hSw
                  (try dsimp only at hSw)
                  go_simp
                  try (with_reducible rfl)
                simp only [Act.put, List.getElem_toArray, List.getElem_cons_zero, List.getElem_cons_succ, List.setIfInBounds_toArray, List.set_cons_zero, List.set_cons_succ]
                refine wpAnyH_take (i := 27) (v := ?_) rfl (by kernel_rfl) (by kernel_rfl) (by kernel_rfl) (fun _ _ _ h => h) (Or.inl ⟨by rfl, ?_⟩) (by assumption) ?_
                rotate_left
                · intro w' hSw
                  (try dsimp only at hSw)
                  go_simp
                  try (with_reducible rfl)
                simp only [Act.put, List.getElem_toArray, List.getElem_cons_zero, List.getElem_cons_succ, List.setIfInBounds_toArray, List.set_cons_zero, List.set_cons_succ]
                refine wpAnyH_ready (rs := [28]) (by kernel_rfl) (by simp) ?_
                refine AllReadyH.cons rfl (fun K hK => ?_) ?_
                · have z0 := HS.out.res3
                  have hsz := HS.out.size
                  go_simp
                  refine hK.out _ _ ?_ (fun hHeld => ?_)
                  · have e9 := EV.out
                    (first | exact ⟨rs_far HS.out.box3 (by simp; try omega), rs_far hcy (by simp; omega)⟩ | exact ⟨rs_farA HSo.out.box3 (by simp; try omega) _, rs_arr hy⟩)
                  clear hK K
                  try simp only [Act.put, List.getElem_toArray, List.getElem_cons_zero, List.getElem_cons_succ, List.setIfInBounds_toArray, List.set_cons_zero, List.set_cons_succ]
                  refine wpAnyH_done (by kernel_rfl) ?_ _
                  go_wp2_with fail
                  first
                    | exact HS.out.fin (by omega) rfl rfl (.inl rfl)
                    | exact HSo.out.fin (by omega) rfl rfl (.inr ⟨_, rfl⟩)
                exact AllReadyH.nil
              exact AllReadyH.nil
            exact AllReadyH.nil
          exact AllReadyH.nil
        exact AllReadyH.nil
      exact AllReadyH.nil
    exact AllReadyH.nil
  refine AllReadyH.cons rfl (fun K hK => ?_) ?_
  · go_simp
    go_at_call 37
    refine (pick_u B g _ _ _ HS.out.rd (by omega)).mono ?_
    rintro _ w1 ⟨r1, p1, q1, _, rfl, h7, o7⟩
    replace HS := hide (HS.out.only o7 h7)
    have q5 : r1 < 5 := q1 (by decide)
    obtain ⟨nr, y, rfl, hy⟩ := kind_at p1 q5
    clear o7 h7
    have hb3 := HS.out.box3
    have hsz1 := HS.out.size
    go_wp2_with fail
    refine hK.out _ _ HS.out.box3 (fun hHeld => ?_)
    clear hK K
    try simp only [Act.put, List.getElem_toArray, List.getElem_cons_zero, List.getElem_cons_succ, List.setIfInBounds_toArray, List.set_cons_zero, List.set_cons_succ]
    refine wpAnyH_ready (rs := [0, 6]) (by kernel_rfl) (by simp) ?_
    refine AllReadyH.cons rfl (fun K hK => ?_) ?_
    · have HSo := HS
      have zA := HS.out.res3
      have hzA := HS.out.size
      go_simp
      replace HS := hide (HS.out.alloc (.cells #[.int .i64 0, .int .i64 1, .int .i64 2, .int .i64 2, .int .i64 2] 3))
      have BA : Hid (Blk ((w1).alloc (.cells #[.int .i64 0, .int .i64 1, .int .i64 2, .int .i64 2, .int .i64 2] 3)) w1.heap.size 3 #[.int .i64 0, .int .i64 1, .int .i64 2, .int .i64 2, .int .i64 2]) := hide (Blk.new _ _ _)
      have hA := HS.out.box3
      refine hK.out _ _ HS.out.box3 (fun hHeld => ?_)
      clear hK K
      try simp only [Act.put, List.getElem_toArray, List.getElem_cons_zero, List.getElem_cons_succ, List.setIfInBounds_toArray, List.set_cons_zero, List.set_cons_succ]
      have hcy := (Blk.cell BA.out nr).trans hy
      refine wpAnyH_more (T := fun w' => w'.cell? ⟨w.heap.size, 2, none⟩ = some (.slice A n c) ∧ w'.cell? ⟨w1.heap.size, nr, none⟩ = some (.int .i64 y)) (fun _ h => h.1) _ _ _ _ ?_
      replace hHeld := (show ((w1).alloc (.cells #[.int .i64 0, .int .i64 1, .int .i64 2, .int .i64 2, .int .i64 2] 3)).cell? ⟨w.heap.size, 2, none⟩ = some (.slice A n c) ∧ ((w1).alloc (.cells #[.int .i64 0, .int .i64 1, .int .i64 2, .int .i64 2, .int .i64 2] 3)).cell? ⟨w1.heap.size, nr, none⟩ = some (.int .i64 y) from ⟨HS.out.box3, hcy⟩)
      refine wpAnyH_take (i := 3) (v := ?_) rfl (by kernel_rfl) (by kernel_rfl) (by kernel_rfl) (fun _ _ _ h => h) (Or.inl ⟨by rfl, ?_⟩) (by assumption) ?_
      rotate_left
      · intro w' hSw
        (try dsimp only at hSw)
        go_simp
        try (with_reducible rfl)
      simp only [Act.put, List.getElem_toArray, List.getElem_cons_zero, List.getElem_cons_succ, List.setIfInBounds_toArray, List.set_cons_zero, List.set_cons_succ]
      refine wpAnyH_take (i := 4) (v := ?_) rfl (by kernel_rfl) (by kernel_rfl) (by kernel_rfl) (fun _ _ _ h => h) (Or.inl ⟨by rfl, ?_⟩) (by assumption) ?_
      rotate_left
      · intro w' hSw
        (try dsimp only at hSw)
        go_simp
        try (with_reducible rfl)
      simp only [Act.put, List.getElem_toArray, List.getElem_cons_zero, List.getElem_cons_succ, List.setIfInBounds_toArray, List.set_cons_zero, List.set_cons_succ]
      refine wpAnyH_ready (rs := [6]) (by kernel_rfl) (by simp) ?_
      refine AllReadyH.cons rfl (fun K hK => ?_) ?_
      · go_simp
        go_at_call 37
        refine (pick_u B g _ _ _ HS.out.rd (by omega)).mono ?_
        rintro _ w2 ⟨r2, p2, q2, _, rfl, h7, o7⟩
        replace HS := hide (HS.out.only o7 h7)
        replace BA := hide (Blk.grown BA.out o7.1 (fun he => by injection he with he; have := HS.out.lt; have := EV.out; first | omega | (have := hsz1; omega)))
        replace hcy := (Blk.cell BA.out nr).trans hy
        clear o7 h7
        have hb3 := HS.out.box3
        have hsz2 := HS.out.size
        go_wp2_with fail
        refine hK.out _ _ ⟨HS.out.box3, hcy⟩ (fun hHeld => ?_)
        clear hK K
        try simp only [Act.put, List.getElem_toArray, List.getElem_cons_zero, List.getElem_cons_succ, List.setIfInBounds_toArray, List.set_cons_zero, List.set_cons_succ]
        refine wpAnyH_take (i := 7) (v := ?_) rfl (by kernel_rfl) (by kernel_rfl) (by kernel_rfl) (fun _ _ _ h => h) (Or.inl ⟨by rfl, ?_⟩) (by assumption) ?_
        rotate_left
        · intro w' hSw
          (try dsimp only at hSw)
          go_simp
          try (with_reducible rfl)
        simp only [Act.put, List.getElem_toArray, List.getElem_cons_zero, List.getElem_cons_succ, List.setIfInBounds_toArray, List.set_cons_zero, List.set_cons_succ]
        refine wpAnyH_take (i := 8) (v := ?_) rfl (by kernel_rfl) (by kernel_rfl) (by kernel_rfl) (fun _ _ _ h => h) (Or.inl ⟨by rfl, ?_⟩) (by assumption) ?_
        rotate_left
        · intro w' hSw
          (try dsimp only at hSw)
          go_simp
          try (with_reducible rfl)
        simp only [Act.put, List.getElem_toArray, List.getElem_cons_zero, List.getElem_cons_succ, List.setIfInBounds_toArray, List.set_cons_zero, List.set_cons_succ]
        refine wpAnyH_take (i := 9) (v := ?_) rfl (by kernel_rfl) (by kernel_rfl) (by kernel_rfl) (fun _ _ _ h => h) (Or.inl ⟨by rfl, ?_⟩) (by assumption) ?_
        rotate_left
        · intro w' hSw
          (try dsimp only at hSw)
          go_simp
          try (with_reducible rfl)
        simp only [Act.put, List.getElem_toArray, List.getElem_cons_zero, List.getElem_cons_succ, List.setIfInBounds_toArray, List.set_cons_zero, List.set_cons_succ]
        refine wpAnyH_ready (rs := [11]) (by kernel_rfl) (by simp) ?_
        refine AllReadyH.cons rfl (fun K hK => ?_) ?_
        · go_simp
          go_at_call 37
          refine (pick_u B g _ _ _ HS.out.rd (by omega)).mono ?_
          rintro _ w3 ⟨r3, p3, q3, _, rfl, h7, o7⟩
          replace HS := hide (HS.out.only o7 h7)
          replace BA := hide (Blk.grown BA.out o7.1 (fun he => by injection he with he; have := HS.out.lt; have := EV.out; first | omega | (have := hsz1; omega)))
          replace hcy := (Blk.cell BA.out nr).trans hy
          clear o7 h7
          have hb3 := HS.out.box3
          have hsz3 := HS.out.size
          go_wp2_with fail
          refine hK.out _ _ ⟨HS.out.box3, hcy⟩ (fun hHeld => ?_)
          clear hK K
          try simp only [Act.put, List.getElem_toArray, List.getElem_cons_zero, List.getElem_cons_succ, List.setIfInBounds_toArray, List.set_cons_zero, List.set_cons_succ]
          refine wpAnyH_ready (rs := [13]) (by kernel_rfl) (by simp) ?_
          refine AllReadyH.cons rfl (fun K hK => ?_) ?_
          · go_simp
            go_at_call 37
            refine (pick_u B g _ _ _ HS.out.rd (by omega)).mono ?_
            rintro _ w4 ⟨r4, p4, q4, _, rfl, h7, o7⟩
            replace HS := hide (HS.out.only o7 h7)
            replace BA := hide (Blk.grown BA.out o7.1 (fun he => by injection he with he; have := HS.out.lt; have := EV.out; first | omega | (have := hsz1; omega)))
            replace hcy := (Blk.cell BA.out nr).trans hy
            clear o7 h7
            have hb3 := HS.out.box3
            have hsz4 := HS.out.size
            go_wp2_with fail
            refine hK.out _ _ ⟨HS.out.box3, hcy⟩ (fun hHeld => ?_)
            clear hK K
            try simp only [Act.put, List.getElem_toArray, List.getElem_cons_zero, List.getElem_cons_succ, List.setIfInBounds_toArray, List.set_cons_zero, List.set_cons_succ]
            refine wpAnyH_take (i := 14) (v := ?_) rfl (by kernel_rfl) (by kernel_rfl) (by kernel_rfl) (fun _ _ _ h => h) (Or.inl ⟨by rfl, ?_⟩) (by assumption) ?_
            rotate_left
            · intro w' hSw
              (try dsimp only at hSw)
              go_simp
              try (with_reducible rfl)
            simp only [Act.put, List.getElem_toArray, List.getElem_cons_zero, List.getElem_cons_succ, List.setIfInBounds_toArray, List.set_cons_zero, List.set_cons_succ]
            refine wpAnyH_take (i := 15) (v := ?_) rfl (by kernel_rfl) (by kernel_rfl) (by kernel_rfl) (fun _ _ _ h => h) (Or.inl ⟨by rfl, ?_⟩) (by assumption) ?_
            rotate_left
            · intro w' hSw
              (try dsimp only at hSw)
              go_simp
              try (with_reducible rfl)
            simp only [Act.put, List.getElem_toArray, List.getElem_cons_zero, List.getElem_cons_succ, List.setIfInBounds_toArray, List.set_cons_zero, List.set_cons_succ]
            refine wpAnyH_take (i := 16) (v := ?_) rfl (by kernel_rfl) (by kernel_rfl) (by kernel_rfl) (fun _ _ _ h => h) (Or.inl ⟨by rfl, ?_⟩) (by assumption) ?_
            rotate_left
            · intro w' hSw
              (try dsimp only at hSw)
              go_simp
              try (with_reducible rfl)
            simp only [Act.put, List.getElem_toArray, List.getElem_cons_zero, List.getElem_cons_succ, List.setIfInBounds_toArray, List.set_cons_zero, List.set_cons_succ]
            refine wpAnyH_ready (rs := [21]) (by kernel_rfl) (by simp) ?_
            refine AllReadyH.cons rfl (fun K hK => ?_) ?_
            · go_simp
              go_at_call 37
              refine (pick_u B g _ _ _ HS.out.rd (by omega)).mono ?_
              rintro _ w5 ⟨r5, p5, q5, _, rfl, h7, o7⟩
              replace HS := hide (HS.out.only o7 h7)
              replace BA := hide (Blk.grown BA.out o7.1 (fun he => by injection he with he; have := HS.out.lt; have := EV.out; first | omega | (have := hsz1; omega)))
              replace hcy := (Blk.cell BA.out nr).trans hy
              clear o7 h7
              have hb3 := HS.out.box3
              have hsz5 := HS.out.size
              go_wp2_with fail
              refine hK.out _ _ ⟨HS.out.box3, hcy⟩ (fun hHeld => ?_)
              clear hK K
              try simp only [Act.put, List.getElem_toArray, List.getElem_cons_zero, List.getElem_cons_succ, List.setIfInBounds_toArray, List.set_cons_zero, List.set_cons_succ]
              refine wpAnyH_ready (rs := [23]) (by kernel_rfl) (by simp) ?_
              refine AllReadyH.cons rfl (fun K hK => ?_) ?_
              · go_simp
                go_at_call 37
                refine (pick_u B g _ _ _ HS.out.rd (by omega)).mono ?_
                rintro _ w6 ⟨r6, p6, q6, _, rfl, h7, o7⟩
                replace HS := hide (HS.out.only o7 h7)
                replace BA := hide (Blk.grown BA.out o7.1 (fun he => by injection he with he; have := HS.out.lt; have := EV.out; first | omega | (have := hsz1; omega)))
                replace hcy := (Blk.cell BA.out nr).trans hy
                clear o7 h7
                have hb3 := HS.out.box3
                have hsz6 := HS.out.size
                go_wp2_with fail
                refine hK.out _ _ ⟨HS.out.box3, hcy⟩ (fun hHeld => ?_)
                clear hK K
                try simp only [Act.put, List.getElem_toArray, List.getElem_cons_zero, List.getElem_cons_succ, List.setIfInBounds_toArray, List.set_cons_zero, List.set_cons_succ]
                refine wpAnyH_take (i := 24) (v := ?_) rfl (by kernel_rfl) (by kernel_rfl) (by kernel_rfl) (fun _ _ _ h => h) (Or.inl ⟨by rfl, ?_⟩) (by assumption) ?_
                rotate_left
                · intro w' hSw
                  (try dsimp only at hSw)
                  go_simp
                  try (with_reducible rfl)
                simp only [Act.put, List.getElem_toArray, List.getElem_cons_zero, List.getElem_cons_succ, List.setIfInBounds_toArray, List.set_cons_zero, List.set_cons_succ]
                refine wpAnyH_take (i := 25) (v := ?_) rfl (by kernel_rfl) (by kernel_rfl) (by kernel_rfl) (fun _ _ _ h => h) (Or.inl ⟨by rfl, ?_⟩) (by assumption) ?_
                rotate_left
                · intro w' hSw
                  (try dsimp only at hSw)
                  go_simp
                  try (with_reducible rfl)
                simp only [Act.put, List.getElem_toArray, List.getElem_cons_zero, List.getElem_cons_succ, List.setIfInBounds_toArray, List.set_cons_zero, List.set_cons_succ]
                refine wpAnyH_take (i := 26) (v := ?_) rfl (by kernel_rfl) (by kernel_rfl) (by kernel_rfl) (fun _ _ _ h => h) (Or.inl ⟨by rfl, ?_⟩) (by assumption) ?_
                rotate_left
                · intro w' hSw
                  (try dsimp only at hSw)
                  go_simp
                  try (with_reducible rfl)
                simp only [Act.put, List.getElem_toArray, List.getElem_cons_zero, List.getElem_cons_succ, List.setIfInBounds_toArray, List.set_cons_zero, List.set_cons_succ]
                refine wpAnyH_take (i := 27) (v := ?_) rfl (by kernel_rfl) (by kernel_rfl) (by kernel_rfl) (fun _ _ _ h => h) (Or.inl ⟨by rfl, ?_⟩) (by assumption) ?_
                rotate_left
                · intro w' hSw
                  (try dsimp only at hSw)
                  go_simp
                  try (with_reducible rfl)
                simp only [Act.put, List.getElem_toArray, List.getElem_cons_zero, List.getElem_cons_succ, List.setIfInBounds_toArray, List.set_cons_zero, List.set_cons_succ]
                refine wpAnyH_ready (rs := [28]) (by kernel_rfl) (by simp) ?_
                refine AllReadyH.cons rfl (fun K hK => ?_) ?_
                · have z0 := HS.out.res3
                  have hsz := HS.out.size
                  go_simp
                  refine hK.out _ _ ?_ (fun hHeld => ?_)
                  · have e9 := EV.out
                    (first | exact ⟨rs_far HS.out.box3 (by simp; try omega), rs_far hcy (by simp; omega)⟩ | exact ⟨rs_farA HSo.out.box3 (by simp; try omega) _, rs_arr hy⟩)
                  clear hK K
                  try simp only [Act.put, List.getElem_toArray, List.getElem_cons_zero, List.getElem_cons_succ, List.setIfInBounds_toArray, List.set_cons_zero, List.set_cons_succ]
                  refine wpAnyH_done (by kernel_rfl) ?_ _
                  go_wp2_with fail
                  first
                    | exact HS.out.fin (by omega) rfl rfl (.inl rfl)
                    | exact HSo.out.fin (by omega) rfl rfl (.inr ⟨_, rfl⟩)
                exact AllReadyH.nil
              exact AllReadyH.nil
            exact AllReadyH.nil
          exact AllReadyH.nil
        exact AllReadyH.nil
      exact AllReadyH.nil
    refine AllReadyH.cons rfl (fun K hK => ?_) ?_
    · go_simp
      go_at_call 37
      refine (pick_u B g _ _ _ HS.out.rd (by omega)).mono ?_
      rintro _ w2 ⟨r2, p2, q2, _, rfl, h7, o7⟩
      replace HS := hide (HS.out.only o7 h7)
      clear o7 h7
      have hb3 := HS.out.box3
      have hsz2 := HS.out.size
      go_wp2_with fail
      refine hK.out _ _ HS.out.box3 (fun hHeld => ?_)
      clear hK K
      try simp only [Act.put, List.getElem_toArray, List.getElem_cons_zero, List.getElem_cons_succ, List.setIfInBounds_toArray, List.set_cons_zero, List.set_cons_succ]
      refine wpAnyH_take (i := 7) (v := ?_) rfl (by kernel_rfl) (by kernel_rfl) (by kernel_rfl) (fun _ _ _ h => h) (Or.inl ⟨by rfl, ?_⟩) (by assumption) ?_
      rotate_left
      · intro w' hSw
        (try dsimp only at hSw)
        go_simp
        try (with_reducible rfl)
      simp only [Act.put, List.getElem_toArray, List.getElem_cons_zero, List.getElem_cons_succ, List.setIfInBounds_toArray, List.set_cons_zero, List.set_cons_succ]
      refine wpAnyH_take (i := 8) (v := ?_) rfl (by kernel_rfl) (by kernel_rfl) (by kernel_rfl) (fun _ _ _ h => h) (Or.inl ⟨by rfl, ?_⟩) (by assumption) ?_
      rotate_left
      · intro w' hSw
        (try dsimp only at hSw)
        go_simp
        try (with_reducible rfl)
      simp only [Act.put, List.getElem_toArray, List.getElem_cons_zero, List.getElem_cons_succ, List.setIfInBounds_toArray, List.set_cons_zero, List.set_cons_succ]
      refine wpAnyH_ready (rs := [0, 11]) (by kernel_rfl) (by simp) ?_
      refine AllReadyH.cons rfl (fun K hK => ?_) ?_
      · have HSo := HS
        have zA := HS.out.res3
        have hzA := HS.out.size
        go_simp
        replace HS := hide (HS.out.alloc (.cells #[.int .i64 0, .int .i64 1, .int .i64 2, .int .i64 2, .int .i64 2] 3))
        have BA : Hid (Blk ((w2).alloc (.cells #[.int .i64 0, .int .i64 1, .int .i64 2, .int .i64 2, .int .i64 2] 3)) w2.heap.size 3 #[.int .i64 0, .int .i64 1, .int .i64 2, .int .i64 2, .int .i64 2]) := hide (Blk.new _ _ _)
        have hA := HS.out.box3
        refine hK.out _ _ HS.out.box3 (fun hHeld => ?_)
        clear hK K
        try simp only [Act.put, List.getElem_toArray, List.getElem_cons_zero, List.getElem_cons_succ, List.setIfInBounds_toArray, List.set_cons_zero, List.set_cons_succ]
        have hcy := (Blk.cell BA.out nr).trans hy
        refine wpAnyH_more (T := fun w' => w'.cell? ⟨w.heap.size, 2, none⟩ = some (.slice A n c) ∧ w'.cell? ⟨w2.heap.size, nr, none⟩ = some (.int .i64 y)) (fun _ h => h.1) _ _ _ _ ?_
        replace hHeld := (show ((w2).alloc (.cells #[.int .i64 0, .int .i64 1, .int .i64 2, .int .i64 2, .int .i64 2] 3)).cell? ⟨w.heap.size, 2, none⟩ = some (.slice A n c) ∧ ((w2).alloc (.cells #[.int .i64 0, .int .i64 1, .int .i64 2, .int .i64 2, .int .i64 2] 3)).cell? ⟨w2.heap.size, nr, none⟩ = some (.int .i64 y) from ⟨HS.out.box3, hcy⟩)
        refine wpAnyH_take (i := 3) (v := ?_) rfl (by kernel_rfl) (by kernel_rfl) (by kernel_rfl) (fun _ _ _ h => h) (Or.inl ⟨by rfl, ?_⟩) (by assumption) ?_
        rotate_left
        · intro w' hSw
          (try dsimp only at hSw)
          go_simp
          try (with_reducible rfl)
        simp only [Act.put, List.getElem_toArray, List.getElem_cons_zero, List.getElem_cons_succ, List.setIfInBounds_toArray, List.set_cons_zero, List.set_cons_succ]
        refine wpAnyH_take (i := 4) (v := ?_) rfl (by kernel_rfl) (by kernel_rfl) (by kernel_rfl) (fun _ _ _ h => h) (Or.inl ⟨by rfl, ?_⟩) (by assumption) ?_
        rotate_left
        · intro w' hSw
          (try dsimp only at hSw)
          go_simp
          try (with_reducible rfl)
        simp only [Act.put, List.getElem_toArray, List.getElem_cons_zero, List.getElem_cons_succ, List.setIfInBounds_toArray, List.set_cons_zero, List.set_cons_succ]
        refine wpAnyH_take (i := 9) (v := ?_) rfl (by kernel_rfl) (by kernel_rfl) (by kernel_rfl) (fun _ _ _ h => h) (Or.inl ⟨by rfl, ?_⟩) (by assumption) ?_
        rotate_left
        · intro w' hSw
          (try dsimp only at hSw)
          go_simp
          try (with_reducible rfl)
        simp only [Act.put, List.getElem_toArray, List.getElem_cons_zero, List.getElem_cons_succ, List.setIfInBounds_toArray, List.set_cons_zero, List.set_cons_succ]
        refine wpAnyH_ready (rs := [11]) (by kernel_rfl) (by simp) ?_
        refine AllReadyH.cons rfl (fun K hK => ?_) ?_
        · go_simp
          go_at_call 37
          refine (pick_u B g _ _ _ HS.out.rd (by omega)).mono ?_
          rintro _ w3 ⟨r3, p3, q3, _, rfl, h7, o7⟩
          replace HS := hide (HS.out.only o7 h7)
          replace BA := hide (Blk.grown BA.out o7.1 (fun he => by injection he with he; have := HS.out.lt; have := EV.out; first | omega | (have := hsz2; omega)))
          replace hcy := (Blk.cell BA.out nr).trans hy
          clear o7 h7
          have hb3 := HS.out.box3
          have hsz3 := HS.out.size
          go_wp2_with fail
          refine hK.out _ _ ⟨HS.out.box3, hcy⟩ (fun hHeld => ?_)
          clear hK K
          try simp only [Act.put, List.getElem_toArray, List.getElem_cons_zero, List.getElem_cons_succ, List.setIfInBounds_toArray, List.set_cons_zero, List.set_cons_succ]
          refine wpAnyH_ready (rs := [13]) (by kernel_rfl) (by simp) ?_
          refine AllReadyH.cons rfl (fun K hK => ?_) ?_
          · go_simp
            go_at_call 37
            refine (pick_u B g _ _ _ HS.out.rd (by omega)).mono ?_
            rintro _ w4 ⟨r4, p4, q4, _, rfl, h7, o7⟩
            replace HS := hide (HS.out.only o7 h7)
            replace BA := hide (Blk.grown BA.out o7.1 (fun he => by injection he with he; have := HS.out.lt; have := EV.out; first | omega | (have := hsz2; omega)))
            replace hcy := (Blk.cell BA.out nr).trans hy
            clear o7 h7
            have hb3 := HS.out.box3
            have hsz4 := HS.out.size
            go_wp2_with fail
            refine hK.out _ _ ⟨HS.out.box3, hcy⟩ (fun hHeld => ?_)
            clear hK K
            try simp only [Act.put, List.getElem_toArray, List.getElem_cons_zero, List.getElem_cons_succ, List.setIfInBounds_toArray, List.set_cons_zero, List.set_cons_succ]
            refine wpAnyH_take (i := 14) (v := ?_) rfl (by kernel_rfl) (by kernel_rfl) (by kernel_rfl) (fun _ _ _ h => h) (Or.inl ⟨by rfl, ?_⟩) (by assumption) ?_
            rotate_left
            · intro w' hSw
              (try dsimp only at hSw)
              go_simp
              try (with_reducible rfl)
            simp only [Act.put, List.getElem_toArray, List.getElem_cons_zero, List.getElem_cons_succ, List.setIfInBounds_toArray, List.set_cons_zero, List.set_cons_succ]
            refine wpAnyH_take (i := 15) (v := ?_) rfl (by kernel_rfl) (by kernel_rfl) (by kernel_rfl) (fun _ _ _ h => h) (Or.inl ⟨by rfl, ?_⟩) (by assumption) ?_
            rotate_left
            · intro w' hSw
              (try dsimp only at hSw)
              go_simp
              try (with_reducible rfl)
            simp only [Act.put, List.getElem_toArray, List.getElem_cons_zero, List.getElem_cons_succ, List.setIfInBounds_toArray, List.set_cons_zero, List.set_cons_succ]
            refine wpAnyH_take (i := 16) (v := ?_) rfl (by kernel_rfl) (by kernel_rfl) (by kernel_rfl) (fun _ _ _ h => h) (Or.inl ⟨by rfl, ?_⟩) (by assumption) ?_
            rotate_left
            · intro w' hSw
              (try dsimp only at hSw)
              go_simp
              try (with_reducible rfl)
            simp only [Act.put, List.getElem_toArray, List.getElem_cons_zero, List.getElem_cons_succ, List.setIfInBounds_toArray, List.set_cons_zero, List.set_cons_succ]
            refine wpAnyH_ready (rs := [21]) (by kernel_rfl) (by simp) ?_
            refine AllReadyH.cons rfl (fun K hK => ?_) ?_
            · go_simp
              go_at_call 37
              refine (pick_u B g _ _ _ HS.out.rd (by omega)).mono ?_
              rintro _ w5 ⟨r5, p5, q5, _, rfl, h7, o7⟩
              replace HS := hide (HS.out.only o7 h7)
              replace BA := hide (Blk.grown BA.out o7.1 (fun he => by injection he with he; have := HS.out.lt; have := EV.out; first | omega | (have := hsz2; omega)))
              replace hcy := (Blk.cell BA.out nr).trans hy
              clear o7 h7
              have hb3 := HS.out.box3
              have hsz5 := HS.out.size
              go_wp2_with fail
              refine hK.out _ _ ⟨HS.out.box3, hcy⟩ (fun hHeld => ?_)
              clear hK K
              try simp only [Act.put, List.getElem_toArray, List.getElem_cons_zero, List.getElem_cons_succ, List.setIfInBounds_toArray, List.set_cons_zero, List.set_cons_succ]
              refine wpAnyH_ready (rs := [23]) (by kernel_rfl) (by simp) ?_
              refine AllReadyH.cons rfl (fun K hK => ?_) ?_
              · go_simp
                go_at_call 37
                refine (pick_u B g _ _ _ HS.out.rd (by omega)).mono ?_
                rintro _ w6 ⟨r6, p6, q6, _, rfl, h7, o7⟩
                replace HS := hide (HS.out.only o7 h7)
                replace BA := hide (Blk.grown BA.out o7.1 (fun he => by injection he with he; have := HS.out.lt; have := EV.out; first | omega | (have := hsz2; omega)))
                replace hcy := (Blk.cell BA.out nr).trans hy
                clear o7 h7
                have hb3 := HS.out.box3
                have hsz6 := HS.out.size
                go_wp2_with fail
                refine hK.out _ _ ⟨HS.out.box3, hcy⟩ (fun hHeld => ?_)
                clear hK K
                try simp only [Act.put, List.getElem_toArray, List.getElem_cons_zero, List.getElem_cons_succ, List.setIfInBounds_toArray, List.set_cons_zero, List.set_cons_succ]
                refine wpAnyH_take (i := 24) (v := ?_) rfl (by kernel_rfl) (by kernel_rfl) (by kernel_rfl) (fun _ _ _ h => h) (Or.inl ⟨by rfl, ?_⟩) (by assumption) ?_
                rotate_left
                · intro w' hSw
                  (try dsimp only at hSw)
                  go_simp
                  try (with_reducible rfl)
                simp only [Act.put, List.getElem_toArray, List.getElem_cons_zero, List.getElem_cons_succ, List.setIfInBounds_toArray, List.set_cons_zero, List.set_cons_succ]
                refine wpAnyH_take (i := 25) (v := ?_) rfl (by kernel_rfl) (by kernel_rfl) (by kernel_rfl) (fun _ _ _ h => h) (Or.inl ⟨by rfl, ?_⟩) (by assumption) ?_
                rotate_left
                · intro w' hSw
                  (try dsimp only at hSw)
                  go_simp
                  try (with_reducible rfl)
                simp only [Act.put, List.getElem_toArray, List.getElem_cons_zero, List.getElem_cons_succ, List.setIfInBounds_toArray, List.set_cons_zero, List.set_cons_succ]
                refine wpAnyH_take (i := 26) (v := ?_) rfl (by kernel_rfl) (by kernel_rfl) (by kernel_rfl) (fun _ _ _ h => h) (Or.inl ⟨by rfl, ?_⟩) (by assumption) ?_
                rotate_left
                · intro w' hSw
                  (try dsimp only at hSw)
                  go_simp
                  try (with_reducible rfl)
                simp only [Act.put, List.getElem_toArray, List.getElem_cons_zero, List.getElem_cons_succ, List.setIfInBounds_toArray, List.set_cons_zero, List.set_cons_succ]
                refine wpAnyH_take (i := 27) (v := ?_) rfl (by kernel_rfl) (by kernel_rfl) (by kernel_rfl) (fun _ _ _ h => h) (Or.inl ⟨by rfl, ?_⟩) (by assumption) ?_
                rotate_left
                · intro w' hSw
                  (try dsimp only at hSw)
                  go_simp
                  try (with_reducible rfl)
                simp only [Act.put, List.getElem_toArray, List.getElem_cons_zero, List.getElem_cons_succ, List.setIfInBounds_toArray, List.set_cons_zero, List.set_cons_succ]
                refine wpAnyH_ready (rs := [28]) (by kernel_rfl) (by simp) ?_
                refine AllReadyH.cons rfl (fun K hK => ?_) ?_
                · have z0 := HS.out.res3
                  have hsz := HS.out.size
                  go_simp
                  refine hK.out _ _ ?_ (fun hHeld => ?_)
                  · have e9 := EV.out
                    (first | exact ⟨rs_far HS.out.box3 (by simp; try omega), rs_far hcy (by simp; omega)⟩ | exact ⟨rs_farA HSo.out.box3 (by simp; try omega) _, rs_arr hy⟩)
                  clear hK K
                  try simp only [Act.put, List.getElem_toArray, List.getElem_cons_zero, List.getElem_cons_succ, List.setIfInBounds_toArray, List.set_cons_zero, List.set_cons_succ]
                  refine wpAnyH_done (by kernel_rfl) ?_ _
                  go_wp2_with fail
                  first
                    | exact HS.out.fin (by omega) rfl rfl (.inl rfl)
                    | exact HSo.out.fin (by omega) rfl rfl (.inr ⟨_, rfl⟩)
                exact AllReadyH.nil
              exact AllReadyH.nil
            exact AllReadyH.nil
          exact AllReadyH.nil
        exact AllReadyH.nil
      refine AllReadyH.cons rfl (fun K hK => ?_) ?_
      · go_simp
        go_at_call 37
        refine (pick_u B g _ _ _ HS.out.rd (by omega)).mono ?_
        rintro _ w3 ⟨r3, p3, q3, _, rfl, h7, o7⟩
        replace HS := hide (HS.out.only o7 h7)
        clear o7 h7
        have hb3 := HS.out.box3
        have hsz3 := HS.out.size
        go_wp2_with fail
        refine hK.out _ _ HS.out.box3 (fun hHeld => ?_)
        clear hK K
        try simp only [Act.put, List.getElem_toArray, List.getElem_cons_zero, List.getElem_cons_succ, List.setIfInBounds_toArray, List.set_cons_zero, List.set_cons_succ]
        refine wpAnyH_ready (rs := [0, 13]) (by kernel_rfl) (by simp) ?_
        refine AllReadyH.cons rfl (fun K hK => ?_) ?_
        · have HSo := HS
          have zA := HS.out.res3
          have hzA := HS.out.size
          go_simp
          replace HS := hide (HS.out.alloc (.cells #[.int .i64 0, .int .i64 1, .int .i64 2, .int .i64 2, .int .i64 2] 3))
          have BA : Hid (Blk ((w3).alloc (.cells #[.int .i64 0, .int .i64 1, .int .i64 2, .int .i64 2, .int .i64 2] 3)) w3.heap.size 3 #[.int .i64 0, .int .i64 1, .int .i64 2, .int .i64 2, .int .i64 2]) := hide (Blk.new _ _ _)
          have hA := HS.out.box3
          refine hK.out _ _ HS.out.box3 (fun hHeld => ?_)
          clear hK K
          try simp only [Act.put, List.getElem_toArray, List.getElem_cons_zero, List.getElem_cons_succ, List.setIfInBounds_toArray, List.set_cons_zero, List.set_cons_succ]
          have hcy := (Blk.cell BA.out nr).trans hy
          refine wpAnyH_more (T := fun w' => w'.cell? ⟨w.heap.size, 2, none⟩ = some (.slice A n c) ∧ w'.cell? ⟨w3.heap.size, nr, none⟩ = some (.int .i64 y)) (fun _ h => h.1) _ _ _ _ ?_
          replace hHeld := (show ((w3).alloc (.cells #[.int .i64 0, .int .i64 1, .int .i64 2, .int .i64 2, .int .i64 2] 3)).cell? ⟨w.heap.size, 2, none⟩ = some (.slice A n c) ∧ ((w3).alloc (.cells #[.int .i64 0, .int .i64 1, .int .i64 2, .int .i64 2, .int .i64 2] 3)).cell? ⟨w3.heap.size, nr, none⟩ = some (.int .i64 y) from ⟨HS.out.box3, hcy⟩)
          refine wpAnyH_take (i := 3) (v := ?_) rfl (by kernel_rfl) (by kernel_rfl) (by kernel_rfl) (fun _ _ _ h => h) (Or.inl ⟨by rfl, ?_⟩) (by assumption) ?_
          rotate_left
          · intro w' hSw
            (try dsimp only at hSw)
            go_simp
            try (with_reducible rfl)
          simp only [Act.put, List.getElem_toArray, List.getElem_cons_zero, List.getElem_cons_succ, List.setIfInBounds_toArray, List.set_cons_zero, List.set_cons_succ]
          refine wpAnyH_take (i := 4) (v := ?_) rfl (by kernel_rfl) (by kernel_rfl) (by kernel_rfl) (fun _ _ _ h => h) (Or.inl ⟨by rfl, ?_⟩) (by assumption) ?_
          rotate_left
          · intro w' hSw
            (try dsimp only at hSw)
            go_simp
            try (with_reducible rfl)
          simp only [Act.put, List.getElem_toArray, List.getElem_cons_zero, List.getElem_cons_succ, List.setIfInBounds_toArray, List.set_cons_zero, List.set_cons_succ]
          refine wpAnyH_take (i := 9) (v := ?_) rfl (by kernel_rfl) (by kernel_rfl) (by kernel_rfl) (fun _ _ _ h => h) (Or.inl ⟨by rfl, ?_⟩) (by assumption) ?_
          rotate_left
          · intro w' hSw
            (try dsimp only at hSw)
            go_simp
            try (with_reducible rfl)
          simp only [Act.put, List.getElem_toArray, List.getElem_cons_zero, List.getElem_cons_succ, List.setIfInBounds_toArray, List.set_cons_zero, List.set_cons_succ]
          refine wpAnyH_ready (rs := [13]) (by kernel_rfl) (by simp) ?_
          refine AllReadyH.cons rfl (fun K hK => ?_) ?_
          · go_simp
            go_at_call 37
            refine (pick_u B g _ _ _ HS.out.rd (by omega)).mono ?_
            rintro _ w4 ⟨r4, p4, q4, _, rfl, h7, o7⟩
            replace HS := hide (HS.out.only o7 h7)
            replace BA := hide (Blk.grown BA.out o7.1 (fun he => by injection he with he; have := HS.out.lt; have := EV.out; first | omega | (have := hsz3; omega)))
            replace hcy := (Blk.cell BA.out nr).trans hy
            clear o7 h7
            have hb3 := HS.out.box3
            have hsz4 := HS.out.size
            go_wp2_with fail
            refine hK.out _ _ ⟨HS.out.box3, hcy⟩ (fun hHeld => ?_)
            clear hK K
            try simp only [Act.put, List.getElem_toArray, List.getElem_cons_zero, List.getElem_cons_succ, List.setIfInBounds_toArray, List.set_cons_zero, List.set_cons_succ]
            refine wpAnyH_take (i := 14) (v := ?_) rfl (by kernel_rfl) (by kernel_rfl) (by kernel_rfl) (fun _ _ _ h => h) (Or.inl ⟨by rfl, ?_⟩) (by assumption) ?_
            rotate_left
            · intro w' hSw
              (try dsimp only at hSw)
              go_simp
              try (with_reducible rfl)
            simp only [Act.put, List.getElem_toArray, List.getElem_cons_zero, List.getElem_cons_succ, List.setIfInBounds_toArray, List.set_cons_zero, List.set_cons_succ]
            refine wpAnyH_take (i := 15) (v := ?_) rfl (by kernel_rfl) (by kernel_rfl) (by kernel_rfl) (fun _ _ _ h => h) (Or.inl ⟨by rfl, ?_⟩) (by assumption) ?_
            rotate_left
            · intro w' hSw
              (try dsimp only at hSw)
              go_simp
              try (with_reducible rfl)
            simp only [Act.put, List.getElem_toArray, List.getElem_cons_zero, List.getElem_cons_succ, List.setIfInBounds_toArray, List.set_cons_zero, List.set_cons_succ]
            refine wpAnyH_take (i := 16) (v := ?_) rfl (by kernel_rfl) (by kernel_rfl) (by kernel_rfl) (fun _ _ _ h => h) (Or.inl ⟨by rfl, ?_⟩) (by assumption) ?_
            rotate_left
            · intro w' hSw
              (try dsimp only at hSw)
              go_simp
              try (with_reducible rfl)
            simp only [Act.put, List.getElem_toArray, List.getElem_cons_zero, List.getElem_cons_succ, List.setIfInBounds_toArray, List.set_cons_zero, List.set_cons_succ]
            refine wpAnyH_ready (rs := [21]) (by kernel_rfl) (by simp) ?_
            refine AllReadyH.cons rfl (fun K hK => ?_) ?_
            · go_simp
              go_at_call 37
              refine (pick_u B g _ _ _ HS.out.rd (by omega)).mono ?_
              rintro _ w5 ⟨r5, p5, q5, _, rfl, h7, o7⟩
              replace HS := hide (HS.out.only o7 h7)
              replace BA := hide (Blk.grown BA.out o7.1 (fun he => by injection he with he; have := HS.out.lt; have := EV.out; first | omega | (have := hsz3; omega)))
              replace hcy := (Blk.cell BA.out nr).trans hy
              clear o7 h7
              have hb3 := HS.out.box3
              have hsz5 := HS.out.size
              go_wp2_with fail
              refine hK.out _ _ ⟨HS.out.box3, hcy⟩ (fun hHeld => ?_)
              clear hK K
              try simp only [Act.put, List.getElem_toArray, List.getElem_cons_zero, List.getElem_cons_succ, List.setIfInBounds_toArray, List.set_cons_zero, List.set_cons_succ]
              refine wpAnyH_ready (rs := [23]) (by kernel_rfl) (by simp) ?_
              refine AllReadyH.cons rfl (fun K hK => ?_) ?_
              · go_simp
                go_at_call 37
                refine (pick_u B g _ _ _ HS.out.rd (by omega)).mono ?_
                rintro _ w6 ⟨r6, p6, q6, _, rfl, h7, o7⟩
                replace HS := hide (HS.out.only o7 h7)
                replace BA := hide (Blk.grown BA.out o7.1 (fun he => by injection he with he; have := HS.out.lt; have := EV.out; first | omega | (have := hsz3; omega)))
                replace hcy := (Blk.cell BA.out nr).trans hy
                clear o7 h7
                have hb3 := HS.out.box3
                have hsz6 := HS.out.size
                go_wp2_with fail
                refine hK.out _ _ ⟨HS.out.box3, hcy⟩ (fun hHeld => ?_)
                clear hK K
                try simp only [Act.put, List.getElem_toArray, List.getElem_cons_zero, List.getElem_cons_succ, List.setIfInBounds_toArray, List.set_cons_zero, List.set_cons_succ]
                refine wpAnyH_take (i := 24) (v := ?_) rfl (by kernel_rfl) (by kernel_rfl) (by kernel_rfl) (fun _ _ _ h => h) (Or.inl ⟨by rfl, ?_⟩) (by assumption) ?_
                rotate_left
                · intro w' hSw
                  (try dsimp only at hSw)
                  go_simp
                  try (with_reducible rfl)
                simp only [Act.put, List.getElem_toArray, List.getElem_cons_zero, List.getElem_cons_succ, List.setIfInBounds_toArray, List.set_cons_zero, List.set_cons_succ]
                refine wpAnyH_take (i := 25) (v := ?_) rfl (by kernel_rfl) (by kernel_rfl) (by kernel_rfl) (fun _ _ _ h => h) (Or.inl ⟨by rfl, ?_⟩) (by assumption) ?_
                rotate_left
                · intro w' hSw
                  (try dsimp only at hSw)
                  go_simp
                  try (with_reducible rfl)
                simp only [Act.put, List.getElem_toArray, List.getElem_cons_zero, List.getElem_cons_succ, List.setIfInBounds_toArray, List.set_cons_zero, List.set_cons_succ]
                refine wpAnyH_take (i := 26) (v := ?_) rfl (by kernel_rfl) (by kernel_rfl) (by kernel_rfl) (fun _ _ _ h => h) (Or.inl ⟨by rfl, ?_⟩) (by assumption) ?_
                rotate_left
                · intro w' hSw
                  (try dsimp only at hSw)
                  go_simp
                  try (with_reducible rfl)
                simp only [Act.put, List.getElem_toArray, List.getElem_cons_zero, List.getElem_cons_succ, List.setIfInBounds_toArray, List.set_cons_zero, List.set_cons_succ]
                refine wpAnyH_take (i := 27) (v := ?_) rfl (by kernel_rfl) (by kernel_rfl) (by kernel_rfl) (fun _ _ _ h => h) (Or.inl ⟨by rfl, ?_⟩) (by assumption) ?_
                rotate_left
                · intro w' hSw
                  (try dsimp only at hSw)
                  go_simp
                  try (with_reducible rfl)
                simp only [Act.put, List.getElem_toArray, List.getElem_cons_zero, List.getElem_cons_succ, List.setIfInBounds_toArray, List.set_cons_zero, List.set_cons_succ]
                refine wpAnyH_ready (rs := [28]) (by kernel_rfl) (by simp) ?_
                refine AllReadyH.cons rfl (fun K hK => ?_) ?_
                · have z0 := HS.out.res3
                  have hsz := HS.out.size
                  go_simp
                  refine hK.out _ _ ?_ (fun hHeld => ?_)
                  · have e9 := EV.out
                    (first | exact ⟨rs_far HS.out.box3 (by simp; try omega), rs_far hcy (by simp; omega)⟩ | exact ⟨rs_farA HSo.out.box3 (by simp; try omega) _, rs_arr hy⟩)
                  clear hK K
                  try simp only [Act.put, List.getElem_toArray, List.getElem_cons_zero, List.getElem_cons_succ, List.setIfInBounds_toArray, List.set_cons_zero, List.set_cons_succ]
                  refine wpAnyH_done (by kernel_rfl) ?_ _
                  go_wp2_with fail
                  first
                    | exact HS.out.fin (by omega) rfl rfl (.inl rfl)
                    | exact HSo.out.fin (by omega) rfl rfl (.inr ⟨_, rfl⟩)
                exact AllReadyH.nil
              exact AllReadyH.nil
            exact AllReadyH.nil
          exact AllReadyH.nil
        refine AllReadyH.cons rfl (fun K hK => ?_) ?_
        · go_simp
          go_at_call 37
          refine (pick_u B g _ _ _ HS.out.rd (by omega)).mono ?_
          rintro _ w4 ⟨r4, p4, q4, _, rfl, h7, o7⟩
          replace HS := hide (HS.out.only o7 h7)
          clear o7 h7
          have hb3 := HS.out.box3
          have hsz4 := HS.out.size
          go_wp2_with fail
          refine hK.out _ _ HS.out.box3 (fun hHeld => ?_)
          clear hK K
          try simp only [Act.put, List.getElem_toArray, List.getElem_cons_zero, List.getElem_cons_succ, List.setIfInBounds_toArray, List.set_cons_zero, List.set_cons_succ]
          refine wpAnyH_take (i := 14) (v := ?_) rfl (by kernel_rfl) (by kernel_rfl) (by kernel_rfl) (fun _ _ _ h => h) (Or.inl ⟨by rfl, ?_⟩) (by assumption) ?_
          rotate_left
          · intro w' hSw
            (try dsimp only at hSw)
            go_simp
            try (with_reducible rfl)
          simp only [Act.put, List.getElem_toArray, List.getElem_cons_zero, List.getElem_cons_succ, List.setIfInBounds_toArray, List.set_cons_zero, List.set_cons_succ]
          refine wpAnyH_take (i := 15) (v := ?_) rfl (by kernel_rfl) (by kernel_rfl) (by kernel_rfl) (fun _ _ _ h => h) (Or.inl ⟨by rfl, ?_⟩) (by assumption) ?_
          rotate_left
          · intro w' hSw
            (try dsimp only at hSw)
            go_simp
            try (with_reducible rfl)
          simp only [Act.put, List.getElem_toArray, List.getElem_cons_zero, List.getElem_cons_succ, List.setIfInBounds_toArray, List.set_cons_zero, List.set_cons_succ]
          refine wpAnyH_take (i := 16) (v := ?_) rfl (by kernel_rfl) (by kernel_rfl) (by kernel_rfl) (fun _ _ _ h => h) (Or.inl ⟨by rfl, ?_⟩) (by assumption) ?_
          rotate_left
          · intro w' hSw
            (try dsimp only at hSw)
            go_simp
            try (with_reducible rfl)
          simp only [Act.put, List.getElem_toArray, List.getElem_cons_zero, List.getElem_cons_succ, List.setIfInBounds_toArray, List.set_cons_zero, List.set_cons_succ]
          refine wpAnyH_ready (rs := [0, 21]) (by kernel_rfl) (by simp) ?_
          refine AllReadyH.cons rfl (fun K hK => ?_) ?_
          · have HSo := HS
            have zA := HS.out.res3
            have hzA := HS.out.size
            go_simp
            replace HS := hide (HS.out.alloc (.cells #[.int .i64 0, .int .i64 1, .int .i64 2, .int .i64 2, .int .i64 2] 3))
            have BA : Hid (Blk ((w4).alloc (.cells #[.int .i64 0, .int .i64 1, .int .i64 2, .int .i64 2, .int .i64 2] 3)) w4.heap.size 3 #[.int .i64 0, .int .i64 1, .int .i64 2, .int .i64 2, .int .i64 2]) := hide (Blk.new _ _ _)
            have hA := HS.out.box3
            refine hK.out _ _ HS.out.box3 (fun hHeld => ?_)
            clear hK K
            try simp only [Act.put, List.getElem_toArray, List.getElem_cons_zero, List.getElem_cons_succ, List.setIfInBounds_toArray, List.set_cons_zero, List.set_cons_succ]
            have hcy := (Blk.cell BA.out nr).trans hy
            refine wpAnyH_more (T := fun w' => w'.cell? ⟨w.heap.size, 2, none⟩ = some (.slice A n c) ∧ w'.cell? ⟨w4.heap.size, nr, none⟩ = some (.int .i64 y)) (fun _ h => h.1) _ _ _ _ ?_
            replace hHeld := (show ((w4).alloc (.cells #[.int .i64 0, .int .i64 1, .int .i64 2, .int .i64 2, .int .i64 2] 3)).cell? ⟨w.heap.size, 2, none⟩ = some (.slice A n c) ∧ ((w4).alloc (.cells #[.int .i64 0, .int .i64 1, .int .i64 2, .int .i64 2, .int .i64 2] 3)).cell? ⟨w4.heap.size, nr, none⟩ = some (.int .i64 y) from ⟨HS.out.box3, hcy⟩)
            refine wpAnyH_take (i := 3) (v := ?_) rfl (by kernel_rfl) (by kernel_rfl) (by kernel_rfl) (fun _ _ _ h => h) (Or.inl ⟨by rfl, ?_⟩) (by assumption) ?_
            rotate_left
            · intro w' hSw
              (try dsimp only at hSw)
              go_simp
              try (with_reducible rfl)
            simp only [Act.put, List.getElem_toArray, List.getElem_cons_zero, List.getElem_cons_succ, List.setIfInBounds_toArray, List.set_cons_zero, List.set_cons_succ]
            refine wpAnyH_take (i := 4) (v := ?_) rfl (by kernel_rfl) (by kernel_rfl) (by kernel_rfl) (fun _ _ _ h => h) (Or.inl ⟨by rfl, ?_⟩) (by assumption) ?_
            rotate_left
            · intro w' hSw
              (try dsimp only at hSw)
              go_simp
              try (with_reducible rfl)
            simp only [Act.put, List.getElem_toArray, List.getElem_cons_zero, List.getElem_cons_succ, List.setIfInBounds_toArray, List.set_cons_zero, List.set_cons_succ]
            refine wpAnyH_take (i := 9) (v := ?_) rfl (by kernel_rfl) (by kernel_rfl) (by kernel_rfl) (fun _ _ _ h => h) (Or.inl ⟨by rfl, ?_⟩) (by assumption) ?_
            rotate_left
            · intro w' hSw
              (try dsimp only at hSw)
              go_simp
              try (with_reducible rfl)
            simp only [Act.put, List.getElem_toArray, List.getElem_cons_zero, List.getElem_cons_succ, List.setIfInBounds_toArray, List.set_cons_zero, List.set_cons_succ]
            refine wpAnyH_ready (rs := [21]) (by kernel_rfl) (by simp) ?_
            refine AllReadyH.cons rfl (fun K hK => ?_) ?_
            · go_simp
              go_at_call 37
              refine (pick_u B g _ _ _ HS.out.rd (by omega)).mono ?_
              rintro _ w5 ⟨r5, p5, q5, _, rfl, h7, o7⟩
              replace HS := hide (HS.out.only o7 h7)
              replace BA := hide (Blk.grown BA.out o7.1 (fun he => by injection he with he; have := HS.out.lt; have := EV.out; first | omega | (have := hsz4; omega)))
              replace hcy := (Blk.cell BA.out nr).trans hy
              clear o7 h7
              have hb3 := HS.out.box3
              have hsz5 := HS.out.size
              go_wp2_with fail
              refine hK.out _ _ ⟨HS.out.box3, hcy⟩ (fun hHeld => ?_)
              clear hK K
              try simp only [Act.put, List.getElem_toArray, List.getElem_cons_zero, List.getElem_cons_succ, List.setIfInBounds_toArray, List.set_cons_zero, List.set_cons_succ]
              refine wpAnyH_ready (rs := [23]) (by kernel_rfl) (by simp) ?_
              refine AllReadyH.cons rfl (fun K hK => ?_) ?_
              · go_simp
                go_at_call 37
                refine (pick_u B g _ _ _ HS.out.rd (by omega)).mono ?_
                rintro _ w6 ⟨r6, p6, q6, _, rfl, h7, o7⟩
                replace HS := hide (HS.out.only o7 h7)
                replace BA := hide (Blk.grown BA.out o7.1 (fun he => by injection he with he; have := HS.out.lt; have := EV.out; first | omega | (have := hsz4; omega)))
                replace hcy := (Blk.cell BA.out nr).trans hy
                clear o7 h7
                have hb3 := HS.out.box3
                have hsz6 := HS.out.size
                go_wp2_with fail
                refine hK.out _ _ ⟨HS.out.box3, hcy⟩ (fun hHeld => ?_)
                clear hK K
                try simp only [Act.put, List.getElem_toArray, List.getElem_cons_zero, List.getElem_cons_succ, List.setIfInBounds_toArray, List.set_cons_zero, List.set_cons_succ]
                refine wpAnyH_take (i := 24) (v := ?_) rfl (by kernel_rfl) (by kernel_rfl) (by kernel_rfl) (fun _ _ _ h => h) (Or.inl ⟨by rfl, ?_⟩) (by assumption) ?_
                rotate_left
                · intro w' hSw
                  (try dsimp only at hSw)
                  go_simp
                  try (with_reducible rfl)
                simp only [Act.put, List.getElem_toArray, List.getElem_cons_zero, List.getElem_cons_succ, List.setIfInBounds_toArray, List.set_cons_zero, List.set_cons_succ]
                refine wpAnyH_take (i := 25) (v := ?_) rfl (by kernel_rfl) (by kernel_rfl) (by kernel_rfl) (fun _ _ _ h => h) (Or.inl ⟨by rfl, ?_⟩) (by assumption) ?_
                rotate_left
                · intro w' hSw
                  (try dsimp only at hSw)
                  go_simp
                  try (with_reducible rfl)
                simp only [Act.put, List.getElem_toArray, List.getElem_cons_zero, List.getElem_cons_succ, List.setIfInBounds_toArray, List.set_cons_zero, List.set_cons_succ]
                refine wpAnyH_take (i := 26) (v := ?_) rfl (by kernel_rfl) (by kernel_rfl) (by kernel_rfl) (fun _ _ _ h => h) (Or.inl ⟨by rfl, ?_⟩) (by assumption) ?_
                rotate_left
                · intro w' hSw
                  (try dsimp only at hSw)
                  go_simp
                  try (with_reducible rfl)
                simp only [Act.put, List.getElem_toArray, List.getElem_cons_zero, List.getElem_cons_succ, List.setIfInBounds_toArray, List.set_cons_zero, List.set_cons_succ]
                refine wpAnyH_take (i := 27) (v := ?_) rfl (by kernel_rfl) (by kernel_rfl) (by kernel_rfl) (fun _ _ _ h => h) (Or.inl ⟨by rfl, ?_⟩) (by assumption) ?_
                rotate_left
                · intro w' hSw
                  (try dsimp only at hSw)
                  go_simp
                  try (with_reducible rfl)
                simp only [Act.put, List.getElem_toArray, List.getElem_cons_zero, List.getElem_cons_succ, List.setIfInBounds_toArray, List.set_cons_zero, List.set_cons_succ]
                refine wpAnyH_ready (rs := [28]) (by kernel_rfl) (by simp) ?_
                refine AllReadyH.cons rfl (fun K hK => ?_) ?_
                · have z0 := HS.out.res3
                  have hsz := HS.out.size
                  go_simp
                  refine hK.out _ _ ?_ (fun hHeld => ?_)
                  · have e9 := EV.out
                    (first | exact ⟨rs_far HS.out.box3 (by simp; try omega), rs_far hcy (by simp; omega)⟩ | exact ⟨rs_farA HSo.out.box3 (by simp; try omega) _, rs_arr hy⟩)
                  clear hK K
                  try simp only [Act.put, List.getElem_toArray, List.getElem_cons_zero, List.getElem_cons_succ, List.setIfInBounds_toArray, List.set_cons_zero, List.set_cons_succ]
                  refine wpAnyH_done (by kernel_rfl) ?_ _
                  go_wp2_with fail
                  first
                    | exact HS.out.fin (by omega) rfl rfl (.inl rfl)
                    | exact HSo.out.fin (by omega) rfl rfl (.inr ⟨_, rfl⟩)
                exact AllReadyH.nil
              exact AllReadyH.nil
            exact AllReadyH.nil
          refine AllReadyH.cons rfl (fun K hK => ?_) ?_
          · go_simp
            go_at_call 37
            refine (pick_u B g _ _ _ HS.out.rd (by omega)).mono ?_
            rintro _ w5 ⟨r5, p5, q5, _, rfl, h7, o7⟩
            replace HS := hide (HS.out.only o7 h7)
            clear o7 h7
            have hb3 := HS.out.box3
            have hsz5 := HS.out.size
            go_wp2_with fail
            refine hK.out _ _ HS.out.box3 (fun hHeld => ?_)
            clear hK K
            try simp only [Act.put, List.getElem_toArray, List.getElem_cons_zero, List.getElem_cons_succ, List.setIfInBounds_toArray, List.set_cons_zero, List.set_cons_succ]
            refine wpAnyH_ready (rs := [0, 23]) (by kernel_rfl) (by simp) ?_
            refine AllReadyH.cons rfl (fun K hK => ?_) ?_
            · have HSo := HS
              have zA := HS.out.res3
              have hzA := HS.out.size
              go_simp
              replace HS := hide (HS.out.alloc (.cells #[.int .i64 0, .int .i64 1, .int .i64 2, .int .i64 2, .int .i64 2] 3))
              have BA : Hid (Blk ((w5).alloc (.cells #[.int .i64 0, .int .i64 1, .int .i64 2, .int .i64 2, .int .i64 2] 3)) w5.heap.size 3 #[.int .i64 0, .int .i64 1, .int .i64 2, .int .i64 2, .int .i64 2]) := hide (Blk.new _ _ _)
              have hA := HS.out.box3
              refine hK.out _ _ HS.out.box3 (fun hHeld => ?_)
              clear hK K
              try simp only [Act.put, List.getElem_toArray, List.getElem_cons_zero, List.getElem_cons_succ, List.setIfInBounds_toArray, List.set_cons_zero, List.set_cons_succ]
              have hcy := (Blk.cell BA.out nr).trans hy
              refine wpAnyH_more (T := fun w' => w'.cell? ⟨w.heap.size, 2, none⟩ = some (.slice A n c) ∧ w'.cell? ⟨w5.heap.size, nr, none⟩ = some (.int .i64 y)) (fun _ h => h.1) _ _ _ _ ?_
              replace hHeld := (show ((w5).alloc (.cells #[.int .i64 0, .int .i64 1, .int .i64 2, .int .i64 2, .int .i64 2] 3)).cell? ⟨w.heap.size, 2, none⟩ = some (.slice A n c) ∧ ((w5).alloc (.cells #[.int .i64 0, .int .i64 1, .int .i64 2, .int .i64 2, .int .i64 2] 3)).cell? ⟨w5.heap.size, nr, none⟩ = some (.int .i64 y) from ⟨HS.out.box3, hcy⟩)
              refine wpAnyH_take (i := 3) (v := ?_) rfl (by kernel_rfl) (by kernel_rfl) (by kernel_rfl) (fun _ _ _ h => h) (Or.inl ⟨by rfl, ?_⟩) (by assumption) ?_
              rotate_left
              · intro w' hSw
                (try dsimp only at hSw)
                go_simp
                try (with_reducible rfl)
              simp only [Act.put, List.getElem_toArray, List.getElem_cons_zero, List.getElem_cons_succ, List.setIfInBounds_toArray, List.set_cons_zero, List.set_cons_succ]
              refine wpAnyH_take (i := 4) (v := ?_) rfl (by kernel_rfl) (by kernel_rfl) (by kernel_rfl) (fun _ _ _ h => h) (Or.inl ⟨by rfl, ?_⟩) (by assumption) ?_
              rotate_left
              · intro w' hSw
                (try dsimp only at hSw)
                go_simp
                try (with_reducible rfl)
              simp only [Act.put, List.getElem_toArray, List.getElem_cons_zero, List.getElem_cons_succ, List.setIfInBounds_toArray, List.set_cons_zero, List.set_cons_succ]
              refine wpAnyH_take (i := 9) (v := ?_) rfl (by kernel_rfl) (by kernel_rfl) (by kernel_rfl) (fun _ _ _ h => h) (Or.inl ⟨by rfl, ?_⟩) (by assumption) ?_
              rotate_left
              · intro w' hSw
                (try dsimp only at hSw)
                go_simp
                try (with_reducible rfl)
              simp only [Act.put, List.getElem_toArray, List.getElem_cons_zero, List.getElem_cons_succ, List.setIfInBounds_toArray, List.set_cons_zero, List.set_cons_succ]
              refine wpAnyH_ready (rs := [23]) (by kernel_rfl) (by simp) ?_
              refine AllReadyH.cons rfl (fun K hK => ?_) ?_
              · go_simp
                go_at_call 37
                refine (pick_u B g _ _ _ HS.out.rd (by omega)).mono ?_
                rintro _ w6 ⟨r6, p6, q6, _, rfl, h7, o7⟩
                replace HS := hide (HS.out.only o7 h7)
                replace BA := hide (Blk.grown BA.out o7.1 (fun he => by injection he with he; have := HS.out.lt; have := EV.out; first | omega | (have := hsz5; omega)))
                replace hcy := (Blk.cell BA.out nr).trans hy
                clear o7 h7
                have hb3 := HS.out.box3
                have hsz6 := HS.out.size
                go_wp2_with fail
                refine hK.out _ _ ⟨HS.out.box3, hcy⟩ (fun hHeld => ?_)
                clear hK K
                try simp only [Act.put, List.getElem_toArray, List.getElem_cons_zero, List.getElem_cons_succ, List.setIfInBounds_toArray, List.set_cons_zero, List.set_cons_succ]
                refine wpAnyH_take (i := 24) (v := ?_) rfl (by kernel_rfl) (by kernel_rfl) (by kernel_rfl) (fun _ _ _ h => h) (Or.inl ⟨by rfl, ?_⟩) (by assumption) ?_
                rotate_left
                · intro w' hSw
                  (try dsimp only at hSw)
                  go_simp
                  try (with_reducible rfl)
                simp only [Act.put, List.getElem_toArray, List.getElem_cons_zero, List.getElem_cons_succ, List.setIfInBounds_toArray, List.set_cons_zero, List.set_cons_succ]
                refine wpAnyH_take (i := 25) (v := ?_) rfl (by kernel_rfl) (by kernel_rfl) (by kernel_rfl) (fun _ _ _ h => h) (Or.inl ⟨by rfl, ?_⟩) (by assumption) ?_
                rotate_left
                · intro w' hSw
                  (try dsimp only at hSw)
                  go_simp
                  try (with_reducible rfl)
                simp only [Act.put, List.getElem_toArray, List.getElem_cons_zero, List.getElem_cons_succ, List.setIfInBounds_toArray, List.set_cons_zero, List.set_cons_succ]
                refine wpAnyH_take (i := 26) (v := ?_) rfl (by kernel_rfl) (by kernel_rfl) (by kernel_rfl) (fun _ _ _ h => h) (Or.inl ⟨by rfl, ?_⟩) (by assumption) ?_
                rotate_left
                · intro w' hSw
                  (try dsimp only at hSw)
                  go_simp
                  try (with_reducible rfl)
                simp only [Act.put, List.getElem_toArray, List.getElem_cons_zero, List.getElem_cons_succ, List.setIfInBounds_toArray, List.set_cons_zero, List.set_cons_succ]
                refine wpAnyH_take (i := 27) (v := ?_) rfl (by kernel_rfl) (by kernel_rfl) (by kernel_rfl) (fun _ _ _ h => h) (Or.inl ⟨by rfl, ?_⟩) (by assumption) ?_
                rotate_left
                · intro w' hSw
                  (try dsimp only at hSw)
                  go_simp
                  try (with_reducible rfl)
                simp only [Act.put, List.getElem_toArray, List.getElem_cons_zero, List.getElem_cons_succ, List.setIfInBounds_toArray, List.set_cons_zero, List.set_cons_succ]
                refine wpAnyH_ready (rs := [28]) (by kernel_rfl) (by simp) ?_
                refine AllReadyH.cons rfl (fun K hK => ?_) ?_
                · have z0 := HS.out.res3
                  have hsz := HS.out.size
                  go_simp
                  refine hK.out _ _ ?_ (fun hHeld => ?_)
                  · have e9 := EV.out
                    (first | exact ⟨rs_far HS.out.box3 (by simp; try omega), rs_far hcy (by simp; omega)⟩ | exact ⟨rs_farA HSo.out.box3 (by simp; try omega) _, rs_arr hy⟩)
                  clear hK K
                  try simp only [Act.put, List.getElem_toArray, List.getElem_cons_zero, List.getElem_cons_succ, List.setIfInBounds_toArray, List.set_cons_zero, List.set_cons_succ]
                  refine wpAnyH_done (by kernel_rfl) ?_ _
                  go_wp2_with fail
                  first
                    | exact HS.out.fin (by omega) rfl rfl (.inl rfl)
                    | exact HSo.out.fin (by omega) rfl rfl (.inr ⟨_, rfl⟩)
                exact AllReadyH.nil
              exact AllReadyH.nil
            refine AllReadyH.cons rfl (fun K hK => ?_) ?_
            · go_simp
              go_at_call 37
              refine (pick_u B g _ _ _ HS.out.rd (by omega)).mono ?_
              rintro _ w6 ⟨r6, p6, q6, _, rfl, h7, o7⟩
              replace HS := hide (HS.out.only o7 h7)
              clear o7 h7
              have hb3 := HS.out.box3
              have hsz6 := HS.out.size
              go_wp2_with fail
              refine hK.out _ _ HS.out.box3 (fun hHeld => ?_)
              clear hK K
              try simp only [Act.put, List.getElem_toArray, List.getElem_cons_zero, List.getElem_cons_succ, List.setIfInBounds_toArray, List.set_cons_zero, List.set_cons_succ]
              refine wpAnyH_take (i := 24) (v := ?_) rfl (by kernel_rfl) (by kernel_rfl) (by kernel_rfl) (fun _ _ _ h => h) (Or.inl ⟨by rfl, ?_⟩) (by assumption) ?_
              rotate_left
              · intro w' hSw
                (try dsimp only at hSw)
                go_simp
                try (with_reducible rfl)
              simp only [Act.put, List.getElem_toArray, List.getElem_cons_zero, List.getElem_cons_succ, List.setIfInBounds_toArray, List.set_cons_zero, List.set_cons_succ]
              refine wpAnyH_take (i := 25) (v := ?_) rfl (by kernel_rfl) (by kernel_rfl) (by kernel_rfl) (fun _ _ _ h => h) (Or.inl ⟨by rfl, ?_⟩) (by assumption) ?_
              rotate_left
              · intro w' hSw
                (try dsimp only at hSw)
                go_simp
                try (with_reducible rfl)
              simp only [Act.put, List.getElem_toArray, List.getElem_cons_zero, List.getElem_cons_succ, List.setIfInBounds_toArray, List.set_cons_zero, List.set_cons_succ]
              refine wpAnyH_take (i := 26) (v := ?_) rfl (by kernel_rfl) (by kernel_rfl) (by kernel_rfl) (fun _ _ _ h => h) (Or.inl ⟨by rfl, ?_⟩) (by assumption) ?_
              rotate_left
              · intro w' hSw
                (try dsimp only at hSw)
                go_simp
                try (with_reducible rfl)
              simp only [Act.put, List.getElem_toArray, List.getElem_cons_zero, List.getElem_cons_succ, List.setIfInBounds_toArray, List.set_cons_zero, List.set_cons_succ]
              refine wpAnyH_ready (rs := [0]) (by kernel_rfl) (by simp) ?_
              refine AllReadyH.cons rfl (fun K hK => ?_) ?_
              · have HSo := HS
                have zA := HS.out.res3
                have hzA := HS.out.size
                go_simp
                replace HS := hide (HS.out.alloc (.cells #[.int .i64 0, .int .i64 1, .int .i64 2, .int .i64 2, .int .i64 2] 3))
                have BA : Hid (Blk ((w6).alloc (.cells #[.int .i64 0, .int .i64 1, .int .i64 2, .int .i64 2, .int .i64 2] 3)) w6.heap.size 3 #[.int .i64 0, .int .i64 1, .int .i64 2, .int .i64 2, .int .i64 2]) := hide (Blk.new _ _ _)
                have hA := HS.out.box3
                refine hK.out _ _ HS.out.box3 (fun hHeld => ?_)
                clear hK K
                try simp only [Act.put, List.getElem_toArray, List.getElem_cons_zero, List.getElem_cons_succ, List.setIfInBounds_toArray, List.set_cons_zero, List.set_cons_succ]
                have hcy := (Blk.cell BA.out nr).trans hy
                refine wpAnyH_more (T := fun w' => w'.cell? ⟨w.heap.size, 2, none⟩ = some (.slice A n c) ∧ w'.cell? ⟨w6.heap.size, nr, none⟩ = some (.int .i64 y)) (fun _ h => h.1) _ _ _ _ ?_
                replace hHeld := (show ((w6).alloc (.cells #[.int .i64 0, .int .i64 1, .int .i64 2, .int .i64 2, .int .i64 2] 3)).cell? ⟨w.heap.size, 2, none⟩ = some (.slice A n c) ∧ ((w6).alloc (.cells #[.int .i64 0, .int .i64 1, .int .i64 2, .int .i64 2, .int .i64 2] 3)).cell? ⟨w6.heap.size, nr, none⟩ = some (.int .i64 y) from ⟨HS.out.box3, hcy⟩)
                refine wpAnyH_take (i := 3) (v := ?_) rfl (by kernel_rfl) (by kernel_rfl) (by kernel_rfl) (fun _ _ _ h => h) (Or.inl ⟨by rfl, ?_⟩) (by assumption) ?_
                rotate_left
                · intro w' hSw
                  (try dsimp only at hSw)
                  go_simp
                  try (with_reducible rfl)
                simp only [Act.put, List.getElem_toArray, List.getElem_cons_zero, List.getElem_cons_succ, List.setIfInBounds_toArray, List.set_cons_zero, List.set_cons_succ]
                refine wpAnyH_take (i := 4) (v := ?_) rfl (by kernel_rfl) (by kernel_rfl) (by kernel_rfl) (fun _ _ _ h => h) (Or.inl ⟨by rfl, ?_⟩) (by assumption) ?_
                rotate_left
                · intro w' hSw
                  (try dsimp only at hSw)
                  go_simp
                  try (with_reducible rfl)
                simp only [Act.put, List.getElem_toArray, List.getElem_cons_zero, List.getElem_cons_succ, List.setIfInBounds_toArray, List.set_cons_zero, List.set_cons_succ]
                refine wpAnyH_take (i := 9) (v := ?_) rfl (by kernel_rfl) (by kernel_rfl) (by kernel_rfl) (fun _ _ _ h => h) (Or.inl ⟨by rfl, ?_⟩) (by assumption) ?_
                rotate_left
                · intro w' hSw
                  (try dsimp only at hSw)
                  go_simp
                  try (with_reducible rfl)
                simp only [Act.put, List.getElem_toArray, List.getElem_cons_zero, List.getElem_cons_succ, List.setIfInBounds_toArray, List.set_cons_zero, List.set_cons_succ]
                refine wpAnyH_take (i := 27) (v := ?_) rfl (by kernel_rfl) (by kernel_rfl) (by kernel_rfl) (fun _ _ _ h => h) (Or.inl ⟨by rfl, ?_⟩) (by assumption) ?_
                rotate_left
                · intro w' hSw
                  (try dsimp only at hSw)
                  go_simp
                  try (with_reducible rfl)
                simp only [Act.put, List.getElem_toArray, List.getElem_cons_zero, List.getElem_cons_succ, List.setIfInBounds_toArray, List.set_cons_zero, List.set_cons_succ]
                refine wpAnyH_ready (rs := [28]) (by kernel_rfl) (by simp) ?_
                refine AllReadyH.cons rfl (fun K hK => ?_) ?_
                · have z0 := HS.out.res3
                  have hsz := HS.out.size
                  go_simp
                  refine hK.out _ _ ?_ (fun hHeld => ?_)
                  · have e9 := EV.out
                    (first | exact ⟨rs_far HS.out.box3 (by simp; try omega), rs_far hcy (by simp; omega)⟩ | exact ⟨rs_farA HSo.out.box3 (by simp; try omega) _, rs_arr hy⟩)
                  clear hK K
                  try simp only [Act.put, List.getElem_toArray, List.getElem_cons_zero, List.getElem_cons_succ, List.setIfInBounds_toArray, List.set_cons_zero, List.set_cons_succ]
                  refine wpAnyH_done (by kernel_rfl) ?_ _
                  go_wp2_with fail
                  first
                    | exact HS.out.fin (by omega) rfl rfl (.inl rfl)
                    | exact HSo.out.fin (by omega) rfl rfl (.inr ⟨_, rfl⟩)
                exact AllReadyH.nil
              exact AllReadyH.nil
            exact AllReadyH.nil
          exact AllReadyH.nil
        exact AllReadyH.nil
      exact AllReadyH.nil
    exact AllReadyH.nil
  exact AllReadyH.nil

end Go.Proofs.YtgkgdbmmhcdohaaDoor
