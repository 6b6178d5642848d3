/-
  Chapter 32 (rooms): the reference's small helpers.
-/
import Derived.Test.YtgkgdbmmhcdohaaDoorRooms
import Derived.Test.YtgkgdbmmhcdohaaDoorAppAny
import Derived.Deep.RegionHeldLaw
import Derived.Deep.RegionLaw
import Derived.Deep.AppendLies
namespace Go.Proofs.YtgkgdbmmhcdohaaDoor
open Go.RowKit
set_option linter.unusedVariables false

theorem step_apps {ops : Array Oper} {o : Oper} {a : Act} {w : World} {K : Act → World → Prop} {Q : Exit → Act → World → Prop} {E : Prop}
    (hgd : o.guard = none) (s x : Operand) (ho : o.op = .call { callee := .builtin .append, args := #[s, x], argTypes := #[23, 23] })
    (base : Nat) (e0 : Nat) (hs : a.eval s = .slice (some ⟨e0, 0, none⟩) 0 0) (hown : w.ownsRow base 3 1 (.slice (some ⟨e0, 0, none⟩) 0 0) 0 (encI []))
    (B : Nat) (A2 : Option Addr) (c2 : Nat) (ys : List Int) (hx : a.eval x = .slice A2 ys.length c2) (hr : Sl w B 1 A2 ys.length (encI ys))
    (hb : base ≤ w.heap.size) (hp : 0 < ys.length) (hm : ys.length ≤ 1048576)
    (h : ∀ g d w', w'.ownsRow base 3 1 (.slice (some ⟨g, 0, none⟩) ys.length d) ys.length (encI ys) → w.grownBy w' (some e0) → (g = e0 ∨ g = w.heap.size) → K (a.put o.dst (.slice (some ⟨g, 0, none⟩) ys.length d)) w') :
    if Region.wanted o (yielded ops a.tmps) = true then Oper.wp Tryd.prog o a w K Q else E := by
  obtain ⟨i0, hi, hz0, hz1, hz2⟩ := info_parts infoI
  obtain ⟨hl, hr2⟩ := hr
  obtain ⟨g0, off0, rfl, hg0, hc0⟩ := hr2 hp
  refine step_append_lies w hgd s x 23 ho base 3 i0 (.int .i64 0) 1 8 Tryd.underlying23 hi hz0 hz1 hz2 rfl (by decide) (.slice (some ⟨e0, 0, none⟩) 0 0) 0 (encI []) hs hown ⟨g0, off0, none⟩ ys.length c2 (encI ys) hx (by simp [encI]) (fun j u hu => by rw [show (⟨g0, off0, none⟩ : Addr).add j = ⟨g0, off0 + j, none⟩ by unfold Addr.add; split <;> simp_all]; exact hc0 j u hu) (encI_one ys) hp (by unfold maxLen; omega) (by omega) hb _ rfl ?_
  intro g cap w' h1 h2 h3 _
  rw [Nat.zero_add] at h1 ⊢
  exact h g cap w' (by simpa [encI] using h1) h2 (by rcases h3 with h3 | h3; exact .inl (by simpa [Value.ownBlock] using h3.symm); exact .inr h3)

/-- A room's epoch set. -/
def setA (a room e : Int) : Int := if room = 0 then e else a
def setB (b room e : Int) : Int := if room = 0 then b else e

theorem ssetc (w : World) (b o : Nat) (v : Value) : w.grownBy (w.setCell ⟨b, o, none⟩ v) (some b) :=
  ⟨rfl, rfl, rfl, by simp [World.setCell], fun i hi hne => Below.heap_setCell w ⟨b, o, none⟩ v i (fun e => hne (by rw [e]))⟩
theorem own_is {g n d q : Nat} (h : g ≠ q) : (Value.slice (some ⟨g, 0, none⟩) n d).ownBlock ≠ some q := fun he => h (by simpa [Value.ownBlock] using he)
theorem own_setne {w : World} {base e size g n d m p : Nat} {cs : List Value} (ho : w.ownsRow base e size (.slice (some ⟨g, 0, none⟩) n d) m cs) (hn : g ≠ p) (i : Nat) (x : Value) : (w.setCell ⟨p, i, none⟩ x).ownsRow base e size (.slice (some ⟨g, 0, none⟩) n d) m cs := ho.kept (ssetc _ _ _ _) (.inr (own_is hn))
/-- What is kept while rooms are set: the argument's block, the result's block. -/
structure SS (w : World) (a b : Int) (A : Option Addr) (n c : Nat) (wr : World) : Prop where
  box : Blk wr w.heap.size 25 #[.int .i64 a, .int .i64 b, .slice A n c]
  res : Blk wr (w.heap.size + 1) 25 #[.int .i64 0, .int .i64 0, .slice none 0 0]
  below : Below w.heap.size w wr
section
variable {w wr w' : World} {a b : Int} {A : Option Addr} {n c : Nat}
theorem SS.drew (h : SS w a b A n c wr) : SS w a b A n c wr.drew := ⟨h.box, h.res, h.below.drew⟩
theorem SS.alloc (h : SS w a b A n c wr) (o : Obj) : SS w a b A n c (wr.alloc o) := ⟨h.box.alloc o, h.res.alloc o, h.below.alloc h.below.size o⟩
theorem SS.grow {e : Nat} (h : SS w a b A n c wr) (k : wr.grownBy w' (some e)) (he : w.heap.size + 1 < e) : SS w a b A n c w' :=
  ⟨h.box.grown k (fun h => by injection h; omega), h.res.grown k (fun h => by injection h; omega), h.below.trans ⟨k.os, k.tape, k.output, k.size, fun i hi => k.block i (by have := h.below.size; omega) (fun h => by injection h; omega)⟩⟩
theorem SS.set (h : SS w a b A n c wr) (p : Nat) (hp : w.heap.size + 1 < p) (i : Nat) (v : Value) : SS w a b A n c (wr.setCell ⟨p, i, none⟩ v) := h.grow (ssetc _ _ _ _) hp
theorem SS.fin {wf : World} {act : Act} {x y : Int} {D : Option Addr} {m d : Nat} {cs : List Value} {R : Ending → World → Prop} (h : SS w a b A n c wr) (ho : wr.ownsRow w.heap.size 3 1 (.slice D m d) m cs) (hD : (Value.slice D m d).ownBlock ≠ some (w.heap.size + 1))
    (h6 : act.tmps[6]?.getD undef = .pointer (some ⟨w.heap.size + 1, 0, none⟩)) (hd : act.defers = [])
    (hw : wf = (((wr.setCell ⟨w.heap.size + 1, 0, none⟩ (.int .i64 x)).setCell ⟨w.heap.size + 1, 1, none⟩ (.int .i64 y)).setCell ⟨w.heap.size + 1, 2, none⟩ (.slice D m d)) ∨ ∃ o, wf = (((wr.setCell ⟨w.heap.size + 1, 0, none⟩ (.int .i64 x)).setCell ⟨w.heap.size + 1, 1, none⟩ (.int .i64 y)).setCell ⟨w.heap.size + 1, 2, none⟩ (.slice D m d)).alloc o)
    (hR : ∀ w9, w9.ownsRow w.heap.size 3 1 (.slice D m d) m cs → Below w.heap.size w w9 → R (.returned (.agg #[.int .i64 x, .int .i64 y, .slice D m d])) w9) :
    bodyPost Tryd.prog Tryd.f84 R .ret act wf := by
  have hB := ((h.res.set_ 0 (.int .i64 x)).set_ 1 (.int .i64 y)).set_ 2 (.slice D m d)
  have hO := ((ho.kept (ssetc _ (w.heap.size + 1) 0 (.int .i64 x)) (.inr hD)).kept (ssetc _ (w.heap.size + 1) 1 (.int .i64 y)) (.inr hD)).kept (ssetc _ (w.heap.size + 1) 2 (.slice D m d)) (.inr hD)
  have hK := ((h.below.setCell (p := ⟨w.heap.size + 1, 0, none⟩) (by simp) (.int .i64 x)).setCell (p := ⟨w.heap.size + 1, 1, none⟩) (by simp) (.int .i64 y)).setCell (p := ⟨w.heap.size + 1, 2, none⟩) (by simp) (.slice D m d)
  rcases hw with rfl | ⟨o, rfl⟩
  · have p0 := (hB.cell 0).trans (show _ = some (.int .i64 x) by simp)
    have p1 := (hB.cell 1).trans (show _ = some (.int .i64 y) by simp)
    have p2 := (hB.cell 2).trans (show _ = some (.slice D m d) by simp)
    exact bodyPost_ret (v := .agg #[.int .i64 x, .int .i64 y, .slice D m d]) (by simp [results, Tryd.results84, go_sem, h6, p0, p1, p2]) hd (hR _ hO hK)
  · have hB := hB.alloc o
    have p0 := (hB.cell 0).trans (show _ = some (.int .i64 x) by simp)
    have p1 := (hB.cell 1).trans (show _ = some (.int .i64 y) by simp)
    have p2 := (hB.cell 2).trans (show _ = some (.slice D m d) by simp)
    refine bodyPost_ret (v := .agg #[.int .i64 x, .int .i64 y, .slice D m d]) ?_ hd (hR _ (hO.alloc o) (hK.alloc hK.size o))
    exact (by simp [results, Tryd.results84, go_sem, h6, p0, p1, p2])
end

set_option maxRecDepth 8000 in
set_option maxHeartbeats 24000000 in
theorem l32Set_any (a b : Int) (A : Option Addr) (c : Nat) (xs : List Int) (room ep : Int) (w : World) (h : Sl w w.heap.size 1 A xs.length (encI xs)) (hp : 0 < xs.length) (hm : xs.length ≤ 1048576) :
    Calls Tryd.prog 84 #[.agg #[.int .i64 a, .int .i64 b, .slice A xs.length c], .int .i64 room, .int .i64 ep] w fun e w' => ∃ D d, e = .returned (.agg #[.int .i64 (setA a room ep), .int .i64 (setB b room ep), .slice D xs.length d]) ∧ w'.ownsRow w.heap.size 3 1 (.slice D xs.length d) xs.length (encI xs) ∧ Below w.heap.size w w' := by
  obtain ⟨V, hV⟩ : ∃ V, V = ((w.alloc (.cells #[.int .i64 a, .int .i64 b, .slice A xs.length c] 25)).alloc (.cells #[.int .i64 0, .int .i64 0, .slice none 0 0] 25)) := ⟨_, rfl⟩
  have eV : V.heap.size = w.heap.size + 1 + 1 := by rw [hV]; simp
  have HSS : Hid (SS w a b A xs.length c V) := hide ⟨by rw [hV]; exact (Blk.new _ _ _).alloc _, by rw [hV]; simpa using Blk.new (w.alloc (.cells #[.int .i64 a, .int .i64 b, .slice A xs.length c] 25)) 25 #[.int .i64 0, .int .i64 0, .slice none 0 0], by rw [hV]; exact ((Below.refl w.heap.size w).alloc (Nat.le_refl _) _).alloc (by simp) _⟩
  obtain ⟨c0, c1, c2⟩ := HSS.out.box.three
  have HV := hide hV
  have hlV : w.heap.size + 1 < V.heap.size := by omega
  -- the worlds in which the append may come up
  have S1 := hide ((HSS.out.drew.alloc (.cells #[.int .i64 0, .int .i64 0, .slice none 0 0] 25)).alloc (.cells #[] 3))
  have S2 := hide ((HSS.out.drew.alloc (.cells #[] 3)).alloc (.cells #[.int .i64 0, .int .i64 0, .slice none 0 0] 25))
  have S3 := hide (HSS.out.drew.alloc (.cells #[] 3))
  have N1 : Hid (((V.drew.alloc (.cells #[.int .i64 0, .int .i64 0, .slice none 0 0] 25)).alloc (.cells #[] 3)).ownsRow (V.heap.size + 1) 3 1 (.slice (some ⟨V.heap.size + 1, 0, none⟩) 0 0) 0 (encI [])) := hide (by simpa [encI] using World.ownsRow_lit (base := V.heap.size + 1) (e := 3) (size := 1) (V.drew.alloc (.cells #[.int .i64 0, .int .i64 0, .slice none 0 0] 25)) #[] 0 (by simp) (Nat.zero_le _) rfl)
  have N3 : Hid ((V.drew.alloc (.cells #[] 3)).ownsRow V.heap.size 3 1 (.slice (some ⟨V.heap.size, 0, none⟩) 0 0) 0 (encI [])) := hide (by simpa [encI] using World.ownsRow_lit (base := V.heap.size) (e := 3) (size := 1) V.drew #[] 0 (by simp) (Nat.zero_le _) rfl)
  have N2 := hide (N3.out.alloc (.cells #[.int .i64 0, .int .i64 0, .slice none 0 0] 25))
  have T1 := hide ((Blk.new V.drew 25 #[.int .i64 0, .int .i64 0, .slice none 0 0]).alloc (.cells #[] 3))
  have T2 : Hid (Blk ((V.drew.alloc (.cells #[] 3)).alloc (.cells #[.int .i64 0, .int .i64 0, .slice none 0 0] 25)) (V.heap.size + 1) 25 #[.int .i64 0, .int .i64 0, .slice none 0 0]) := hide (by simpa using Blk.new (V.drew.alloc (.cells #[] 3)) 25 #[.int .i64 0, .int .i64 0, .slice none 0 0])
  have H1 := hide (h.below S1.out.below)
  have H2 := hide (h.below S2.out.below)
  have H3 := hide (h.below S3.out.below)
  have G1 : Hid (∀ w7, ((V.drew.alloc (.cells #[.int .i64 0, .int .i64 0, .slice none 0 0] 25)).alloc (.cells #[] 3)).grownBy w7 (some (V.heap.size + 1)) → Blk w7 V.heap.size 25 #[.int .i64 0, .int .i64 0, .slice none 0 0] ∧ Hid (SS w a b A xs.length c w7) ∧ w.heap.size + 1 < V.heap.size ∧ Hid (∀ g, (g = V.heap.size + 1 ∨ g = ((V.drew.alloc (.cells #[.int .i64 0, .int .i64 0, .slice none 0 0] 25)).alloc (.cells #[] 3)).heap.size) → g ≠ V.heap.size)) := hide fun w7 k => ⟨T1.out.grown k (fun he => by injection he with he; have e9 : V.drew.heap.size = V.heap.size := rfl; omega), hide (S1.out.grow k (by omega)), hlV, hide (fun g hg => by rcases hg with hg | hg; omega; simp at hg; omega)⟩
  have G2 : Hid (∀ w7, ((V.drew.alloc (.cells #[] 3)).alloc (.cells #[.int .i64 0, .int .i64 0, .slice none 0 0] 25)).grownBy w7 (some V.heap.size) → Blk w7 (V.heap.size + 1) 25 #[.int .i64 0, .int .i64 0, .slice none 0 0] ∧ Hid (SS w a b A xs.length c w7) ∧ w.heap.size + 1 < V.heap.size + 1 ∧ Hid (∀ g, (g = V.heap.size ∨ g = ((V.drew.alloc (.cells #[] 3)).alloc (.cells #[.int .i64 0, .int .i64 0, .slice none 0 0] 25)).heap.size) → g ≠ V.heap.size + 1)) := hide fun w7 k => ⟨T2.out.grown k (fun he => by injection he with he; omega), hide (S2.out.grow k (by omega)), by omega, hide (fun g hg => by rcases hg with hg | hg; omega; simp at hg; omega)⟩
  have G3 : Hid (∀ w7, (V.drew.alloc (.cells #[] 3)).grownBy w7 (some V.heap.size) → Hid (SS w a b A xs.length c w7)) := hide fun w7 k => hide (S3.out.grow k (by omega))
  have B1 : Hid (V.heap.size + 1 ≤ ((V.drew.alloc (.cells #[.int .i64 0, .int .i64 0, .slice none 0 0] 25)).alloc (.cells #[] 3)).heap.size) := hide (by simp)
  have B2 : Hid (V.heap.size ≤ ((V.drew.alloc (.cells #[] 3)).alloc (.cells #[.int .i64 0, .int .i64 0, .slice none 0 0] 25)).heap.size) := hide (by simp; omega)
  have B3 : Hid (V.heap.size ≤ (V.drew.alloc (.cells #[] 3)).heap.size) := hide (by simp)
  have EV := hide eV
  clear h eV
  go_enter Tryd.func84, Tryd.ntmps84
  go_wp2_with fail
  rw [← HV.out]
  clear hV
  go_region_held_law (fun w' => w'.cell? ⟨w.heap.size, 0, none⟩ = some (.int .i64 a) ∧ w'.cell? ⟨w.heap.size, 1, none⟩ = some (.int .i64 b) ∧ w'.cell? ⟨w.heap.size, 2, none⟩ = some (.slice A xs.length c))
    (refine ⟨?_, ?_, ?_⟩ <;> first | assumption | go_keep | (go_simp; done))
    (first
      | (refine step_apps rfl (.tmp 12) (.tmp 14) rfl (V.heap.size + 1) (V.heap.size + 1) rfl N1.out w.heap.size A c xs rfl H1.out B1.out hp hm ?_; intro g d2 w7 ho7 hg7 hor; obtain ⟨T7, S7, hp9, hne⟩ := G1.out w7 hg7; have hn9 := hne.out g hor; obtain ⟨t70, t71, t72⟩ := T7.three; have f70 := T7.frozen 0; have f71 := T7.frozen 1; have f72 := T7.frozen 2; obtain ⟨v0, v1, v2⟩ := S7.out.box.three; obtain ⟨r70, r71, r72⟩ := S7.out.res.three; have g70 := S7.out.res.frozen 0; have g71 := S7.out.res.frozen 1; have g72 := S7.out.res.frozen 2; have hs7 := S7.out.res.lt)
      | (refine step_apps rfl (.tmp 12) (.tmp 14) rfl V.heap.size V.heap.size rfl N2.out w.heap.size A c xs rfl H2.out B2.out hp hm ?_; intro g d2 w7 ho7 hg7 hor; obtain ⟨T7, S7, hp9, hne⟩ := G2.out w7 hg7; have hn9 := hne.out g hor; obtain ⟨t70, t71, t72⟩ := T7.three; have f70 := T7.frozen 0; have f71 := T7.frozen 1; have f72 := T7.frozen 2; obtain ⟨v0, v1, v2⟩ := S7.out.box.three; obtain ⟨r70, r71, r72⟩ := S7.out.res.three; have g70 := S7.out.res.frozen 0; have g71 := S7.out.res.frozen 1; have g72 := S7.out.res.frozen 2; have hs7 := S7.out.res.lt)
      | (refine step_apps rfl (.tmp 12) (.tmp 14) rfl V.heap.size V.heap.size rfl N3.out w.heap.size A c xs rfl H3.out B3.out hp hm ?_; intro g d2 w7 ho7 hg7 hor; have S7 := G3.out w7 hg7; obtain ⟨v0, v1, v2⟩ := S7.out.box.three; obtain ⟨r70, r71, r72⟩ := S7.out.res.three; have g70 := S7.out.res.frozen 0; have g71 := S7.out.res.frozen 1; have g72 := S7.out.res.frozen 2; have hs7 := S7.out.res.lt))
  all_goals
    have hg9 := (ho7.lt g rfl).1
    have hx9 : g ≠ w.heap.size + 1 := by omega
    have ho9 := own_mono ho7 (show w.heap.size ≤ _ by omega)
    by_cases hr : room = 0
    · subst hr
      go_wp2_with fail
      first
        | exact SS.fin ((((S7.out.set _ hp9 _ _).set _ hp9 _ _).set _ hp9 _ _).set _ hp9 _ _) (own_setne (own_setne (own_setne (own_setne ho9 hn9 _ _) hn9 _ _) hn9 _ _) hn9 _ _) (own_is hx9) rfl rfl (.inl rfl) (fun w9 h9 k9 => ⟨some ⟨g, 0, none⟩, d2, by simp [setA, setB], h9, k9⟩)
        | exact S7.out.fin ho9 (own_is hx9) rfl rfl (.inr ⟨_, rfl⟩) (fun w9 h9 k9 => ⟨some ⟨g, 0, none⟩, d2, by simp [setA, setB], h9, k9⟩)
    · have hr1 : (room == 0) = false := by simp [hr]
      (first | (have TB := ((((T7.set_ 0 (.int .i64 a)).set_ 1 (.int .i64 b)).set_ 2 (.slice (some ⟨g, 0, none⟩) xs.length d2)).set_ 1 (.int .i64 ep)); have y0 := (TB.cell 0).trans (show _ = some (.int .i64 a) by simp); have y1 := (TB.cell 1).trans (show _ = some (.int .i64 ep) by simp); have y2 := (TB.cell 2).trans (show _ = some (.slice (some ⟨g, 0, none⟩) xs.length d2) by simp)) | skip)
      go_wp2_with fail
      first
        | exact SS.fin ((((S7.out.set _ hp9 _ _).set _ hp9 _ _).set _ hp9 _ _).set _ hp9 _ _) (own_setne (own_setne (own_setne (own_setne ho9 hn9 _ _) hn9 _ _) hn9 _ _) hn9 _ _) (own_is hx9) rfl rfl (.inl rfl) (fun w9 h9 k9 => ⟨some ⟨g, 0, none⟩, d2, by simp [setA, setB, hr], h9, k9⟩)
        | exact S7.out.fin ho9 (own_is hx9) rfl rfl (.inr ⟨_, rfl⟩) (fun w9 h9 k9 => ⟨some ⟨g, 0, none⟩, d2, by simp [setA, setB, hr], h9, k9⟩)

end Go.Proofs.YtgkgdbmmhcdohaaDoor
