/-
  The reference's drawing of rooms.
-/
import Derived.Test.YtgkgdbmmhcdohaaDoorRoomsQ
import Derived.Test.YtgkgdbmmhcdohaaDoorAppAny
import Derived.Deep.AppendLies
import Derived.Deep.RegionLaw
import Derived.Deep.RegionHeld3
import Derived.Test.YtgkgdbmmhcdohaaDoorMore
namespace Go.Proofs.YtgkgdbmmhcdohaaDoor
open Go.RowKit
set_option linter.unusedVariables false

theorem step_app1r {ops : Array Oper} {o : Oper} {a : Act} {w : World} {K : Act → World → Prop} {Q : Exit → Act → World → Prop} {E : Prop}
    (hgd : o.guard = none) (s x : Operand) (ho : o.op = .call { callee := .builtin .append, args := #[s, x], argTypes := #[23, 23] })
    (base : Nat) (A : Option Addr) (n c : Nat) (ord : List Int) (k : Int) (hs : a.eval s = .slice A n c) (hown : w.ownsRow base 3 1 (.slice A n c) n (encI ord)) (H : Nat) (hB : Blk w H 3 #[.int .i64 k]) (hx : a.eval x = .slice (some ⟨H, 0, none⟩) 1 1)
    (hb : base ≤ w.heap.size) (hn : n ≤ 1048576)
    (h : ∀ g cap w', w'.ownsRow base 3 1 (.slice (some ⟨g, 0, none⟩) (n + 1) cap) (n + 1) (encI (ord ++ [k])) → w.grownBy w' (Value.slice A n c).ownBlock → K (a.put o.dst (.slice (some ⟨g, 0, none⟩) (n + 1) cap)) w') :
    if Region.wanted o (yielded ops a.tmps) = true then Oper.wp Tryd.prog o a w K Q else E := by
  obtain ⟨i0, hi, hz0, hz1, hz2⟩ := info_parts infoI
  refine step_append_lies w hgd s x 23 ho base 3 i0 (.int .i64 0) 1 8 Tryd.underlying23 hi hz0 hz1 hz2 rfl (by decide) (.slice A n c) n (encI ord) hs hown ⟨H, 0, none⟩ 1 1 (encI [k]) hx rfl (fun j u hu => World.news_of_block (cs := #[.int .i64 k]) hB j u (by simpa [encI] using hu)) (encI_one _) (by omega) (by unfold maxLen; omega) (by omega) hb _ rfl ?_
  intro g cap w' h1 h2 _ _
  exact h g cap w' (by rw [show encI (ord ++ [k]) = encI ord ++ encI [k] by simp [encI]]; exact h1) h2

theorem arr3_at (x y z : Int) {r : Int} (h0 : 0 ≤ r) (h1 : r < 3) : ∃ (k : Nat) (v : Int), r = k ∧ (#[.int .i64 x, .int .i64 y, .int .i64 z] : Array Value)[k]? = some (.int .i64 v) := by
  rcases (by omega : r = 0 ∨ r = 1 ∨ r = 2) with rfl | rfl | rfl
  · exact ⟨0, x, rfl, rfl⟩
  · exact ⟨1, y, rfl, rfl⟩
  · exact ⟨2, z, rfl, rfl⟩
theorem own_some {w : World} {base e d : Nat} {xs : List Int} {D : Option Addr} (h : w.ownsRow base e 1 (.slice D xs.length d) xs.length (encI xs)) (hl : 1 ≤ xs.length) : ∃ q, D = some ⟨q, 0, none⟩ := by
  obtain ⟨q, cap, hq, _⟩ := h.form hl
  injection hq with hq _ _
  exact ⟨q, hq⟩
theorem st_cell {w : World} {base e d q : Nat} {xs : List Int} (h : w.ownsRow base e 1 (.slice (some ⟨q, 0, none⟩) xs.length d) xs.length (encI xs)) (hl : 1 ≤ xs.length) : ∃ x, w.cell? ⟨q, 0, none⟩ = some (.int .i64 x) := by
  have := h.cellAt 0 (by omega)
  rw [show (encI xs)[0]? = some (.int .i64 (at_ xs 0)) by simp only [encI, List.getElem?_map]; rw [at_eq xs 0 (by omega)]; simp [List.getElem?_eq_getElem (show 0 < xs.length by omega)]] at this
  exact ⟨_, this⟩
theorem own_off {v : Value} {q N : Nat} (h : ∀ k, v.ownBlock = some k → N ≤ k) (hq : q < N) : v.ownBlock = none ∨ v.ownBlock ≠ some q := by
  cases hv : v.ownBlock with
  | none => exact .inl rfl
  | some k => exact .inr fun he => by have := h k hv; injection he; omega
theorem QS.far1 {B g P p d : Nat} {w wr : World} {a b : Int} {xs : List Int} {D : Option Addr} (h : QS B g P w p a b xs D d wr) {q : Nat} (hq : p < q) (hD : (Value.slice D xs.length d).ownBlock ≠ some q) (o : Nat) (v : Value) : QS B g P w p a b xs D d (wr.setCell ⟨q, o, none⟩ v) :=
  ⟨h.blk.far (p := ⟨q, o, none⟩) (by simp; omega) _, h.res.far (p := ⟨q, o, none⟩) (by have := h.lt; simp; omega) _, h.own.kept (ssetc _ _ _ _) (.inr hD), h.rd.grown (ssetc _ _ _ _) (fun k hk => by injection hk with hk; have := h.lt; omega), grown_step h.grow (ssetc _ _ _ _) (fun k hk => by injection hk with hk; have := h.lt; omega), h.lt⟩
theorem QS.far3 {B g P p d : Nat} {w wr : World} {a b : Int} {xs : List Int} {D : Option Addr} (h : QS B g P w p a b xs D d wr) {q : Nat} (hq : p < q) (hD : (Value.slice D xs.length d).ownBlock ≠ some q) (x y z : Value) : QS B g P w p a b xs D d (((wr.setCell ⟨q, 0, none⟩ x).setCell ⟨q, 1, none⟩ y).setCell ⟨q, 2, none⟩ z) :=
  ((h.far1 hq hD 0 x).far1 hq hD 1 y).far1 hq hD 2 z

set_option maxRecDepth 8000 in
set_option maxHeartbeats 8000000 in
theorem l20Rooms_any (B g P : Nat) (n : Int) (w : World) (h : RdU B w g P) (hp : P ≤ 500) (hn : n ≤ 1000000) :
    Calls Tryd.prog 30 #[.pointer (some ⟨g, 0, none⟩), .int .i64 n] w (DrawnR B g (P + 110) w) := by
  have hgw := h.lt
  have ST0 : Hid (QS B g P w (w.heap.size + 1) 0 1 [] none 0 ((w.alloc (.cells #[.int .i64 0, .int .i64 0, .slice none 0 0] 25)).alloc (.cells #[.int .i64 0, .int .i64 1, .slice none 0 0] 25))) := hide (by
    have q := QS.first (B := B) (g := g) (P := P) (w := w) (a := 0) (b := 1) (wr := w.alloc (.cells #[.int .i64 0, .int .i64 0, .slice none 0 0] 25)) (h.grown (World.grownBy_alloc w (.cells #[.int .i64 0, .int .i64 0, .slice none 0 0] 25) none) (fun k hk => by cases hk)) (grown_alloc (World.grownBy.refl w (some g)) _) (Blk.new _ _ _) hgw
    rw [World.size_alloc] at q
    exact q)
  clear h
  go_enter Tryd.func30, Tryd.ntmps30
  go_wp2_with fail
  refine (pick_u B g P 6 _ ST0.out.rd (by omega)).mono ?_
  rintro e w1 ⟨u, u1, u2, _, rfl, h1, o1⟩
  have ST1 := hide (ST0.out.only o1 h1)
  clear u2 h1 o1 ST0
  have hlt := ST1.out.lt
  generalize hpe : w.heap.size + 1 = p at *
  by_cases hu : u = 0
  · subst hu
    have c0 := ST1.out.blk.cell 0
    have f0 := ST1.out.blk.frozen 0
    have ST2 := hide (ST1.out.set0 90)
    go_wp2_with fail
    refine (pick_u B g _ 3 _ ST2.out.rd (by omega)).mono ?_
    rintro e w2 ⟨v, v1, v2, _, rfl, h1, o1⟩
    have v3 := v2 (by omega)
    have ST3 := hide (ST2.out.only o1 h1)
    clear v2 h1 o1 ST1 ST2 c0 f0
    have c1 := ST3.out.blk.cell 1
    have f1 := ST3.out.blk.frozen 1
    have ST := hide (ST3.out.set1 (93 + v / 2 * 4))
    go_wp2_with fail
    generalize hbe : 93 + v / 2 * 4 = b at *
    have hb1 : 93 ≤ b ∧ b ≤ 97 ∧ b % 2 = 1 := by omega
    clear hbe c1 f1 ST3
    refine (pick_u B g _ 5 _ ST.out.rd (by omega)).mono ?_
    rintro e w4 ⟨m0', u1, u2, _, rfl, h2, o2⟩
    have u3 := u2 (by omega)
    have ST4 := hide (ST.out.only o2 h2)
    clear u2 h2 o2 ST
    obtain ⟨m0, rfl⟩ := Int.eq_ofNat_of_zero_le u1
    have hm0 : (1 : Int) + m0 = (m0 + 1 : Nat) := by omega
    go_wp2_with fail
    go_loopw [6] (fun k wr => ∃ (xs : List Int) (D : Option Addr) (d : Nat) (m : Nat), k = .int .i64 m ∧ xs.length + m ≤ 5 ∧ 1 ≤ xs.length + m ∧ (∀ e ∈ xs, e = 0 ∨ e = 1) ∧ QS B g (P + 3 + xs.length) w p 90 b xs D d wr) (fun k _ => (intOf k).toNat)
    case atStart => exact ⟨[], none, 0, m0 + 1, (by simp), (by simp; omega), (by simp), (fun e he => (by cases he)), ST4.out.more (by simp)⟩
    case round =>
      obtain ⟨xs, D, d, m, rfl, hl, hl1, he, hst⟩ := hrel
      have HE := hide he
      have ST := hide hst
      have c2 := hst.blk.cell 2
      replace c2 : wr.cell? ⟨p, 2, none⟩ = some (.slice D xs.length d) := c2
      clear hst he ST4
      by_cases hm : 0 < m
      · have hs6 := ST.out.size
        go_wp2_with fail
        go_region_law (first | (refine step_app1r rfl (.tmp 29) (.tmp 32) rfl (p + 1) D xs.length d xs _ (by simp [Act.eval]) (ST7.out.alloc _).own _ (Blk.new _ _ _) (by simp [Act.eval]) ?_ ?_ ?_; exact (ST7.out.alloc _).size; omega; intro gq cap w8 ho8 hg8; obtain ⟨v8, f8⟩ := (ST7.out.alloc _).app_cell hg8; have ST9 := hide (QS.app (ST7.out.alloc _) (by simp) hg8 ho8)) | (go_simp; go_at_call 37; refine (pick_u B g (P + 3 + xs.length) _ _ ?_ ?_).mono ?_; exact ST.out.drew.rd; omega; rintro _ w7 ⟨r, r1, r2, _, rfl, h7, o7⟩; have r3 : r < 2 := r2 (by decide); have ST7 := hide (ST.out.drew.only o7 h7); have v0 : w7.cell? ⟨p, 2, none⟩ = some (.slice D xs.length d) := ST7.out.blk.cell 2; have hs7 := ST7.out.size; have HR := hide (show r = 0 ∨ r = 1 by omega)))
        all_goals go_wp2_with fail
        all_goals exact ⟨⟨xs ++ [_], _, _, m - 1, by go_num, by simp; omega, by simp; omega, fun e he => by rcases List.mem_append.1 he with he | he; exact HE.out e he; rw [List.mem_singleton] at he; rw [he]; exact HR.out, ST9.out.more (by simp; omega)⟩, by simp [intOf]; omega⟩
      · have HV := hide (show roomsB 90 b xs = true from rooms_mk (by omega) (by omega) (by omega) (by omega) (by omega) (by omega) (by omega) (by omega) (fun e he => by rcases HE.out e he with rfl | rfl; exact ⟨by omega, fun _ => by omega, fun h => by omega⟩; exact ⟨by omega, fun h => by omega, fun _ => by omega⟩))
        clear HE
        go_wp2_with fail
        refine (pick_u B g _ 14 _ ST.out.rd (by omega)).mono ?_
        rintro e w5 ⟨k0', u1, u2, _, rfl, h2, o2⟩
        have u3 := u2 (by omega)
        have ST5 := hide (ST.out.only o2 h2)
        clear u2 h2 o2 ST c2
        obtain ⟨k0, rfl⟩ := Int.eq_ofNat_of_zero_le u1
        go_wp2_with fail
        go_loopw [7, 8, 9] (fun k _ _ wr => ∃ (a b : Int) (xs : List Int) (D : Option Addr) (d : Nat) (m : Nat), k = .int .i64 m ∧ m ≤ 13 ∧ roomsB a b xs = true ∧ QS B g (P + 9 + 6 * (13 - m)) w p a b xs D d wr) (fun k _ _ _ => (intOf k).toNat)
        case atStart => exact ⟨_, _, xs, _, _, k0, rfl, by omega, HV.out, ST5.out.more (by omega)⟩
        case round =>
          clear ST5 HV
          obtain ⟨a, b, xs, D, d, m, rfl, hl, hv, hst⟩ := hrel
          have HV := hide hv
          have ST := hide hst
          obtain ⟨c0, c1, c2⟩ := hst.blk.three
          clear hst hv
          by_cases hm : 0 < m
          · go_wp2_with fail
            have HL := hide (show 1 ≤ xs.length ∧ xs.length ≤ 5 from ⟨(rooms_parts HV.out).2.2.2.2.2.2.1, (rooms_parts HV.out).2.2.2.2.2.2.2.1⟩)
            have hs0 := ST.out.size
            refine wp_region_held_drew (S := fun w' => w'.cell? ⟨p, 0, none⟩ = some (.int .i64 a) ∧ w'.cell? ⟨p, 1, none⟩ = some (.int .i64 b) ∧ w'.cell? ⟨p, 2, none⟩ = some (.slice D xs.length d)) (by kernel_rfl) ⟨c0, c1, c2⟩ (fun hHeld => ?_)
            refine wpAnyH_take (i := 0) (v := ?_) rfl (by kernel_rfl) (by kernel_rfl) (by kernel_rfl) (fun _ _ _ h => h) (Or.inl ⟨by rfl, ?_⟩) (by assumption) ?_
            rotate_left
            · intro w' hSw
              (try dsimp only at hSw)
              go_simp
              try (with_reducible rfl)
            simp only [Act.put, List.getElem_toArray, List.getElem_cons_zero, List.setIfInBounds_toArray, List.set_cons_zero, List.set_cons_succ]
            refine wpAnyH_take (i := 1) (v := ?_) rfl (by kernel_rfl) (by kernel_rfl) (by kernel_rfl) (fun _ _ _ h => h) (Or.inl ⟨by rfl, ?_⟩) (by assumption) ?_
            rotate_left
            · intro w' hSw
              (try dsimp only at hSw)
              go_simp
              try (with_reducible rfl)
            simp only [Act.put, List.getElem_toArray, List.getElem_cons_zero, List.getElem_cons_succ, List.setIfInBounds_toArray, List.set_cons_zero, List.set_cons_succ]
            refine wpAnyH_take (i := 2) (v := ?_) rfl (by kernel_rfl) (by kernel_rfl) (by kernel_rfl) (fun _ _ _ h => h) (Or.inl ⟨by rfl, ?_⟩) (by assumption) ?_
            rotate_left
            · intro w' hSw
              (try dsimp only at hSw)
              go_simp
              try (with_reducible rfl)
            simp only [Act.put, List.getElem_toArray, List.getElem_cons_zero, List.getElem_cons_succ, List.setIfInBounds_toArray, List.set_cons_zero, List.set_cons_succ]
            refine wpAnyH_ready (rs := [3, 8]) (by kernel_rfl) (by simp) ?_
            refine AllReadyH.cons rfl (fun K hK => ?_) ?_
            · go_simp
              go_at_call 60
              refine (l20RoomDeed_any B g _ a b D xs.length d _ ST.out.drew.rd (by omega) HL.out.1 HL.out.2).mono ?_
              rintro _ w6 ⟨k6, r6, s6, rfl, h6, o6⟩
              have ST6 := hide (ST.out.drew.grown o6 h6)
              have hs6 := ST6.out.size
              clear o6 h6
              go_wp2_with fail
              refine hK.out _ _ ST6.out.blk.three (fun hHeld => ?_)
              clear hK K
              try simp only [Act.put, List.getElem_toArray, List.getElem_cons_zero, List.getElem_cons_succ, List.setIfInBounds_toArray, List.set_cons_zero, List.set_cons_succ]
              refine wpAnyH_ready (rs := [4, 8]) (by kernel_rfl) (by simp) ?_
              refine AllReadyH.cons rfl (fun K hK => ?_) ?_
              · go_simp
                go_at_call 59
                refine (RoomsDo_any a b D d xs k6 r6 s6 _ (Sl.of_own ST6.out.own) HV.out).mono ?_
                rintro _ w7 ⟨a7, b7, ys, D7, d7, ok7, hv7, rfl, ho7, hb7⟩
                have ST7 := hide (ST6.out.to hb7)
                have HO7 := hide (own_mono ho7 (show p + 1 ≤ _ from ST6.out.size))
                have HV7 := hide hv7
                have hs7 := ST7.out.size
                clear ho7 hb7 hv7
                go_wp2_with fail
                refine hK.out _ _ ST7.out.blk.three (fun hHeld => ?_)
                clear hK K
                try simp only [Act.put, List.getElem_toArray, List.getElem_cons_zero, List.getElem_cons_succ, List.setIfInBounds_toArray, List.set_cons_zero, List.set_cons_succ]
                refine wpAnyH_take (i := 5) (v := ?_) rfl (by kernel_rfl) (by kernel_rfl) (by kernel_rfl) (fun _ _ _ h => h) (Or.inl ⟨by rfl, ?_⟩) (by assumption) ?_
                rotate_left
                · intro w' hSw
                  (try dsimp only at hSw)
                  go_simp
                  try (with_reducible rfl)
                simp only [Act.put, List.getElem_toArray, List.getElem_cons_zero, List.getElem_cons_succ, List.setIfInBounds_toArray, List.set_cons_zero, List.set_cons_succ]
                refine wpAnyH_take (i := 6) (v := ?_) rfl (by kernel_rfl) (by kernel_rfl) (by kernel_rfl) (fun _ _ _ h => h) (Or.inl ⟨by rfl, ?_⟩) (by assumption) ?_
                rotate_left
                · intro w' hSw
                  (try dsimp only at hSw)
                  go_simp
                  try (with_reducible rfl)
                simp only [Act.put, List.getElem_toArray, List.getElem_cons_zero, List.getElem_cons_succ, List.setIfInBounds_toArray, List.set_cons_zero, List.set_cons_succ]
                refine wpAnyH_take (i := 7) (v := ?_) rfl (by kernel_rfl) (by kernel_rfl) (by kernel_rfl) (fun _ _ _ h => h) (Or.inl ⟨by rfl, ?_⟩) (by assumption) ?_
                rotate_left
                · intro w' hSw
                  (try dsimp only at hSw)
                  go_simp
                  try (with_reducible rfl)
                simp only [Act.put, List.getElem_toArray, List.getElem_cons_zero, List.getElem_cons_succ, List.setIfInBounds_toArray, List.set_cons_zero, List.set_cons_succ]
                refine wpAnyH_ready (rs := [8]) (by kernel_rfl) (by simp) ?_
                refine AllReadyH.cons rfl (fun K hK => ?_) ?_
                · go_simp
                  have STA := hide (ST7.out.alloc (.cells #[.int .i64 0, .int .i64 0, .slice none 0 0] 25))
                  have BT : Hid (Blk (w7.alloc (.cells #[.int .i64 0, .int .i64 0, .slice none 0 0] 25)) w7.heap.size 25 #[.int .i64 0, .int .i64 0, .slice none 0 0]) := hide (Blk.new _ _ _)
                  refine hK.out _ _ STA.out.blk.three (fun hHeld => ?_)
                  clear hK K
                  try simp only [Act.put, List.getElem_toArray, List.getElem_cons_zero, List.getElem_cons_succ, List.setIfInBounds_toArray, List.set_cons_zero, List.set_cons_succ]
                  refine wpAnyH_ready (rs := [9]) (by kernel_rfl) (by simp) ?_
                  refine AllReadyH.cons rfl (fun K hK => ?_) ?_
                  · obtain ⟨x0, x1, x2⟩ := BT.out.three
                    have y0 := BT.out.frozen 0
                    have y1 := BT.out.frozen 1
                    have y2 := BT.out.frozen 2
                    have hpq : p < w7.heap.size := by first | omega | (have := ST.out.size; omega)
                    have hpn : ¬ (w7.heap.size = p) := by omega
                    have STB := hide (ST7.out.alloc (.cells #[.int .i64 a7, .int .i64 b7, .slice D7 ys.length d7] 25))
                    have HOB := hide (HO7.out.alloc (.cells #[.int .i64 a7, .int .i64 b7, .slice D7 ys.length d7] 25))
                    have BTB := hide (Blk.new w7 25 #[.int .i64 a7, .int .i64 b7, .slice D7 ys.length d7])
                    go_simp
                    refine hK.out _ _ STB.out.blk.three (fun hHeld => ?_)
                    clear hK K x0 x1 x2 y0 y1 y2
                    try simp only [Act.put, List.getElem_toArray, List.getElem_cons_zero, List.getElem_cons_succ, List.setIfInBounds_toArray, List.set_cons_zero, List.set_cons_succ]
                    refine wpAnyH_take (i := 10) (v := ?_) rfl (by kernel_rfl) (by kernel_rfl) (by kernel_rfl) (fun _ _ _ h => h) (Or.inl ⟨by rfl, ?_⟩) (by assumption) ?_
                    rotate_left
                    · intro w' hSw
                      (try dsimp only at hSw)
                      go_simp
                      try (with_reducible rfl)
                    simp only [Act.put, List.getElem_toArray, List.getElem_cons_zero, List.getElem_cons_succ, List.setIfInBounds_toArray, List.set_cons_zero, List.set_cons_succ]
                    refine wpAnyH_done (by kernel_rfl) ?_ _
                    have x0 := (BTB.out.cell 0).trans (show _ = some (.int .i64 a7) by simp)
                    have x1 := (BTB.out.cell 1).trans (show _ = some (.int .i64 b7) by simp)
                    have x2 := (BTB.out.cell 2).trans (show _ = some (.slice D7 ys.length d7) by simp)
                    obtain ⟨y0, y1, y2⟩ := STB.out.blk.three
                    have z0 := STB.out.blk.frozen 0
                    have z1 := STB.out.blk.frozen 1
                    have z2 := STB.out.blk.frozen 2
                    have z3 := ST7.out.blk.frozen 0
                    have z4 := ST7.out.blk.frozen 1
                    have z5 := ST7.out.blk.frozen 2
                    obtain ⟨y3, y4, y5⟩ := ST7.out.blk.three
                    go_wp2_with fail
                    first
                      | exact ⟨⟨a7, b7, ys, D7, d7, m - 1, (by go_num), (by omega), HV7.out, (STB.out.put HOB.out).more (by omega)⟩, (by simp [intOf]; omega)⟩
                      | exact ⟨⟨a7, b7, ys, D7, d7, m - 1, (by go_num), (by omega), HV7.out, ((ST7.out.put HO7.out).alloc _).more (by omega)⟩, (by simp [intOf]; omega)⟩
                  exact AllReadyH.nil
                exact AllReadyH.nil
              refine AllReadyH.cons rfl (fun K hK => ?_) ?_
              · go_simp
                have STA := hide (ST6.out.alloc (.cells #[.int .i64 0, .int .i64 0, .slice none 0 0] 25))
                have BT : Hid (Blk (w6.alloc (.cells #[.int .i64 0, .int .i64 0, .slice none 0 0] 25)) w6.heap.size 25 #[.int .i64 0, .int .i64 0, .slice none 0 0]) := hide (Blk.new _ _ _)
                refine hK.out _ _ STA.out.blk.three (fun hHeld => ?_)
                clear hK K
                try simp only [Act.put, List.getElem_toArray, List.getElem_cons_zero, List.getElem_cons_succ, List.setIfInBounds_toArray, List.set_cons_zero, List.set_cons_succ]
                refine wpAnyH_ready (rs := [4]) (by kernel_rfl) (by simp) ?_
                refine AllReadyH.cons rfl (fun K hK => ?_) ?_
                · go_simp
                  go_at_call 59
                  refine (RoomsDo_any a b D d xs k6 r6 s6 _ (Sl.of_own STA.out.own) HV.out).mono ?_
                  rintro _ w7 ⟨a7, b7, ys, D7, d7, ok7, hv7, rfl, ho7, hb7⟩
                  have ST7 := hide (STA.out.to hb7)
                  have HO7 := hide (own_mono ho7 (show p + 1 ≤ _ from STA.out.size))
                  have HN7 := hide (fun k hk => (ho7.lt k hk).1 : ∀ k, (Value.slice D7 ys.length d7).ownBlock = some k → _ ≤ k)
                  have hq7 := BT.out.lt
                  replace BT := hide (BT.out.to hb7)
                  have HV7 := hide hv7
                  have hs7 := ST7.out.size
                  clear ho7 hb7 hv7
                  go_wp2_with fail
                  refine hK.out _ _ ST7.out.blk.three (fun hHeld => ?_)
                  clear hK K
                  try simp only [Act.put, List.getElem_toArray, List.getElem_cons_zero, List.getElem_cons_succ, List.setIfInBounds_toArray, List.set_cons_zero, List.set_cons_succ]
                  refine wpAnyH_take (i := 5) (v := ?_) rfl (by kernel_rfl) (by kernel_rfl) (by kernel_rfl) (fun _ _ _ h => h) (Or.inl ⟨by rfl, ?_⟩) (by assumption) ?_
                  rotate_left
                  · intro w' hSw
                    (try dsimp only at hSw)
                    go_simp
                    try (with_reducible rfl)
                  simp only [Act.put, List.getElem_toArray, List.getElem_cons_zero, List.getElem_cons_succ, List.setIfInBounds_toArray, List.set_cons_zero, List.set_cons_succ]
                  refine wpAnyH_take (i := 6) (v := ?_) rfl (by kernel_rfl) (by kernel_rfl) (by kernel_rfl) (fun _ _ _ h => h) (Or.inl ⟨by rfl, ?_⟩) (by assumption) ?_
                  rotate_left
                  · intro w' hSw
                    (try dsimp only at hSw)
                    go_simp
                    try (with_reducible rfl)
                  simp only [Act.put, List.getElem_toArray, List.getElem_cons_zero, List.getElem_cons_succ, List.setIfInBounds_toArray, List.set_cons_zero, List.set_cons_succ]
                  refine wpAnyH_take (i := 7) (v := ?_) rfl (by kernel_rfl) (by kernel_rfl) (by kernel_rfl) (fun _ _ _ h => h) (Or.inl ⟨by rfl, ?_⟩) (by assumption) ?_
                  rotate_left
                  · intro w' hSw
                    (try dsimp only at hSw)
                    go_simp
                    try (with_reducible rfl)
                  simp only [Act.put, List.getElem_toArray, List.getElem_cons_zero, List.getElem_cons_succ, List.setIfInBounds_toArray, List.set_cons_zero, List.set_cons_succ]
                  refine wpAnyH_ready (rs := [9]) (by kernel_rfl) (by simp) ?_
                  refine AllReadyH.cons rfl (fun K hK => ?_) ?_
                  · obtain ⟨x0, x1, x2⟩ := BT.out.three
                    have y0 := BT.out.frozen 0
                    have y1 := BT.out.frozen 1
                    have y2 := BT.out.frozen 2
                    have hpq : p < w6.heap.size := by first | omega | (have := ST.out.size; omega)
                    have hpn : ¬ (w6.heap.size = p) := by omega
                    have STB := hide (ST7.out.far3 hpq (fun e => (by have := (ST6.out.own.lt _ e).2; omega)) (.int .i64 a7) (.int .i64 b7) (.slice D7 ys.length d7))
                    have hoff := own_off HN7.out hq7
                    have HOB := hide (((HO7.out.kept (ssetc _ w6.heap.size 0 (.int .i64 a7)) hoff).kept (ssetc _ w6.heap.size 1 (.int .i64 b7)) hoff).kept (ssetc _ w6.heap.size 2 (.slice D7 ys.length d7)) hoff)
                    have BTB := hide (((BT.out.set_ 0 (.int .i64 a7)).set_ 1 (.int .i64 b7)).set_ 2 (.slice D7 ys.length d7))
                    go_simp
                    refine hK.out _ _ STB.out.blk.three (fun hHeld => ?_)
                    clear hK K x0 x1 x2 y0 y1 y2
                    try simp only [Act.put, List.getElem_toArray, List.getElem_cons_zero, List.getElem_cons_succ, List.setIfInBounds_toArray, List.set_cons_zero, List.set_cons_succ]
                    refine wpAnyH_take (i := 10) (v := ?_) rfl (by kernel_rfl) (by kernel_rfl) (by kernel_rfl) (fun _ _ _ h => h) (Or.inl ⟨by rfl, ?_⟩) (by assumption) ?_
                    rotate_left
                    · intro w' hSw
                      (try dsimp only at hSw)
                      go_simp
                      try (with_reducible rfl)
                    simp only [Act.put, List.getElem_toArray, List.getElem_cons_zero, List.getElem_cons_succ, List.setIfInBounds_toArray, List.set_cons_zero, List.set_cons_succ]
                    refine wpAnyH_done (by kernel_rfl) ?_ _
                    have x0 := (BTB.out.cell 0).trans (show _ = some (.int .i64 a7) by simp)
                    have x1 := (BTB.out.cell 1).trans (show _ = some (.int .i64 b7) by simp)
                    have x2 := (BTB.out.cell 2).trans (show _ = some (.slice D7 ys.length d7) by simp)
                    obtain ⟨y0, y1, y2⟩ := STB.out.blk.three
                    have z0 := STB.out.blk.frozen 0
                    have z1 := STB.out.blk.frozen 1
                    have z2 := STB.out.blk.frozen 2
                    have z3 := ST7.out.blk.frozen 0
                    have z4 := ST7.out.blk.frozen 1
                    have z5 := ST7.out.blk.frozen 2
                    obtain ⟨y3, y4, y5⟩ := ST7.out.blk.three
                    go_wp2_with fail
                    first
                      | exact ⟨⟨a7, b7, ys, D7, d7, m - 1, (by go_num), (by omega), HV7.out, (STB.out.put HOB.out).more (by omega)⟩, (by simp [intOf]; omega)⟩
                      | exact ⟨⟨a7, b7, ys, D7, d7, m - 1, (by go_num), (by omega), HV7.out, ((ST7.out.put HO7.out).alloc _).more (by omega)⟩, (by simp [intOf]; omega)⟩
                  exact AllReadyH.nil
                exact AllReadyH.nil
              exact AllReadyH.nil
            refine AllReadyH.cons rfl (fun K hK => ?_) ?_
            · go_simp
              have STA := hide (ST.out.drew.alloc (.cells #[.int .i64 0, .int .i64 0, .slice none 0 0] 25))
              have BT : Hid (Blk (wr.drew.alloc (.cells #[.int .i64 0, .int .i64 0, .slice none 0 0] 25)) wr.heap.size 25 #[.int .i64 0, .int .i64 0, .slice none 0 0]) := hide (Blk.new _ _ _)
              refine hK.out _ _ STA.out.blk.three (fun hHeld => ?_)
              clear hK K
              try simp only [Act.put, List.getElem_toArray, List.getElem_cons_zero, List.getElem_cons_succ, List.setIfInBounds_toArray, List.set_cons_zero, List.set_cons_succ]
              refine wpAnyH_ready (rs := [3]) (by kernel_rfl) (by simp) ?_
              refine AllReadyH.cons rfl (fun K hK => ?_) ?_
              · go_simp
                go_at_call 60
                refine (l20RoomDeed_any B g _ a b D xs.length d _ STA.out.rd (by omega) HL.out.1 HL.out.2).mono ?_
                rintro _ w6 ⟨k6, r6, s6, rfl, h6, o6⟩
                have ST6 := hide (STA.out.grown o6 h6)
                replace BT := hide (BT.out.grown o6 (fun he => by injection he with he; have := ST.out.size; have := ST.out.lt; omega))
                have hs6 := ST6.out.size
                clear o6 h6
                go_wp2_with fail
                refine hK.out _ _ ST6.out.blk.three (fun hHeld => ?_)
                clear hK K
                try simp only [Act.put, List.getElem_toArray, List.getElem_cons_zero, List.getElem_cons_succ, List.setIfInBounds_toArray, List.set_cons_zero, List.set_cons_succ]
                refine wpAnyH_ready (rs := [4]) (by kernel_rfl) (by simp) ?_
                refine AllReadyH.cons rfl (fun K hK => ?_) ?_
                · go_simp
                  go_at_call 59
                  refine (RoomsDo_any a b D d xs k6 r6 s6 _ (Sl.of_own ST6.out.own) HV.out).mono ?_
                  rintro _ w7 ⟨a7, b7, ys, D7, d7, ok7, hv7, rfl, ho7, hb7⟩
                  have ST7 := hide (ST6.out.to hb7)
                  have HO7 := hide (own_mono ho7 (show p + 1 ≤ _ from ST6.out.size))
                  have HN7 := hide (fun k hk => (ho7.lt k hk).1 : ∀ k, (Value.slice D7 ys.length d7).ownBlock = some k → _ ≤ k)
                  have hq7 := BT.out.lt
                  replace BT := hide (BT.out.to hb7)
                  have HV7 := hide hv7
                  have hs7 := ST7.out.size
                  clear ho7 hb7 hv7
                  go_wp2_with fail
                  refine hK.out _ _ ST7.out.blk.three (fun hHeld => ?_)
                  clear hK K
                  try simp only [Act.put, List.getElem_toArray, List.getElem_cons_zero, List.getElem_cons_succ, List.setIfInBounds_toArray, List.set_cons_zero, List.set_cons_succ]
                  refine wpAnyH_take (i := 5) (v := ?_) rfl (by kernel_rfl) (by kernel_rfl) (by kernel_rfl) (fun _ _ _ h => h) (Or.inl ⟨by rfl, ?_⟩) (by assumption) ?_
                  rotate_left
                  · intro w' hSw
                    (try dsimp only at hSw)
                    go_simp
                    try (with_reducible rfl)
                  simp only [Act.put, List.getElem_toArray, List.getElem_cons_zero, List.getElem_cons_succ, List.setIfInBounds_toArray, List.set_cons_zero, List.set_cons_succ]
                  refine wpAnyH_take (i := 6) (v := ?_) rfl (by kernel_rfl) (by kernel_rfl) (by kernel_rfl) (fun _ _ _ h => h) (Or.inl ⟨by rfl, ?_⟩) (by assumption) ?_
                  rotate_left
                  · intro w' hSw
                    (try dsimp only at hSw)
                    go_simp
                    try (with_reducible rfl)
                  simp only [Act.put, List.getElem_toArray, List.getElem_cons_zero, List.getElem_cons_succ, List.setIfInBounds_toArray, List.set_cons_zero, List.set_cons_succ]
                  refine wpAnyH_take (i := 7) (v := ?_) rfl (by kernel_rfl) (by kernel_rfl) (by kernel_rfl) (fun _ _ _ h => h) (Or.inl ⟨by rfl, ?_⟩) (by assumption) ?_
                  rotate_left
                  · intro w' hSw
                    (try dsimp only at hSw)
                    go_simp
                    try (with_reducible rfl)
                  simp only [Act.put, List.getElem_toArray, List.getElem_cons_zero, List.getElem_cons_succ, List.setIfInBounds_toArray, List.set_cons_zero, List.set_cons_succ]
                  refine wpAnyH_ready (rs := [9]) (by kernel_rfl) (by simp) ?_
                  refine AllReadyH.cons rfl (fun K hK => ?_) ?_
                  · obtain ⟨x0, x1, x2⟩ := BT.out.three
                    have y0 := BT.out.frozen 0
                    have y1 := BT.out.frozen 1
                    have y2 := BT.out.frozen 2
                    have hpq : p < wr.heap.size := by first | omega | (have := ST.out.size; omega)
                    have hpn : ¬ (wr.heap.size = p) := by omega
                    have STB := hide (ST7.out.far3 hpq (fun e => (by have := (ST.out.own.lt _ e).2; omega)) (.int .i64 a7) (.int .i64 b7) (.slice D7 ys.length d7))
                    have hoff := own_off HN7.out hq7
                    have HOB := hide (((HO7.out.kept (ssetc _ wr.heap.size 0 (.int .i64 a7)) hoff).kept (ssetc _ wr.heap.size 1 (.int .i64 b7)) hoff).kept (ssetc _ wr.heap.size 2 (.slice D7 ys.length d7)) hoff)
                    have BTB := hide (((BT.out.set_ 0 (.int .i64 a7)).set_ 1 (.int .i64 b7)).set_ 2 (.slice D7 ys.length d7))
                    go_simp
                    refine hK.out _ _ STB.out.blk.three (fun hHeld => ?_)
                    clear hK K x0 x1 x2 y0 y1 y2
                    try simp only [Act.put, List.getElem_toArray, List.getElem_cons_zero, List.getElem_cons_succ, List.setIfInBounds_toArray, List.set_cons_zero, List.set_cons_succ]
                    refine wpAnyH_take (i := 10) (v := ?_) rfl (by kernel_rfl) (by kernel_rfl) (by kernel_rfl) (fun _ _ _ h => h) (Or.inl ⟨by rfl, ?_⟩) (by assumption) ?_
                    rotate_left
                    · intro w' hSw
                      (try dsimp only at hSw)
                      go_simp
                      try (with_reducible rfl)
                    simp only [Act.put, List.getElem_toArray, List.getElem_cons_zero, List.getElem_cons_succ, List.setIfInBounds_toArray, List.set_cons_zero, List.set_cons_succ]
                    refine wpAnyH_done (by kernel_rfl) ?_ _
                    have x0 := (BTB.out.cell 0).trans (show _ = some (.int .i64 a7) by simp)
                    have x1 := (BTB.out.cell 1).trans (show _ = some (.int .i64 b7) by simp)
                    have x2 := (BTB.out.cell 2).trans (show _ = some (.slice D7 ys.length d7) by simp)
                    obtain ⟨y0, y1, y2⟩ := STB.out.blk.three
                    have z0 := STB.out.blk.frozen 0
                    have z1 := STB.out.blk.frozen 1
                    have z2 := STB.out.blk.frozen 2
                    have z3 := ST7.out.blk.frozen 0
                    have z4 := ST7.out.blk.frozen 1
                    have z5 := ST7.out.blk.frozen 2
                    obtain ⟨y3, y4, y5⟩ := ST7.out.blk.three
                    go_wp2_with fail
                    first
                      | exact ⟨⟨a7, b7, ys, D7, d7, m - 1, (by go_num), (by omega), HV7.out, (STB.out.put HOB.out).more (by omega)⟩, (by simp [intOf]; omega)⟩
                      | exact ⟨⟨a7, b7, ys, D7, d7, m - 1, (by go_num), (by omega), HV7.out, ((ST7.out.put HO7.out).alloc _).more (by omega)⟩, (by simp [intOf]; omega)⟩
                  exact AllReadyH.nil
                exact AllReadyH.nil
              exact AllReadyH.nil
            exact AllReadyH.nil
          · skip
            go_wp2_with fail
            refine (odd_u B g _ n _ ST.out.rd (by omega) hn).mono ?_
            rintro e w8 ⟨bo, rfl, h2, o2⟩
            have ST8 := hide (ST.out.only o2 h2)
            obtain ⟨a0, a1, b0, b1, _, _, l0, l1, _⟩ := rooms_parts HV.out
            clear h2 o2 ST c0 c1 c2
            cases bo
            · skip
              obtain ⟨c0, c1, c2⟩ := ST8.out.blk.three
              obtain ⟨r0, r1, r2⟩ := ST8.out.res.three
              have f0 := ST8.out.res.frozen 0
              have f1 := ST8.out.res.frozen 1
              have f2 := ST8.out.res.frozen 2
              go_wp2_with fail
              refine ST8.out.ret ?_ ?_ ?_ ?_ ?_ rfl rfl
              · omega
              · omega
              · first | rfl | (simp; done)
              · first | omega | (simp; done) | (simp; omega)
              · omega
            · go_wp2_with fail
              refine (pick_u B g _ 4 _ ST8.out.rd (by omega)).mono ?_
              rintro e w9 ⟨v, u1, u2, _, rfl, h3, o3⟩
              have u3 := u2 (by omega)
              have ST9 := hide (ST8.out.only o3 h3)
              have hs9 := ST9.out.size
              have hlt9 := ST9.out.lt
              clear u2 h3 o3 ST8
              obtain ⟨c0, c1, c2⟩ := ST9.out.blk.three
              obtain ⟨r0, r1, r2⟩ := ST9.out.res.three
              have f0 := ST9.out.res.frozen 0
              have f1 := ST9.out.res.frozen 1
              have f2 := ST9.out.res.frozen 2
              have g0 := ST9.out.blk.frozen 0
              have g1 := ST9.out.blk.frozen 1
              have g2 := ST9.out.blk.frozen 2
              rcases (by omega : v = 0 ∨ v = 1 ∨ v = 2 ∨ v = 3) with rfl | rfl | rfl | rfl
              · have STE := hide (ST9.out.set0 (a + 1))
                go_wp2_with fail
                refine STE.out.ret ?_ ?_ ?_ ?_ ?_ rfl rfl
                · omega
                · omega
                · first | rfl | (simp; done)
                · first | omega | (simp; done) | (simp; omega)
                · omega
              · have HE : Hid ((w9.alloc (.cells #[] 3)).ownsRow (p + 1) 3 1 (.slice (some ⟨w9.heap.size, 0, none⟩) 0 0) 0 (encI [])) := hide (by simpa [encI] using World.ownsRow_lit (base := p + 1) (e := 3) (size := 1) w9 #[] 0 (by omega) (Nat.zero_le _) rfl)
                have STE : Hid (QS B g (P + 9 + 6 * (13 - m) + 1 + 1) w p a b [] (some ⟨w9.heap.size, 0, none⟩) 0 ((w9.setCell ⟨p, 2, none⟩ (.slice (some ⟨w9.heap.size, 0, none⟩) 0 0)).alloc (.cells #[] 3))) := hide (by rw [← World.setCell_alloc_past _ _ _ _ hs9]; exact ((ST9.out.alloc (.cells #[] 3)).set2 [] rfl HE.out))
                obtain ⟨x0, x1, x2⟩ := STE.out.blk.three
                obtain ⟨s0, s1, s2⟩ := STE.out.res.three
                have t0 := STE.out.res.frozen 0
                have t1 := STE.out.res.frozen 1
                have t2 := STE.out.res.frozen 2
                have hq9 : w.heap.size < w9.heap.size := by omega
                go_wp2_with fail
                rw [← World.setCell_alloc_past _ _ _ _ (show w.heap.size < (((w9.setCell _ _).setCell _ _).setCell _ _).heap.size by simp [World.setCell]; omega), ← World.setCell_alloc_past _ _ _ _ (show w.heap.size < ((w9.setCell _ _).setCell _ _).heap.size by simp [World.setCell]; omega), ← World.setCell_alloc_past _ _ _ _ (show w.heap.size < (w9.setCell _ _).heap.size by simp [World.setCell]; omega)]
                refine STE.out.ret ?_ ?_ ?_ ?_ ?_ rfl rfl
                · omega
                · omega
                · rfl
                · simp
                · omega
              · go_wp2_with fail
                obtain ⟨q, hD⟩ := own_some ST9.out.own l0
                subst hD
                have hw1 : IntKind.i64.wrap (a + 2) = a + 2 := IntWalk.i64_in (a + 2) (by omega)
                have hw2 : IntKind.i64.wrap (b + 2) = b + 2 := IntWalk.i64_in (b + 2) (by omega)
                have hlq := ST9.out.own.lt q rfl
                have n0 : (0 : Int) < xs.length := by omega
                have n1 : 0 < xs.length := by omega
                refine wp_region_held_drew (S := fun w' => w'.cell? ⟨p, 0, none⟩ = some (.int .i64 a) ∧ w'.cell? ⟨p, 1, none⟩ = some (.int .i64 b) ∧ w'.cell? ⟨p, 2, none⟩ = some (.slice (some ⟨q, 0, none⟩) xs.length d)) (by kernel_rfl) ⟨c0, c1, c2⟩ (fun hHeld => ?_)
                clear c0 c1 c2 r0 r1 r2 f0 f1 f2 g0 g1 g2
                refine wpAnyH_take (i := 0) (v := ?_) rfl (by kernel_rfl) (by kernel_rfl) (by kernel_rfl) (fun _ _ _ h => h) (Or.inl ⟨by rfl, ?_⟩) (by assumption) ?_
                rotate_left
                · intro w' hSw
                  (try dsimp only at hSw)
                  go_simp
                  try (with_reducible rfl)
                simp only [Act.put, List.getElem_toArray, List.getElem_cons_zero, List.setIfInBounds_toArray, List.set_cons_zero, List.set_cons_succ]
                refine wpAnyH_take (i := 1) (v := ?_) rfl (by kernel_rfl) (by kernel_rfl) (by kernel_rfl) (fun _ _ _ h => h) (Or.inl ⟨by rfl, ?_⟩) (by assumption) ?_
                rotate_left
                · intro w' hSw
                  (try dsimp only at hSw)
                  go_simp
                  try (with_reducible rfl)
                simp only [Act.put, List.getElem_toArray, List.getElem_cons_zero, List.getElem_cons_succ, List.setIfInBounds_toArray, List.set_cons_zero, List.set_cons_succ]
                refine wpAnyH_take (i := 2) (v := ?_) rfl (by kernel_rfl) (by kernel_rfl) (by kernel_rfl) (fun _ _ _ h => h) (Or.inl ⟨by rfl, ?_⟩) (by assumption) ?_
                rotate_left
                · intro w' hSw
                  (try dsimp only at hSw)
                  go_simp
                  try (with_reducible rfl)
                simp only [Act.put, List.getElem_toArray, List.getElem_cons_zero, List.getElem_cons_succ, List.setIfInBounds_toArray, List.set_cons_zero, List.set_cons_succ]
                refine wpAnyH_take (i := 3) (v := ?_) rfl (by kernel_rfl) (by kernel_rfl) (by kernel_rfl) (fun _ _ _ h => h) (Or.inl ⟨by rfl, ?_⟩) (by assumption) ?_
                rotate_left
                · intro w' hSw
                  (try dsimp only at hSw)
                  go_simp
                  try (with_reducible rfl)
                simp only [Act.put, List.getElem_toArray, List.getElem_cons_zero, List.getElem_cons_succ, List.setIfInBounds_toArray, List.set_cons_zero, List.set_cons_succ]
                refine wpAnyH_take (i := 4) (v := ?_) rfl (by kernel_rfl) (by kernel_rfl) (by kernel_rfl) (fun _ _ _ h => h) (Or.inl ⟨by rfl, ?_⟩) (by assumption) ?_
                rotate_left
                · intro w' hSw
                  (try dsimp only at hSw)
                  go_simp
                  try (with_reducible rfl)
                simp only [Act.put, List.getElem_toArray, List.getElem_cons_zero, List.getElem_cons_succ, List.setIfInBounds_toArray, List.set_cons_zero, List.set_cons_succ]
                refine wpAnyH_take (i := 5) (v := ?_) rfl (by kernel_rfl) (by kernel_rfl) (by kernel_rfl) (fun _ _ _ h => h) (Or.inl ⟨by rfl, ?_⟩) (by assumption) ?_
                rotate_left
                · intro w' hSw
                  (try dsimp only at hSw)
                  go_simp
                  try (with_reducible rfl)
                simp only [Act.put, List.getElem_toArray, List.getElem_cons_zero, List.getElem_cons_succ, List.setIfInBounds_toArray, List.set_cons_zero, List.set_cons_succ]
                refine wpAnyH_take (i := 6) (v := ?_) rfl (by kernel_rfl) (by kernel_rfl) (by kernel_rfl) (fun _ _ _ h => h) (Or.inl ⟨by rfl, ?_⟩) (by assumption) ?_
                rotate_left
                · intro w' hSw
                  (try dsimp only at hSw)
                  go_simp
                  try (with_reducible rfl)
                simp only [Act.put, List.getElem_toArray, List.getElem_cons_zero, List.getElem_cons_succ, List.setIfInBounds_toArray, List.set_cons_zero, List.set_cons_succ]
                refine wpAnyH_take (i := 7) (v := ?_) rfl (by kernel_rfl) (by kernel_rfl) (by kernel_rfl) (fun _ _ _ h => h) (Or.inl ⟨by rfl, ?_⟩) (by assumption) ?_
                rotate_left
                · intro w' hSw
                  (try dsimp only at hSw)
                  go_simp
                  try (with_reducible rfl)
                simp only [Act.put, List.getElem_toArray, List.getElem_cons_zero, List.getElem_cons_succ, List.setIfInBounds_toArray, List.set_cons_zero, List.set_cons_succ]
                refine wpAnyH_take (i := 9) (v := ?_) rfl (by kernel_rfl) (by kernel_rfl) (by kernel_rfl) (fun _ _ _ h => h) (Or.inl ⟨by rfl, ?_⟩) (by assumption) ?_
                rotate_left
                · intro w' hSw
                  (try dsimp only at hSw)
                  go_simp
                  try (with_reducible rfl)
                simp only [Act.put, List.getElem_toArray, List.getElem_cons_zero, List.getElem_cons_succ, List.setIfInBounds_toArray, List.set_cons_zero, List.set_cons_succ]
                refine wpAnyH_ready (rs := [8, 10]) (by kernel_rfl) (by simp) ?_
                refine AllReadyH.cons rfl (fun K hK => ?_) ?_
                · go_simp
                  have STA := hide (ST9.out.drew.alloc (.cells #[.int .i64 (-1), .int .i64 (a + 2), .int .i64 (b + 2)] 3))
                  have BA : Hid (Blk ((w9.drew).alloc (.cells #[.int .i64 (-1), .int .i64 (a + 2), .int .i64 (b + 2)] 3)) w9.heap.size 3 #[.int .i64 (-1), .int .i64 (a + 2), .int .i64 (b + 2)]) := hide (Blk.new _ _ _)
                  refine hK.out _ _ STA.out.blk.three (fun hHeld => ?_)
                  clear hK K
                  try simp only [Act.put, List.getElem_toArray, List.getElem_cons_zero, List.getElem_cons_succ, List.setIfInBounds_toArray, List.set_cons_zero, List.set_cons_succ]
                  refine wpAnyH_ready (rs := [10]) (by kernel_rfl) (by simp) ?_
                  refine AllReadyH.cons rfl (fun K hK => ?_) ?_
                  · go_simp
                    go_at_call 37
                    refine (pick_u B g _ 3 _ STA.out.rd (by omega)).mono ?_
                    rintro _ w10 ⟨r10, p10, q10, _, rfl, h7, o7⟩
                    have STP := hide (STA.out.only o7 h7)
                    have q11 : r10 < 3 := q10 (by decide)
                    obtain ⟨nr, y, rfl, hy⟩ := arr3_at (-1) (a + 2) (b + 2) p10 q11
                    replace BA := hide (Blk.grown BA.out o7.1 (fun he => by injection he with he; omega))
                    clear o7 h7
                    have hs10 := STP.out.size
                    go_wp2_with fail
                    refine hK.out _ _ STP.out.blk.three (fun hHeld => ?_)
                    clear hK K
                    try simp only [Act.put, List.getElem_toArray, List.getElem_cons_zero, List.getElem_cons_succ, List.setIfInBounds_toArray, List.set_cons_zero, List.set_cons_succ]
                    have hcy := (Blk.cell BA.out nr).trans hy
                    refine wpAnyH_more (T := fun w' => (w'.cell? ⟨p, 0, none⟩ = some (.int .i64 a) ∧ w'.cell? ⟨p, 1, none⟩ = some (.int .i64 b) ∧ w'.cell? ⟨p, 2, none⟩ = some (.slice (some ⟨q, 0, none⟩) xs.length d)) ∧ w'.cell? ⟨w9.heap.size, nr, none⟩ = some (.int .i64 y)) (fun _ h => h.1) _ _ _ _ ?_
                    replace hHeld := (show ((w10).cell? ⟨p, 0, none⟩ = some (.int .i64 a) ∧ (w10).cell? ⟨p, 1, none⟩ = some (.int .i64 b) ∧ (w10).cell? ⟨p, 2, none⟩ = some (.slice (some ⟨q, 0, none⟩) xs.length d)) ∧ (w10).cell? ⟨w9.heap.size, nr, none⟩ = some (.int .i64 y) from ⟨STP.out.blk.three, hcy⟩)
                    refine wpAnyH_take (i := 11) (v := ?_) rfl (by kernel_rfl) (by kernel_rfl) (by kernel_rfl) (fun _ _ _ h => h) (Or.inl ⟨by rfl, ?_⟩) (by assumption) ?_
                    rotate_left
                    · intro w' hSw
                      (try dsimp only at hSw)
                      go_simp
                      try (with_reducible rfl)
                    simp only [Act.put, List.getElem_toArray, List.getElem_cons_zero, List.getElem_cons_succ, List.setIfInBounds_toArray, List.set_cons_zero, List.set_cons_succ]
                    refine wpAnyH_take (i := 12) (v := ?_) rfl (by kernel_rfl) (by kernel_rfl) (by kernel_rfl) (fun _ _ _ h => h) (Or.inl ⟨by rfl, ?_⟩) (by assumption) ?_
                    rotate_left
                    · intro w' hSw
                      (try dsimp only at hSw)
                      go_simp
                      try (with_reducible rfl)
                    simp only [Act.put, List.getElem_toArray, List.getElem_cons_zero, List.getElem_cons_succ, List.setIfInBounds_toArray, List.set_cons_zero, List.set_cons_succ]
                    refine wpAnyH_take (i := 13) (v := ?_) rfl (by kernel_rfl) (by kernel_rfl) (by kernel_rfl) (fun _ _ _ h => h) (Or.inl ⟨by rfl, ?_⟩) (by assumption) ?_
                    rotate_left
                    · intro w' hSw
                      (try dsimp only at hSw)
                      go_simp
                      try (with_reducible rfl)
                    simp only [Act.put, List.getElem_toArray, List.getElem_cons_zero, List.getElem_cons_succ, List.setIfInBounds_toArray, List.set_cons_zero, List.set_cons_succ]
                    refine wpAnyH_ready (rs := [14]) (by kernel_rfl) (by simp) ?_
                    refine AllReadyH.cons rfl (fun K hK => ?_) ?_
                    · obtain ⟨x9, hx9⟩ := st_cell STP.out.own l0
                      have x1 := STP.out.own.frozenAt 0
                      have STE := hide (STP.out.st (y := y) l0)
                      have hqb : q ≠ w9.heap.size := by have := (ST9.out.own.lt q rfl).2; omega
                      have hcz := (World.cell?_setCell_far (w10) ⟨q, 0, none⟩ ⟨w9.heap.size, nr, none⟩ (.int .i64 y) hqb).trans hcy
                      go_simp
                      refine hK.out _ _ ⟨by simpa using STE.out.blk.three, hcz⟩ (fun hHeld => ?_)
                      clear hK K hcz hHeld
                      try simp only [Act.put, List.getElem_toArray, List.getElem_cons_zero, List.getElem_cons_succ, List.setIfInBounds_toArray, List.set_cons_zero, List.set_cons_succ]
                      refine wpAnyH_done (by kernel_rfl) ?_ _
                      clear hcy x1 hx9 hs10
                      generalize ((w10).setCell ⟨q, 0, none⟩ (.int .i64 y)) = wE at *
                      obtain ⟨c0, c1, c2⟩ := STE.out.blk.three
                      obtain ⟨r0, r1, r2⟩ := STE.out.res.three
                      have f0 := STE.out.res.frozen 0
                      have f1 := STE.out.res.frozen 1
                      have f2 := STE.out.res.frozen 2
                      go_wp2_with fail
                      refine STE.out.ret ?_ ?_ ?_ ?_ ?_ rfl rfl
                      · omega
                      · omega
                      · first | rfl | (simp; done)
                      · first | omega | (simp; done) | (simp; omega)
                      · omega
                    exact AllReadyH.nil
                  exact AllReadyH.nil
                refine AllReadyH.cons rfl (fun K hK => ?_) ?_
                · go_simp
                  go_at_call 37
                  refine (pick_u B g _ 3 _ ST9.out.drew.rd (by omega)).mono ?_
                  rintro _ w10 ⟨r10, p10, q10, _, rfl, h7, o7⟩
                  have STP := hide (ST9.out.drew.only o7 h7)
                  have q11 : r10 < 3 := q10 (by decide)
                  obtain ⟨nr, y, rfl, hy⟩ := arr3_at (-1) (a + 2) (b + 2) p10 q11
                  clear o7 h7
                  have hs10 := STP.out.size
                  go_wp2_with fail
                  refine hK.out _ _ STP.out.blk.three (fun hHeld => ?_)
                  clear hK K
                  try simp only [Act.put, List.getElem_toArray, List.getElem_cons_zero, List.getElem_cons_succ, List.setIfInBounds_toArray, List.set_cons_zero, List.set_cons_succ]
                  refine wpAnyH_ready (rs := [8]) (by kernel_rfl) (by simp) ?_
                  refine AllReadyH.cons rfl (fun K hK => ?_) ?_
                  · go_simp
                    have STA := hide (STP.out.alloc (.cells #[.int .i64 (-1), .int .i64 (a + 2), .int .i64 (b + 2)] 3))
                    have BA : Hid (Blk ((w10).alloc (.cells #[.int .i64 (-1), .int .i64 (a + 2), .int .i64 (b + 2)] 3)) w10.heap.size 3 #[.int .i64 (-1), .int .i64 (a + 2), .int .i64 (b + 2)]) := hide (Blk.new _ _ _)
                    refine hK.out _ _ STA.out.blk.three (fun hHeld => ?_)
                    clear hK K
                    try simp only [Act.put, List.getElem_toArray, List.getElem_cons_zero, List.getElem_cons_succ, List.setIfInBounds_toArray, List.set_cons_zero, List.set_cons_succ]
                    have hcy := (Blk.cell BA.out nr).trans hy
                    refine wpAnyH_more (T := fun w' => (w'.cell? ⟨p, 0, none⟩ = some (.int .i64 a) ∧ w'.cell? ⟨p, 1, none⟩ = some (.int .i64 b) ∧ w'.cell? ⟨p, 2, none⟩ = some (.slice (some ⟨q, 0, none⟩) xs.length d)) ∧ w'.cell? ⟨w10.heap.size, nr, none⟩ = some (.int .i64 y)) (fun _ h => h.1) _ _ _ _ ?_
                    replace hHeld := (show (((w10).alloc (.cells #[.int .i64 (-1), .int .i64 (a + 2), .int .i64 (b + 2)] 3)).cell? ⟨p, 0, none⟩ = some (.int .i64 a) ∧ ((w10).alloc (.cells #[.int .i64 (-1), .int .i64 (a + 2), .int .i64 (b + 2)] 3)).cell? ⟨p, 1, none⟩ = some (.int .i64 b) ∧ ((w10).alloc (.cells #[.int .i64 (-1), .int .i64 (a + 2), .int .i64 (b + 2)] 3)).cell? ⟨p, 2, none⟩ = some (.slice (some ⟨q, 0, none⟩) xs.length d)) ∧ ((w10).alloc (.cells #[.int .i64 (-1), .int .i64 (a + 2), .int .i64 (b + 2)] 3)).cell? ⟨w10.heap.size, nr, none⟩ = some (.int .i64 y) from ⟨STA.out.blk.three, hcy⟩)
                    refine wpAnyH_take (i := 11) (v := ?_) rfl (by kernel_rfl) (by kernel_rfl) (by kernel_rfl) (fun _ _ _ h => h) (Or.inl ⟨by rfl, ?_⟩) (by assumption) ?_
                    rotate_left
                    · intro w' hSw
                      (try dsimp only at hSw)
                      go_simp
                      try (with_reducible rfl)
                    simp only [Act.put, List.getElem_toArray, List.getElem_cons_zero, List.getElem_cons_succ, List.setIfInBounds_toArray, List.set_cons_zero, List.set_cons_succ]
                    refine wpAnyH_take (i := 12) (v := ?_) rfl (by kernel_rfl) (by kernel_rfl) (by kernel_rfl) (fun _ _ _ h => h) (Or.inl ⟨by rfl, ?_⟩) (by assumption) ?_
                    rotate_left
                    · intro w' hSw
                      (try dsimp only at hSw)
                      go_simp
                      try (with_reducible rfl)
                    simp only [Act.put, List.getElem_toArray, List.getElem_cons_zero, List.getElem_cons_succ, List.setIfInBounds_toArray, List.set_cons_zero, List.set_cons_succ]
                    refine wpAnyH_take (i := 13) (v := ?_) rfl (by kernel_rfl) (by kernel_rfl) (by kernel_rfl) (fun _ _ _ h => h) (Or.inl ⟨by rfl, ?_⟩) (by assumption) ?_
                    rotate_left
                    · intro w' hSw
                      (try dsimp only at hSw)
                      go_simp
                      try (with_reducible rfl)
                    simp only [Act.put, List.getElem_toArray, List.getElem_cons_zero, List.getElem_cons_succ, List.setIfInBounds_toArray, List.set_cons_zero, List.set_cons_succ]
                    refine wpAnyH_ready (rs := [14]) (by kernel_rfl) (by simp) ?_
                    refine AllReadyH.cons rfl (fun K hK => ?_) ?_
                    · obtain ⟨x9, hx9⟩ := st_cell STA.out.own l0
                      have x1 := STA.out.own.frozenAt 0
                      have STE := hide (STA.out.st (y := y) l0)
                      have hqb : q ≠ w10.heap.size := by have := (STP.out.own.lt q rfl).2; omega
                      have hcz := (World.cell?_setCell_far ((w10).alloc (.cells #[.int .i64 (-1), .int .i64 (a + 2), .int .i64 (b + 2)] 3)) ⟨q, 0, none⟩ ⟨w10.heap.size, nr, none⟩ (.int .i64 y) hqb).trans hcy
                      go_simp
                      refine hK.out _ _ ⟨by simpa using STE.out.blk.three, hcz⟩ (fun hHeld => ?_)
                      clear hK K hcz hHeld
                      try simp only [Act.put, List.getElem_toArray, List.getElem_cons_zero, List.getElem_cons_succ, List.setIfInBounds_toArray, List.set_cons_zero, List.set_cons_succ]
                      refine wpAnyH_done (by kernel_rfl) ?_ _
                      clear hcy x1 hx9 hs10
                      generalize (((w10).alloc (.cells #[.int .i64 (-1), .int .i64 (a + 2), .int .i64 (b + 2)] 3)).setCell ⟨q, 0, none⟩ (.int .i64 y)) = wE at *
                      obtain ⟨c0, c1, c2⟩ := STE.out.blk.three
                      obtain ⟨r0, r1, r2⟩ := STE.out.res.three
                      have f0 := STE.out.res.frozen 0
                      have f1 := STE.out.res.frozen 1
                      have f2 := STE.out.res.frozen 2
                      go_wp2_with fail
                      refine STE.out.ret ?_ ?_ ?_ ?_ ?_ rfl rfl
                      · omega
                      · omega
                      · first | rfl | (simp; done)
                      · first | omega | (simp; done) | (simp; omega)
                      · omega
                    exact AllReadyH.nil
                  exact AllReadyH.nil
                exact AllReadyH.nil
              · have STE := hide (ST9.out.set1 101)
                go_wp2_with fail
                refine STE.out.ret ?_ ?_ ?_ ?_ ?_ rfl rfl
                · omega
                · omega
                · first | rfl | (simp; done)
                · first | omega | (simp; done) | (simp; omega)
                · omega
  · have hub : (u == 0) = false := by simp [hu]
    have ST := ST1
    clear ST1
    go_wp2_with fail
    refine (pick_u B g _ 5 _ ST.out.rd (by omega)).mono ?_
    rintro e w4 ⟨m0', u1, u2, _, rfl, h2, o2⟩
    have u3 := u2 (by omega)
    have ST4 := hide (ST.out.only o2 h2)
    clear u2 h2 o2 ST
    obtain ⟨m0, rfl⟩ := Int.eq_ofNat_of_zero_le u1
    have hm0 : (1 : Int) + m0 = (m0 + 1 : Nat) := by omega
    go_wp2_with fail
    go_loopw [6] (fun k wr => ∃ (xs : List Int) (D : Option Addr) (d : Nat) (m : Nat), k = .int .i64 m ∧ xs.length + m ≤ 5 ∧ 1 ≤ xs.length + m ∧ (∀ e ∈ xs, e = 0 ∨ e = 1) ∧ QS B g (P + 3 + xs.length) w p 0 1 xs D d wr) (fun k _ => (intOf k).toNat)
    case atStart => exact ⟨[], none, 0, m0 + 1, (by simp), (by simp; omega), (by simp), (fun e he => (by cases he)), ST4.out.more (by simp)⟩
    case round =>
      obtain ⟨xs, D, d, m, rfl, hl, hl1, he, hst⟩ := hrel
      have HE := hide he
      have ST := hide hst
      have c2 := hst.blk.cell 2
      replace c2 : wr.cell? ⟨p, 2, none⟩ = some (.slice D xs.length d) := c2
      clear hst he ST4
      by_cases hm : 0 < m
      · have hs6 := ST.out.size
        go_wp2_with fail
        go_region_law (first | (refine step_app1r rfl (.tmp 29) (.tmp 32) rfl (p + 1) D xs.length d xs _ (by simp [Act.eval]) (ST7.out.alloc _).own _ (Blk.new _ _ _) (by simp [Act.eval]) ?_ ?_ ?_; exact (ST7.out.alloc _).size; omega; intro gq cap w8 ho8 hg8; obtain ⟨v8, f8⟩ := (ST7.out.alloc _).app_cell hg8; have ST9 := hide (QS.app (ST7.out.alloc _) (by simp) hg8 ho8)) | (go_simp; go_at_call 37; refine (pick_u B g (P + 3 + xs.length) _ _ ?_ ?_).mono ?_; exact ST.out.drew.rd; omega; rintro _ w7 ⟨r, r1, r2, _, rfl, h7, o7⟩; have r3 : r < 2 := r2 (by decide); have ST7 := hide (ST.out.drew.only o7 h7); have v0 : w7.cell? ⟨p, 2, none⟩ = some (.slice D xs.length d) := ST7.out.blk.cell 2; have hs7 := ST7.out.size; have HR := hide (show r = 0 ∨ r = 1 by omega)))
        all_goals go_wp2_with fail
        all_goals exact ⟨⟨xs ++ [_], _, _, m - 1, by go_num, by simp; omega, by simp; omega, fun e he => by rcases List.mem_append.1 he with he | he; exact HE.out e he; rw [List.mem_singleton] at he; rw [he]; exact HR.out, ST9.out.more (by simp; omega)⟩, by simp [intOf]; omega⟩
      · have HV := hide (show roomsB 0 1 xs = true from rooms_mk (by omega) (by omega) (by omega) (by omega) (by omega) (by omega) (by omega) (by omega) (fun e he => by rcases HE.out e he with rfl | rfl; exact ⟨by omega, fun _ => by omega, fun h => by omega⟩; exact ⟨by omega, fun h => by omega, fun _ => by omega⟩))
        clear HE
        go_wp2_with fail
        refine (pick_u B g _ 14 _ ST.out.rd (by omega)).mono ?_
        rintro e w5 ⟨k0', u1, u2, _, rfl, h2, o2⟩
        have u3 := u2 (by omega)
        have ST5 := hide (ST.out.only o2 h2)
        clear u2 h2 o2 ST c2
        obtain ⟨k0, rfl⟩ := Int.eq_ofNat_of_zero_le u1
        go_wp2_with fail
        go_loopw [7, 8, 9] (fun k _ _ wr => ∃ (a b : Int) (xs : List Int) (D : Option Addr) (d : Nat) (m : Nat), k = .int .i64 m ∧ m ≤ 13 ∧ roomsB a b xs = true ∧ QS B g (P + 9 + 6 * (13 - m)) w p a b xs D d wr) (fun k _ _ _ => (intOf k).toNat)
        case atStart => exact ⟨_, _, xs, _, _, k0, rfl, by omega, HV.out, ST5.out.more (by omega)⟩
        case round =>
          clear ST5 HV
          obtain ⟨a, b, xs, D, d, m, rfl, hl, hv, hst⟩ := hrel
          have HV := hide hv
          have ST := hide hst
          obtain ⟨c0, c1, c2⟩ := hst.blk.three
          clear hst hv
          by_cases hm : 0 < m
          · go_wp2_with fail
            have HL := hide (show 1 ≤ xs.length ∧ xs.length ≤ 5 from ⟨(rooms_parts HV.out).2.2.2.2.2.2.1, (rooms_parts HV.out).2.2.2.2.2.2.2.1⟩)
            have hs0 := ST.out.size
            refine wp_region_held_drew (S := fun w' => w'.cell? ⟨p, 0, none⟩ = some (.int .i64 a) ∧ w'.cell? ⟨p, 1, none⟩ = some (.int .i64 b) ∧ w'.cell? ⟨p, 2, none⟩ = some (.slice D xs.length d)) (by kernel_rfl) ⟨c0, c1, c2⟩ (fun hHeld => ?_)
            refine wpAnyH_take (i := 0) (v := ?_) rfl (by kernel_rfl) (by kernel_rfl) (by kernel_rfl) (fun _ _ _ h => h) (Or.inl ⟨by rfl, ?_⟩) (by assumption) ?_
            rotate_left
            · intro w' hSw
              (try dsimp only at hSw)
              go_simp
              try (with_reducible rfl)
            simp only [Act.put, List.getElem_toArray, List.getElem_cons_zero, List.setIfInBounds_toArray, List.set_cons_zero, List.set_cons_succ]
            refine wpAnyH_take (i := 1) (v := ?_) rfl (by kernel_rfl) (by kernel_rfl) (by kernel_rfl) (fun _ _ _ h => h) (Or.inl ⟨by rfl, ?_⟩) (by assumption) ?_
            rotate_left
            · intro w' hSw
              (try dsimp only at hSw)
              go_simp
              try (with_reducible rfl)
            simp only [Act.put, List.getElem_toArray, List.getElem_cons_zero, List.getElem_cons_succ, List.setIfInBounds_toArray, List.set_cons_zero, List.set_cons_succ]
            refine wpAnyH_take (i := 2) (v := ?_) rfl (by kernel_rfl) (by kernel_rfl) (by kernel_rfl) (fun _ _ _ h => h) (Or.inl ⟨by rfl, ?_⟩) (by assumption) ?_
            rotate_left
            · intro w' hSw
              (try dsimp only at hSw)
              go_simp
              try (with_reducible rfl)
            simp only [Act.put, List.getElem_toArray, List.getElem_cons_zero, List.getElem_cons_succ, List.setIfInBounds_toArray, List.set_cons_zero, List.set_cons_succ]
            refine wpAnyH_ready (rs := [3, 8]) (by kernel_rfl) (by simp) ?_
            refine AllReadyH.cons rfl (fun K hK => ?_) ?_
            · go_simp
              go_at_call 60
              refine (l20RoomDeed_any B g _ a b D xs.length d _ ST.out.drew.rd (by omega) HL.out.1 HL.out.2).mono ?_
              rintro _ w6 ⟨k6, r6, s6, rfl, h6, o6⟩
              have ST6 := hide (ST.out.drew.grown o6 h6)
              have hs6 := ST6.out.size
              clear o6 h6
              go_wp2_with fail
              refine hK.out _ _ ST6.out.blk.three (fun hHeld => ?_)
              clear hK K
              try simp only [Act.put, List.getElem_toArray, List.getElem_cons_zero, List.getElem_cons_succ, List.setIfInBounds_toArray, List.set_cons_zero, List.set_cons_succ]
              refine wpAnyH_ready (rs := [4, 8]) (by kernel_rfl) (by simp) ?_
              refine AllReadyH.cons rfl (fun K hK => ?_) ?_
              · go_simp
                go_at_call 59
                refine (RoomsDo_any a b D d xs k6 r6 s6 _ (Sl.of_own ST6.out.own) HV.out).mono ?_
                rintro _ w7 ⟨a7, b7, ys, D7, d7, ok7, hv7, rfl, ho7, hb7⟩
                have ST7 := hide (ST6.out.to hb7)
                have HO7 := hide (own_mono ho7 (show p + 1 ≤ _ from ST6.out.size))
                have HV7 := hide hv7
                have hs7 := ST7.out.size
                clear ho7 hb7 hv7
                go_wp2_with fail
                refine hK.out _ _ ST7.out.blk.three (fun hHeld => ?_)
                clear hK K
                try simp only [Act.put, List.getElem_toArray, List.getElem_cons_zero, List.getElem_cons_succ, List.setIfInBounds_toArray, List.set_cons_zero, List.set_cons_succ]
                refine wpAnyH_take (i := 5) (v := ?_) rfl (by kernel_rfl) (by kernel_rfl) (by kernel_rfl) (fun _ _ _ h => h) (Or.inl ⟨by rfl, ?_⟩) (by assumption) ?_
                rotate_left
                · intro w' hSw
                  (try dsimp only at hSw)
                  go_simp
                  try (with_reducible rfl)
                simp only [Act.put, List.getElem_toArray, List.getElem_cons_zero, List.getElem_cons_succ, List.setIfInBounds_toArray, List.set_cons_zero, List.set_cons_succ]
                refine wpAnyH_take (i := 6) (v := ?_) rfl (by kernel_rfl) (by kernel_rfl) (by kernel_rfl) (fun _ _ _ h => h) (Or.inl ⟨by rfl, ?_⟩) (by assumption) ?_
                rotate_left
                · intro w' hSw
                  (try dsimp only at hSw)
                  go_simp
                  try (with_reducible rfl)
                simp only [Act.put, List.getElem_toArray, List.getElem_cons_zero, List.getElem_cons_succ, List.setIfInBounds_toArray, List.set_cons_zero, List.set_cons_succ]
                refine wpAnyH_take (i := 7) (v := ?_) rfl (by kernel_rfl) (by kernel_rfl) (by kernel_rfl) (fun _ _ _ h => h) (Or.inl ⟨by rfl, ?_⟩) (by assumption) ?_
                rotate_left
                · intro w' hSw
                  (try dsimp only at hSw)
                  go_simp
                  try (with_reducible rfl)
                simp only [Act.put, List.getElem_toArray, List.getElem_cons_zero, List.getElem_cons_succ, List.setIfInBounds_toArray, List.set_cons_zero, List.set_cons_succ]
                refine wpAnyH_ready (rs := [8]) (by kernel_rfl) (by simp) ?_
                refine AllReadyH.cons rfl (fun K hK => ?_) ?_
                · go_simp
                  have STA := hide (ST7.out.alloc (.cells #[.int .i64 0, .int .i64 0, .slice none 0 0] 25))
                  have BT : Hid (Blk (w7.alloc (.cells #[.int .i64 0, .int .i64 0, .slice none 0 0] 25)) w7.heap.size 25 #[.int .i64 0, .int .i64 0, .slice none 0 0]) := hide (Blk.new _ _ _)
                  refine hK.out _ _ STA.out.blk.three (fun hHeld => ?_)
                  clear hK K
                  try simp only [Act.put, List.getElem_toArray, List.getElem_cons_zero, List.getElem_cons_succ, List.setIfInBounds_toArray, List.set_cons_zero, List.set_cons_succ]
                  refine wpAnyH_ready (rs := [9]) (by kernel_rfl) (by simp) ?_
                  refine AllReadyH.cons rfl (fun K hK => ?_) ?_
                  · obtain ⟨x0, x1, x2⟩ := BT.out.three
                    have y0 := BT.out.frozen 0
                    have y1 := BT.out.frozen 1
                    have y2 := BT.out.frozen 2
                    have hpq : p < w7.heap.size := by first | omega | (have := ST.out.size; omega)
                    have hpn : ¬ (w7.heap.size = p) := by omega
                    have STB := hide (ST7.out.alloc (.cells #[.int .i64 a7, .int .i64 b7, .slice D7 ys.length d7] 25))
                    have HOB := hide (HO7.out.alloc (.cells #[.int .i64 a7, .int .i64 b7, .slice D7 ys.length d7] 25))
                    have BTB := hide (Blk.new w7 25 #[.int .i64 a7, .int .i64 b7, .slice D7 ys.length d7])
                    go_simp
                    refine hK.out _ _ STB.out.blk.three (fun hHeld => ?_)
                    clear hK K x0 x1 x2 y0 y1 y2
                    try simp only [Act.put, List.getElem_toArray, List.getElem_cons_zero, List.getElem_cons_succ, List.setIfInBounds_toArray, List.set_cons_zero, List.set_cons_succ]
                    refine wpAnyH_take (i := 10) (v := ?_) rfl (by kernel_rfl) (by kernel_rfl) (by kernel_rfl) (fun _ _ _ h => h) (Or.inl ⟨by rfl, ?_⟩) (by assumption) ?_
                    rotate_left
                    · intro w' hSw
                      (try dsimp only at hSw)
                      go_simp
                      try (with_reducible rfl)
                    simp only [Act.put, List.getElem_toArray, List.getElem_cons_zero, List.getElem_cons_succ, List.setIfInBounds_toArray, List.set_cons_zero, List.set_cons_succ]
                    refine wpAnyH_done (by kernel_rfl) ?_ _
                    have x0 := (BTB.out.cell 0).trans (show _ = some (.int .i64 a7) by simp)
                    have x1 := (BTB.out.cell 1).trans (show _ = some (.int .i64 b7) by simp)
                    have x2 := (BTB.out.cell 2).trans (show _ = some (.slice D7 ys.length d7) by simp)
                    obtain ⟨y0, y1, y2⟩ := STB.out.blk.three
                    have z0 := STB.out.blk.frozen 0
                    have z1 := STB.out.blk.frozen 1
                    have z2 := STB.out.blk.frozen 2
                    have z3 := ST7.out.blk.frozen 0
                    have z4 := ST7.out.blk.frozen 1
                    have z5 := ST7.out.blk.frozen 2
                    obtain ⟨y3, y4, y5⟩ := ST7.out.blk.three
                    go_wp2_with fail
                    first
                      | exact ⟨⟨a7, b7, ys, D7, d7, m - 1, (by go_num), (by omega), HV7.out, (STB.out.put HOB.out).more (by omega)⟩, (by simp [intOf]; omega)⟩
                      | exact ⟨⟨a7, b7, ys, D7, d7, m - 1, (by go_num), (by omega), HV7.out, ((ST7.out.put HO7.out).alloc _).more (by omega)⟩, (by simp [intOf]; omega)⟩
                  exact AllReadyH.nil
                exact AllReadyH.nil
              refine AllReadyH.cons rfl (fun K hK => ?_) ?_
              · go_simp
                have STA := hide (ST6.out.alloc (.cells #[.int .i64 0, .int .i64 0, .slice none 0 0] 25))
                have BT : Hid (Blk (w6.alloc (.cells #[.int .i64 0, .int .i64 0, .slice none 0 0] 25)) w6.heap.size 25 #[.int .i64 0, .int .i64 0, .slice none 0 0]) := hide (Blk.new _ _ _)
                refine hK.out _ _ STA.out.blk.three (fun hHeld => ?_)
                clear hK K
                try simp only [Act.put, List.getElem_toArray, List.getElem_cons_zero, List.getElem_cons_succ, List.setIfInBounds_toArray, List.set_cons_zero, List.set_cons_succ]
                refine wpAnyH_ready (rs := [4]) (by kernel_rfl) (by simp) ?_
                refine AllReadyH.cons rfl (fun K hK => ?_) ?_
                · go_simp
                  go_at_call 59
                  refine (RoomsDo_any a b D d xs k6 r6 s6 _ (Sl.of_own STA.out.own) HV.out).mono ?_
                  rintro _ w7 ⟨a7, b7, ys, D7, d7, ok7, hv7, rfl, ho7, hb7⟩
                  have ST7 := hide (STA.out.to hb7)
                  have HO7 := hide (own_mono ho7 (show p + 1 ≤ _ from STA.out.size))
                  have HN7 := hide (fun k hk => (ho7.lt k hk).1 : ∀ k, (Value.slice D7 ys.length d7).ownBlock = some k → _ ≤ k)
                  have hq7 := BT.out.lt
                  replace BT := hide (BT.out.to hb7)
                  have HV7 := hide hv7
                  have hs7 := ST7.out.size
                  clear ho7 hb7 hv7
                  go_wp2_with fail
                  refine hK.out _ _ ST7.out.blk.three (fun hHeld => ?_)
                  clear hK K
                  try simp only [Act.put, List.getElem_toArray, List.getElem_cons_zero, List.getElem_cons_succ, List.setIfInBounds_toArray, List.set_cons_zero, List.set_cons_succ]
                  refine wpAnyH_take (i := 5) (v := ?_) rfl (by kernel_rfl) (by kernel_rfl) (by kernel_rfl) (fun _ _ _ h => h) (Or.inl ⟨by rfl, ?_⟩) (by assumption) ?_
                  rotate_left
                  · intro w' hSw
                    (try dsimp only at hSw)
                    go_simp
                    try (with_reducible rfl)
                  simp only [Act.put, List.getElem_toArray, List.getElem_cons_zero, List.getElem_cons_succ, List.setIfInBounds_toArray, List.set_cons_zero, List.set_cons_succ]
                  refine wpAnyH_take (i := 6) (v := ?_) rfl (by kernel_rfl) (by kernel_rfl) (by kernel_rfl) (fun _ _ _ h => h) (Or.inl ⟨by rfl, ?_⟩) (by assumption) ?_
                  rotate_left
                  · intro w' hSw
                    (try dsimp only at hSw)
                    go_simp
                    try (with_reducible rfl)
                  simp only [Act.put, List.getElem_toArray, List.getElem_cons_zero, List.getElem_cons_succ, List.setIfInBounds_toArray, List.set_cons_zero, List.set_cons_succ]
                  refine wpAnyH_take (i := 7) (v := ?_) rfl (by kernel_rfl) (by kernel_rfl) (by kernel_rfl) (fun _ _ _ h => h) (Or.inl ⟨by rfl, ?_⟩) (by assumption) ?_
                  rotate_left
                  · intro w' hSw
                    (try dsimp only at hSw)
                    go_simp
                    try (with_reducible rfl)
                  simp only [Act.put, List.getElem_toArray, List.getElem_cons_zero, List.getElem_cons_succ, List.setIfInBounds_toArray, List.set_cons_zero, List.set_cons_succ]
                  refine wpAnyH_ready (rs := [9]) (by kernel_rfl) (by simp) ?_
                  refine AllReadyH.cons rfl (fun K hK => ?_) ?_
                  · obtain ⟨x0, x1, x2⟩ := BT.out.three
                    have y0 := BT.out.frozen 0
                    have y1 := BT.out.frozen 1
                    have y2 := BT.out.frozen 2
                    have hpq : p < w6.heap.size := by first | omega | (have := ST.out.size; omega)
                    have hpn : ¬ (w6.heap.size = p) := by omega
                    have STB := hide (ST7.out.far3 hpq (fun e => (by have := (ST6.out.own.lt _ e).2; omega)) (.int .i64 a7) (.int .i64 b7) (.slice D7 ys.length d7))
                    have hoff := own_off HN7.out hq7
                    have HOB := hide (((HO7.out.kept (ssetc _ w6.heap.size 0 (.int .i64 a7)) hoff).kept (ssetc _ w6.heap.size 1 (.int .i64 b7)) hoff).kept (ssetc _ w6.heap.size 2 (.slice D7 ys.length d7)) hoff)
                    have BTB := hide (((BT.out.set_ 0 (.int .i64 a7)).set_ 1 (.int .i64 b7)).set_ 2 (.slice D7 ys.length d7))
                    go_simp
                    refine hK.out _ _ STB.out.blk.three (fun hHeld => ?_)
                    clear hK K x0 x1 x2 y0 y1 y2
                    try simp only [Act.put, List.getElem_toArray, List.getElem_cons_zero, List.getElem_cons_succ, List.setIfInBounds_toArray, List.set_cons_zero, List.set_cons_succ]
                    refine wpAnyH_take (i := 10) (v := ?_) rfl (by kernel_rfl) (by kernel_rfl) (by kernel_rfl) (fun _ _ _ h => h) (Or.inl ⟨by rfl, ?_⟩) (by assumption) ?_
                    rotate_left
                    · intro w' hSw
                      (try dsimp only at hSw)
                      go_simp
                      try (with_reducible rfl)
                    simp only [Act.put, List.getElem_toArray, List.getElem_cons_zero, List.getElem_cons_succ, List.setIfInBounds_toArray, List.set_cons_zero, List.set_cons_succ]
                    refine wpAnyH_done (by kernel_rfl) ?_ _
                    have x0 := (BTB.out.cell 0).trans (show _ = some (.int .i64 a7) by simp)
                    have x1 := (BTB.out.cell 1).trans (show _ = some (.int .i64 b7) by simp)
                    have x2 := (BTB.out.cell 2).trans (show _ = some (.slice D7 ys.length d7) by simp)
                    obtain ⟨y0, y1, y2⟩ := STB.out.blk.three
                    have z0 := STB.out.blk.frozen 0
                    have z1 := STB.out.blk.frozen 1
                    have z2 := STB.out.blk.frozen 2
                    have z3 := ST7.out.blk.frozen 0
                    have z4 := ST7.out.blk.frozen 1
                    have z5 := ST7.out.blk.frozen 2
                    obtain ⟨y3, y4, y5⟩ := ST7.out.blk.three
                    go_wp2_with fail
                    first
                      | exact ⟨⟨a7, b7, ys, D7, d7, m - 1, (by go_num), (by omega), HV7.out, (STB.out.put HOB.out).more (by omega)⟩, (by simp [intOf]; omega)⟩
                      | exact ⟨⟨a7, b7, ys, D7, d7, m - 1, (by go_num), (by omega), HV7.out, ((ST7.out.put HO7.out).alloc _).more (by omega)⟩, (by simp [intOf]; omega)⟩
                  exact AllReadyH.nil
                exact AllReadyH.nil
              exact AllReadyH.nil
            refine AllReadyH.cons rfl (fun K hK => ?_) ?_
            · go_simp
              have STA := hide (ST.out.drew.alloc (.cells #[.int .i64 0, .int .i64 0, .slice none 0 0] 25))
              have BT : Hid (Blk (wr.drew.alloc (.cells #[.int .i64 0, .int .i64 0, .slice none 0 0] 25)) wr.heap.size 25 #[.int .i64 0, .int .i64 0, .slice none 0 0]) := hide (Blk.new _ _ _)
              refine hK.out _ _ STA.out.blk.three (fun hHeld => ?_)
              clear hK K
              try simp only [Act.put, List.getElem_toArray, List.getElem_cons_zero, List.getElem_cons_succ, List.setIfInBounds_toArray, List.set_cons_zero, List.set_cons_succ]
              refine wpAnyH_ready (rs := [3]) (by kernel_rfl) (by simp) ?_
              refine AllReadyH.cons rfl (fun K hK => ?_) ?_
              · go_simp
                go_at_call 60
                refine (l20RoomDeed_any B g _ a b D xs.length d _ STA.out.rd (by omega) HL.out.1 HL.out.2).mono ?_
                rintro _ w6 ⟨k6, r6, s6, rfl, h6, o6⟩
                have ST6 := hide (STA.out.grown o6 h6)
                replace BT := hide (BT.out.grown o6 (fun he => by injection he with he; have := ST.out.size; have := ST.out.lt; omega))
                have hs6 := ST6.out.size
                clear o6 h6
                go_wp2_with fail
                refine hK.out _ _ ST6.out.blk.three (fun hHeld => ?_)
                clear hK K
                try simp only [Act.put, List.getElem_toArray, List.getElem_cons_zero, List.getElem_cons_succ, List.setIfInBounds_toArray, List.set_cons_zero, List.set_cons_succ]
                refine wpAnyH_ready (rs := [4]) (by kernel_rfl) (by simp) ?_
                refine AllReadyH.cons rfl (fun K hK => ?_) ?_
                · go_simp
                  go_at_call 59
                  refine (RoomsDo_any a b D d xs k6 r6 s6 _ (Sl.of_own ST6.out.own) HV.out).mono ?_
                  rintro _ w7 ⟨a7, b7, ys, D7, d7, ok7, hv7, rfl, ho7, hb7⟩
                  have ST7 := hide (ST6.out.to hb7)
                  have HO7 := hide (own_mono ho7 (show p + 1 ≤ _ from ST6.out.size))
                  have HN7 := hide (fun k hk => (ho7.lt k hk).1 : ∀ k, (Value.slice D7 ys.length d7).ownBlock = some k → _ ≤ k)
                  have hq7 := BT.out.lt
                  replace BT := hide (BT.out.to hb7)
                  have HV7 := hide hv7
                  have hs7 := ST7.out.size
                  clear ho7 hb7 hv7
                  go_wp2_with fail
                  refine hK.out _ _ ST7.out.blk.three (fun hHeld => ?_)
                  clear hK K
                  try simp only [Act.put, List.getElem_toArray, List.getElem_cons_zero, List.getElem_cons_succ, List.setIfInBounds_toArray, List.set_cons_zero, List.set_cons_succ]
                  refine wpAnyH_take (i := 5) (v := ?_) rfl (by kernel_rfl) (by kernel_rfl) (by kernel_rfl) (fun _ _ _ h => h) (Or.inl ⟨by rfl, ?_⟩) (by assumption) ?_
                  rotate_left
                  · intro w' hSw
                    (try dsimp only at hSw)
                    go_simp
                    try (with_reducible rfl)
                  simp only [Act.put, List.getElem_toArray, List.getElem_cons_zero, List.getElem_cons_succ, List.setIfInBounds_toArray, List.set_cons_zero, List.set_cons_succ]
                  refine wpAnyH_take (i := 6) (v := ?_) rfl (by kernel_rfl) (by kernel_rfl) (by kernel_rfl) (fun _ _ _ h => h) (Or.inl ⟨by rfl, ?_⟩) (by assumption) ?_
                  rotate_left
                  · intro w' hSw
                    (try dsimp only at hSw)
                    go_simp
                    try (with_reducible rfl)
                  simp only [Act.put, List.getElem_toArray, List.getElem_cons_zero, List.getElem_cons_succ, List.setIfInBounds_toArray, List.set_cons_zero, List.set_cons_succ]
                  refine wpAnyH_take (i := 7) (v := ?_) rfl (by kernel_rfl) (by kernel_rfl) (by kernel_rfl) (fun _ _ _ h => h) (Or.inl ⟨by rfl, ?_⟩) (by assumption) ?_
                  rotate_left
                  · intro w' hSw
                    (try dsimp only at hSw)
                    go_simp
                    try (with_reducible rfl)
                  simp only [Act.put, List.getElem_toArray, List.getElem_cons_zero, List.getElem_cons_succ, List.setIfInBounds_toArray, List.set_cons_zero, List.set_cons_succ]
                  refine wpAnyH_ready (rs := [9]) (by kernel_rfl) (by simp) ?_
                  refine AllReadyH.cons rfl (fun K hK => ?_) ?_
                  · obtain ⟨x0, x1, x2⟩ := BT.out.three
                    have y0 := BT.out.frozen 0
                    have y1 := BT.out.frozen 1
                    have y2 := BT.out.frozen 2
                    have hpq : p < wr.heap.size := by first | omega | (have := ST.out.size; omega)
                    have hpn : ¬ (wr.heap.size = p) := by omega
                    have STB := hide (ST7.out.far3 hpq (fun e => (by have := (ST.out.own.lt _ e).2; omega)) (.int .i64 a7) (.int .i64 b7) (.slice D7 ys.length d7))
                    have hoff := own_off HN7.out hq7
                    have HOB := hide (((HO7.out.kept (ssetc _ wr.heap.size 0 (.int .i64 a7)) hoff).kept (ssetc _ wr.heap.size 1 (.int .i64 b7)) hoff).kept (ssetc _ wr.heap.size 2 (.slice D7 ys.length d7)) hoff)
                    have BTB := hide (((BT.out.set_ 0 (.int .i64 a7)).set_ 1 (.int .i64 b7)).set_ 2 (.slice D7 ys.length d7))
                    go_simp
                    refine hK.out _ _ STB.out.blk.three (fun hHeld => ?_)
                    clear hK K x0 x1 x2 y0 y1 y2
                    try simp only [Act.put, List.getElem_toArray, List.getElem_cons_zero, List.getElem_cons_succ, List.setIfInBounds_toArray, List.set_cons_zero, List.set_cons_succ]
                    refine wpAnyH_take (i := 10) (v := ?_) rfl (by kernel_rfl) (by kernel_rfl) (by kernel_rfl) (fun _ _ _ h => h) (Or.inl ⟨by rfl, ?_⟩) (by assumption) ?_
                    rotate_left
                    · intro w' hSw
                      (try dsimp only at hSw)
                      go_simp
                      try (with_reducible rfl)
                    simp only [Act.put, List.getElem_toArray, List.getElem_cons_zero, List.getElem_cons_succ, List.setIfInBounds_toArray, List.set_cons_zero, List.set_cons_succ]
                    refine wpAnyH_done (by kernel_rfl) ?_ _
                    have x0 := (BTB.out.cell 0).trans (show _ = some (.int .i64 a7) by simp)
                    have x1 := (BTB.out.cell 1).trans (show _ = some (.int .i64 b7) by simp)
                    have x2 := (BTB.out.cell 2).trans (show _ = some (.slice D7 ys.length d7) by simp)
                    obtain ⟨y0, y1, y2⟩ := STB.out.blk.three
                    have z0 := STB.out.blk.frozen 0
                    have z1 := STB.out.blk.frozen 1
                    have z2 := STB.out.blk.frozen 2
                    have z3 := ST7.out.blk.frozen 0
                    have z4 := ST7.out.blk.frozen 1
                    have z5 := ST7.out.blk.frozen 2
                    obtain ⟨y3, y4, y5⟩ := ST7.out.blk.three
                    go_wp2_with fail
                    first
                      | exact ⟨⟨a7, b7, ys, D7, d7, m - 1, (by go_num), (by omega), HV7.out, (STB.out.put HOB.out).more (by omega)⟩, (by simp [intOf]; omega)⟩
                      | exact ⟨⟨a7, b7, ys, D7, d7, m - 1, (by go_num), (by omega), HV7.out, ((ST7.out.put HO7.out).alloc _).more (by omega)⟩, (by simp [intOf]; omega)⟩
                  exact AllReadyH.nil
                exact AllReadyH.nil
              exact AllReadyH.nil
            exact AllReadyH.nil
          · skip
            go_wp2_with fail
            refine (odd_u B g _ n _ ST.out.rd (by omega) hn).mono ?_
            rintro e w8 ⟨bo, rfl, h2, o2⟩
            have ST8 := hide (ST.out.only o2 h2)
            obtain ⟨a0, a1, b0, b1, _, _, l0, l1, _⟩ := rooms_parts HV.out
            clear h2 o2 ST c0 c1 c2
            cases bo
            · skip
              obtain ⟨c0, c1, c2⟩ := ST8.out.blk.three
              obtain ⟨r0, r1, r2⟩ := ST8.out.res.three
              have f0 := ST8.out.res.frozen 0
              have f1 := ST8.out.res.frozen 1
              have f2 := ST8.out.res.frozen 2
              go_wp2_with fail
              refine ST8.out.ret ?_ ?_ ?_ ?_ ?_ rfl rfl
              · omega
              · omega
              · first | rfl | (simp; done)
              · first | omega | (simp; done) | (simp; omega)
              · omega
            · go_wp2_with fail
              refine (pick_u B g _ 4 _ ST8.out.rd (by omega)).mono ?_
              rintro e w9 ⟨v, u1, u2, _, rfl, h3, o3⟩
              have u3 := u2 (by omega)
              have ST9 := hide (ST8.out.only o3 h3)
              have hs9 := ST9.out.size
              have hlt9 := ST9.out.lt
              clear u2 h3 o3 ST8
              obtain ⟨c0, c1, c2⟩ := ST9.out.blk.three
              obtain ⟨r0, r1, r2⟩ := ST9.out.res.three
              have f0 := ST9.out.res.frozen 0
              have f1 := ST9.out.res.frozen 1
              have f2 := ST9.out.res.frozen 2
              have g0 := ST9.out.blk.frozen 0
              have g1 := ST9.out.blk.frozen 1
              have g2 := ST9.out.blk.frozen 2
              rcases (by omega : v = 0 ∨ v = 1 ∨ v = 2 ∨ v = 3) with rfl | rfl | rfl | rfl
              · have STE := hide (ST9.out.set0 (a + 1))
                go_wp2_with fail
                refine STE.out.ret ?_ ?_ ?_ ?_ ?_ rfl rfl
                · omega
                · omega
                · first | rfl | (simp; done)
                · first | omega | (simp; done) | (simp; omega)
                · omega
              · have HE : Hid ((w9.alloc (.cells #[] 3)).ownsRow (p + 1) 3 1 (.slice (some ⟨w9.heap.size, 0, none⟩) 0 0) 0 (encI [])) := hide (by simpa [encI] using World.ownsRow_lit (base := p + 1) (e := 3) (size := 1) w9 #[] 0 (by omega) (Nat.zero_le _) rfl)
                have STE : Hid (QS B g (P + 9 + 6 * (13 - m) + 1 + 1) w p a b [] (some ⟨w9.heap.size, 0, none⟩) 0 ((w9.setCell ⟨p, 2, none⟩ (.slice (some ⟨w9.heap.size, 0, none⟩) 0 0)).alloc (.cells #[] 3))) := hide (by rw [← World.setCell_alloc_past _ _ _ _ hs9]; exact ((ST9.out.alloc (.cells #[] 3)).set2 [] rfl HE.out))
                obtain ⟨x0, x1, x2⟩ := STE.out.blk.three
                obtain ⟨s0, s1, s2⟩ := STE.out.res.three
                have t0 := STE.out.res.frozen 0
                have t1 := STE.out.res.frozen 1
                have t2 := STE.out.res.frozen 2
                have hq9 : w.heap.size < w9.heap.size := by omega
                go_wp2_with fail
                rw [← World.setCell_alloc_past _ _ _ _ (show w.heap.size < (((w9.setCell _ _).setCell _ _).setCell _ _).heap.size by simp [World.setCell]; omega), ← World.setCell_alloc_past _ _ _ _ (show w.heap.size < ((w9.setCell _ _).setCell _ _).heap.size by simp [World.setCell]; omega), ← World.setCell_alloc_past _ _ _ _ (show w.heap.size < (w9.setCell _ _).heap.size by simp [World.setCell]; omega)]
                refine STE.out.ret ?_ ?_ ?_ ?_ ?_ rfl rfl
                · omega
                · omega
                · rfl
                · simp
                · omega
              · go_wp2_with fail
                obtain ⟨q, hD⟩ := own_some ST9.out.own l0
                subst hD
                have hw1 : IntKind.i64.wrap (a + 2) = a + 2 := IntWalk.i64_in (a + 2) (by omega)
                have hw2 : IntKind.i64.wrap (b + 2) = b + 2 := IntWalk.i64_in (b + 2) (by omega)
                have hlq := ST9.out.own.lt q rfl
                have n0 : (0 : Int) < xs.length := by omega
                have n1 : 0 < xs.length := by omega
                refine wp_region_held_drew (S := fun w' => w'.cell? ⟨p, 0, none⟩ = some (.int .i64 a) ∧ w'.cell? ⟨p, 1, none⟩ = some (.int .i64 b) ∧ w'.cell? ⟨p, 2, none⟩ = some (.slice (some ⟨q, 0, none⟩) xs.length d)) (by kernel_rfl) ⟨c0, c1, c2⟩ (fun hHeld => ?_)
                clear c0 c1 c2 r0 r1 r2 f0 f1 f2 g0 g1 g2
                refine wpAnyH_take (i := 0) (v := ?_) rfl (by kernel_rfl) (by kernel_rfl) (by kernel_rfl) (fun _ _ _ h => h) (Or.inl ⟨by rfl, ?_⟩) (by assumption) ?_
                rotate_left
                · intro w' hSw
                  (try dsimp only at hSw)
                  go_simp
                  try (with_reducible rfl)
                simp only [Act.put, List.getElem_toArray, List.getElem_cons_zero, List.setIfInBounds_toArray, List.set_cons_zero, List.set_cons_succ]
                refine wpAnyH_take (i := 1) (v := ?_) rfl (by kernel_rfl) (by kernel_rfl) (by kernel_rfl) (fun _ _ _ h => h) (Or.inl ⟨by rfl, ?_⟩) (by assumption) ?_
                rotate_left
                · intro w' hSw
                  (try dsimp only at hSw)
                  go_simp
                  try (with_reducible rfl)
                simp only [Act.put, List.getElem_toArray, List.getElem_cons_zero, List.getElem_cons_succ, List.setIfInBounds_toArray, List.set_cons_zero, List.set_cons_succ]
                refine wpAnyH_take (i := 2) (v := ?_) rfl (by kernel_rfl) (by kernel_rfl) (by kernel_rfl) (fun _ _ _ h => h) (Or.inl ⟨by rfl, ?_⟩) (by assumption) ?_
                rotate_left
                · intro w' hSw
                  (try dsimp only at hSw)
                  go_simp
                  try (with_reducible rfl)
                simp only [Act.put, List.getElem_toArray, List.getElem_cons_zero, List.getElem_cons_succ, List.setIfInBounds_toArray, List.set_cons_zero, List.set_cons_succ]
                refine wpAnyH_take (i := 3) (v := ?_) rfl (by kernel_rfl) (by kernel_rfl) (by kernel_rfl) (fun _ _ _ h => h) (Or.inl ⟨by rfl, ?_⟩) (by assumption) ?_
                rotate_left
                · intro w' hSw
                  (try dsimp only at hSw)
                  go_simp
                  try (with_reducible rfl)
                simp only [Act.put, List.getElem_toArray, List.getElem_cons_zero, List.getElem_cons_succ, List.setIfInBounds_toArray, List.set_cons_zero, List.set_cons_succ]
                refine wpAnyH_take (i := 4) (v := ?_) rfl (by kernel_rfl) (by kernel_rfl) (by kernel_rfl) (fun _ _ _ h => h) (Or.inl ⟨by rfl, ?_⟩) (by assumption) ?_
                rotate_left
                · intro w' hSw
                  (try dsimp only at hSw)
                  go_simp
                  try (with_reducible rfl)
                simp only [Act.put, List.getElem_toArray, List.getElem_cons_zero, List.getElem_cons_succ, List.setIfInBounds_toArray, List.set_cons_zero, List.set_cons_succ]
                refine wpAnyH_take (i := 5) (v := ?_) rfl (by kernel_rfl) (by kernel_rfl) (by kernel_rfl) (fun _ _ _ h => h) (Or.inl ⟨by rfl, ?_⟩) (by assumption) ?_
                rotate_left
                · intro w' hSw
                  (try dsimp only at hSw)
                  go_simp
                  try (with_reducible rfl)
                simp only [Act.put, List.getElem_toArray, List.getElem_cons_zero, List.getElem_cons_succ, List.setIfInBounds_toArray, List.set_cons_zero, List.set_cons_succ]
                refine wpAnyH_take (i := 6) (v := ?_) rfl (by kernel_rfl) (by kernel_rfl) (by kernel_rfl) (fun _ _ _ h => h) (Or.inl ⟨by rfl, ?_⟩) (by assumption) ?_
                rotate_left
                · intro w' hSw
                  (try dsimp only at hSw)
                  go_simp
                  try (with_reducible rfl)
                simp only [Act.put, List.getElem_toArray, List.getElem_cons_zero, List.getElem_cons_succ, List.setIfInBounds_toArray, List.set_cons_zero, List.set_cons_succ]
                refine wpAnyH_take (i := 7) (v := ?_) rfl (by kernel_rfl) (by kernel_rfl) (by kernel_rfl) (fun _ _ _ h => h) (Or.inl ⟨by rfl, ?_⟩) (by assumption) ?_
                rotate_left
                · intro w' hSw
                  (try dsimp only at hSw)
                  go_simp
                  try (with_reducible rfl)
                simp only [Act.put, List.getElem_toArray, List.getElem_cons_zero, List.getElem_cons_succ, List.setIfInBounds_toArray, List.set_cons_zero, List.set_cons_succ]
                refine wpAnyH_take (i := 9) (v := ?_) rfl (by kernel_rfl) (by kernel_rfl) (by kernel_rfl) (fun _ _ _ h => h) (Or.inl ⟨by rfl, ?_⟩) (by assumption) ?_
                rotate_left
                · intro w' hSw
                  (try dsimp only at hSw)
                  go_simp
                  try (with_reducible rfl)
                simp only [Act.put, List.getElem_toArray, List.getElem_cons_zero, List.getElem_cons_succ, List.setIfInBounds_toArray, List.set_cons_zero, List.set_cons_succ]
                refine wpAnyH_ready (rs := [8, 10]) (by kernel_rfl) (by simp) ?_
                refine AllReadyH.cons rfl (fun K hK => ?_) ?_
                · go_simp
                  have STA := hide (ST9.out.drew.alloc (.cells #[.int .i64 (-1), .int .i64 (a + 2), .int .i64 (b + 2)] 3))
                  have BA : Hid (Blk ((w9.drew).alloc (.cells #[.int .i64 (-1), .int .i64 (a + 2), .int .i64 (b + 2)] 3)) w9.heap.size 3 #[.int .i64 (-1), .int .i64 (a + 2), .int .i64 (b + 2)]) := hide (Blk.new _ _ _)
                  refine hK.out _ _ STA.out.blk.three (fun hHeld => ?_)
                  clear hK K
                  try simp only [Act.put, List.getElem_toArray, List.getElem_cons_zero, List.getElem_cons_succ, List.setIfInBounds_toArray, List.set_cons_zero, List.set_cons_succ]
                  refine wpAnyH_ready (rs := [10]) (by kernel_rfl) (by simp) ?_
                  refine AllReadyH.cons rfl (fun K hK => ?_) ?_
                  · go_simp
                    go_at_call 37
                    refine (pick_u B g _ 3 _ STA.out.rd (by omega)).mono ?_
                    rintro _ w10 ⟨r10, p10, q10, _, rfl, h7, o7⟩
                    have STP := hide (STA.out.only o7 h7)
                    have q11 : r10 < 3 := q10 (by decide)
                    obtain ⟨nr, y, rfl, hy⟩ := arr3_at (-1) (a + 2) (b + 2) p10 q11
                    replace BA := hide (Blk.grown BA.out o7.1 (fun he => by injection he with he; omega))
                    clear o7 h7
                    have hs10 := STP.out.size
                    go_wp2_with fail
                    refine hK.out _ _ STP.out.blk.three (fun hHeld => ?_)
                    clear hK K
                    try simp only [Act.put, List.getElem_toArray, List.getElem_cons_zero, List.getElem_cons_succ, List.setIfInBounds_toArray, List.set_cons_zero, List.set_cons_succ]
                    have hcy := (Blk.cell BA.out nr).trans hy
                    refine wpAnyH_more (T := fun w' => (w'.cell? ⟨p, 0, none⟩ = some (.int .i64 a) ∧ w'.cell? ⟨p, 1, none⟩ = some (.int .i64 b) ∧ w'.cell? ⟨p, 2, none⟩ = some (.slice (some ⟨q, 0, none⟩) xs.length d)) ∧ w'.cell? ⟨w9.heap.size, nr, none⟩ = some (.int .i64 y)) (fun _ h => h.1) _ _ _ _ ?_
                    replace hHeld := (show ((w10).cell? ⟨p, 0, none⟩ = some (.int .i64 a) ∧ (w10).cell? ⟨p, 1, none⟩ = some (.int .i64 b) ∧ (w10).cell? ⟨p, 2, none⟩ = some (.slice (some ⟨q, 0, none⟩) xs.length d)) ∧ (w10).cell? ⟨w9.heap.size, nr, none⟩ = some (.int .i64 y) from ⟨STP.out.blk.three, hcy⟩)
                    refine wpAnyH_take (i := 11) (v := ?_) rfl (by kernel_rfl) (by kernel_rfl) (by kernel_rfl) (fun _ _ _ h => h) (Or.inl ⟨by rfl, ?_⟩) (by assumption) ?_
                    rotate_left
                    · intro w' hSw
                      (try dsimp only at hSw)
                      go_simp
                      try (with_reducible rfl)
                    simp only [Act.put, List.getElem_toArray, List.getElem_cons_zero, List.getElem_cons_succ, List.setIfInBounds_toArray, List.set_cons_zero, List.set_cons_succ]
                    refine wpAnyH_take (i := 12) (v := ?_) rfl (by kernel_rfl) (by kernel_rfl) (by kernel_rfl) (fun _ _ _ h => h) (Or.inl ⟨by rfl, ?_⟩) (by assumption) ?_
                    rotate_left
                    · intro w' hSw
                      (try dsimp only at hSw)
                      go_simp
                      try (with_reducible rfl)
                    simp only [Act.put, List.getElem_toArray, List.getElem_cons_zero, List.getElem_cons_succ, List.setIfInBounds_toArray, List.set_cons_zero, List.set_cons_succ]
                    refine wpAnyH_take (i := 13) (v := ?_) rfl (by kernel_rfl) (by kernel_rfl) (by kernel_rfl) (fun _ _ _ h => h) (Or.inl ⟨by rfl, ?_⟩) (by assumption) ?_
                    rotate_left
                    · intro w' hSw
                      (try dsimp only at hSw)
                      go_simp
                      try (with_reducible rfl)
                    simp only [Act.put, List.getElem_toArray, List.getElem_cons_zero, List.getElem_cons_succ, List.setIfInBounds_toArray, List.set_cons_zero, List.set_cons_succ]
                    refine wpAnyH_ready (rs := [14]) (by kernel_rfl) (by simp) ?_
                    refine AllReadyH.cons rfl (fun K hK => ?_) ?_
                    · obtain ⟨x9, hx9⟩ := st_cell STP.out.own l0
                      have x1 := STP.out.own.frozenAt 0
                      have STE := hide (STP.out.st (y := y) l0)
                      have hqb : q ≠ w9.heap.size := by have := (ST9.out.own.lt q rfl).2; omega
                      have hcz := (World.cell?_setCell_far (w10) ⟨q, 0, none⟩ ⟨w9.heap.size, nr, none⟩ (.int .i64 y) hqb).trans hcy
                      go_simp
                      refine hK.out _ _ ⟨by simpa using STE.out.blk.three, hcz⟩ (fun hHeld => ?_)
                      clear hK K hcz hHeld
                      try simp only [Act.put, List.getElem_toArray, List.getElem_cons_zero, List.getElem_cons_succ, List.setIfInBounds_toArray, List.set_cons_zero, List.set_cons_succ]
                      refine wpAnyH_done (by kernel_rfl) ?_ _
                      clear hcy x1 hx9 hs10
                      generalize ((w10).setCell ⟨q, 0, none⟩ (.int .i64 y)) = wE at *
                      obtain ⟨c0, c1, c2⟩ := STE.out.blk.three
                      obtain ⟨r0, r1, r2⟩ := STE.out.res.three
                      have f0 := STE.out.res.frozen 0
                      have f1 := STE.out.res.frozen 1
                      have f2 := STE.out.res.frozen 2
                      go_wp2_with fail
                      refine STE.out.ret ?_ ?_ ?_ ?_ ?_ rfl rfl
                      · omega
                      · omega
                      · first | rfl | (simp; done)
                      · first | omega | (simp; done) | (simp; omega)
                      · omega
                    exact AllReadyH.nil
                  exact AllReadyH.nil
                refine AllReadyH.cons rfl (fun K hK => ?_) ?_
                · go_simp
                  go_at_call 37
                  refine (pick_u B g _ 3 _ ST9.out.drew.rd (by omega)).mono ?_
                  rintro _ w10 ⟨r10, p10, q10, _, rfl, h7, o7⟩
                  have STP := hide (ST9.out.drew.only o7 h7)
                  have q11 : r10 < 3 := q10 (by decide)
                  obtain ⟨nr, y, rfl, hy⟩ := arr3_at (-1) (a + 2) (b + 2) p10 q11
                  clear o7 h7
                  have hs10 := STP.out.size
                  go_wp2_with fail
                  refine hK.out _ _ STP.out.blk.three (fun hHeld => ?_)
                  clear hK K
                  try simp only [Act.put, List.getElem_toArray, List.getElem_cons_zero, List.getElem_cons_succ, List.setIfInBounds_toArray, List.set_cons_zero, List.set_cons_succ]
                  refine wpAnyH_ready (rs := [8]) (by kernel_rfl) (by simp) ?_
                  refine AllReadyH.cons rfl (fun K hK => ?_) ?_
                  · go_simp
                    have STA := hide (STP.out.alloc (.cells #[.int .i64 (-1), .int .i64 (a + 2), .int .i64 (b + 2)] 3))
                    have BA : Hid (Blk ((w10).alloc (.cells #[.int .i64 (-1), .int .i64 (a + 2), .int .i64 (b + 2)] 3)) w10.heap.size 3 #[.int .i64 (-1), .int .i64 (a + 2), .int .i64 (b + 2)]) := hide (Blk.new _ _ _)
                    refine hK.out _ _ STA.out.blk.three (fun hHeld => ?_)
                    clear hK K
                    try simp only [Act.put, List.getElem_toArray, List.getElem_cons_zero, List.getElem_cons_succ, List.setIfInBounds_toArray, List.set_cons_zero, List.set_cons_succ]
                    have hcy := (Blk.cell BA.out nr).trans hy
                    refine wpAnyH_more (T := fun w' => (w'.cell? ⟨p, 0, none⟩ = some (.int .i64 a) ∧ w'.cell? ⟨p, 1, none⟩ = some (.int .i64 b) ∧ w'.cell? ⟨p, 2, none⟩ = some (.slice (some ⟨q, 0, none⟩) xs.length d)) ∧ w'.cell? ⟨w10.heap.size, nr, none⟩ = some (.int .i64 y)) (fun _ h => h.1) _ _ _ _ ?_
                    replace hHeld := (show (((w10).alloc (.cells #[.int .i64 (-1), .int .i64 (a + 2), .int .i64 (b + 2)] 3)).cell? ⟨p, 0, none⟩ = some (.int .i64 a) ∧ ((w10).alloc (.cells #[.int .i64 (-1), .int .i64 (a + 2), .int .i64 (b + 2)] 3)).cell? ⟨p, 1, none⟩ = some (.int .i64 b) ∧ ((w10).alloc (.cells #[.int .i64 (-1), .int .i64 (a + 2), .int .i64 (b + 2)] 3)).cell? ⟨p, 2, none⟩ = some (.slice (some ⟨q, 0, none⟩) xs.length d)) ∧ ((w10).alloc (.cells #[.int .i64 (-1), .int .i64 (a + 2), .int .i64 (b + 2)] 3)).cell? ⟨w10.heap.size, nr, none⟩ = some (.int .i64 y) from ⟨STA.out.blk.three, hcy⟩)
                    refine wpAnyH_take (i := 11) (v := ?_) rfl (by kernel_rfl) (by kernel_rfl) (by kernel_rfl) (fun _ _ _ h => h) (Or.inl ⟨by rfl, ?_⟩) (by assumption) ?_
                    rotate_left
                    · intro w' hSw
                      (try dsimp only at hSw)
                      go_simp
                      try (with_reducible rfl)
                    simp only [Act.put, List.getElem_toArray, List.getElem_cons_zero, List.getElem_cons_succ, List.setIfInBounds_toArray, List.set_cons_zero, List.set_cons_succ]
                    refine wpAnyH_take (i := 12) (v := ?_) rfl (by kernel_rfl) (by kernel_rfl) (by kernel_rfl) (fun _ _ _ h => h) (Or.inl ⟨by rfl, ?_⟩) (by assumption) ?_
                    rotate_left
                    · intro w' hSw
                      (try dsimp only at hSw)
                      go_simp
                      try (with_reducible rfl)
                    simp only [Act.put, List.getElem_toArray, List.getElem_cons_zero, List.getElem_cons_succ, List.setIfInBounds_toArray, List.set_cons_zero, List.set_cons_succ]
                    refine wpAnyH_take (i := 13) (v := ?_) rfl (by kernel_rfl) (by kernel_rfl) (by kernel_rfl) (fun _ _ _ h => h) (Or.inl ⟨by rfl, ?_⟩) (by assumption) ?_
                    rotate_left
                    · intro w' hSw
                      (try dsimp only at hSw)
                      go_simp
                      try (with_reducible rfl)
                    simp only [Act.put, List.getElem_toArray, List.getElem_cons_zero, List.getElem_cons_succ, List.setIfInBounds_toArray, List.set_cons_zero, List.set_cons_succ]
                    refine wpAnyH_ready (rs := [14]) (by kernel_rfl) (by simp) ?_
                    refine AllReadyH.cons rfl (fun K hK => ?_) ?_
                    · obtain ⟨x9, hx9⟩ := st_cell STA.out.own l0
                      have x1 := STA.out.own.frozenAt 0
                      have STE := hide (STA.out.st (y := y) l0)
                      have hqb : q ≠ w10.heap.size := by have := (STP.out.own.lt q rfl).2; omega
                      have hcz := (World.cell?_setCell_far ((w10).alloc (.cells #[.int .i64 (-1), .int .i64 (a + 2), .int .i64 (b + 2)] 3)) ⟨q, 0, none⟩ ⟨w10.heap.size, nr, none⟩ (.int .i64 y) hqb).trans hcy
                      go_simp
                      refine hK.out _ _ ⟨by simpa using STE.out.blk.three, hcz⟩ (fun hHeld => ?_)
                      clear hK K hcz hHeld
                      try simp only [Act.put, List.getElem_toArray, List.getElem_cons_zero, List.getElem_cons_succ, List.setIfInBounds_toArray, List.set_cons_zero, List.set_cons_succ]
                      refine wpAnyH_done (by kernel_rfl) ?_ _
                      clear hcy x1 hx9 hs10
                      generalize (((w10).alloc (.cells #[.int .i64 (-1), .int .i64 (a + 2), .int .i64 (b + 2)] 3)).setCell ⟨q, 0, none⟩ (.int .i64 y)) = wE at *
                      obtain ⟨c0, c1, c2⟩ := STE.out.blk.three
                      obtain ⟨r0, r1, r2⟩ := STE.out.res.three
                      have f0 := STE.out.res.frozen 0
                      have f1 := STE.out.res.frozen 1
                      have f2 := STE.out.res.frozen 2
                      go_wp2_with fail
                      refine STE.out.ret ?_ ?_ ?_ ?_ ?_ rfl rfl
                      · omega
                      · omega
                      · first | rfl | (simp; done)
                      · first | omega | (simp; done) | (simp; omega)
                      · omega
                    exact AllReadyH.nil
                  exact AllReadyH.nil
                exact AllReadyH.nil
              · have STE := hide (ST9.out.set1 101)
                go_wp2_with fail
                refine STE.out.ret ?_ ?_ ?_ ?_ ?_ rfl rfl
                · omega
                · omega
                · first | rfl | (simp; done)
                · first | omega | (simp; done) | (simp; omega)
                · omega

end Go.Proofs.YtgkgdbmmhcdohaaDoor
