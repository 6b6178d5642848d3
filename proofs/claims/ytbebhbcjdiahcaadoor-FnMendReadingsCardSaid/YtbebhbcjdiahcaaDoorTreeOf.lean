/-
  The tree of a radial network: what the program's function computes.
-/
import Derived.Test.YtbebhbcjdiahcaaDoorSearchW
namespace Go.Proofs.YtbebhbcjdiahcaaDoor
open Go.RowKit
set_option linter.unusedVariables false

/-- The lines through which buses are fed, -1 for all others. -/
def PN (ls : List (Int × Int × Int)) (on : List Bool) (bs : List (Int × Int)) (ps : List Int) : Prop := PL ls on bs ps ∧ ∀ x, x < bs.length → -1 ≤ at_ ps x
theorem PN.unique {ls : List (Int × Int × Int)} {on : List Bool} {bs : List (Int × Int)} {ps qs : List Int} (hp : PN ls on bs ps) (hq : PN ls on bs qs) (hc : ¬ Cyc ls (onP on)) (ho : OneF ls on bs) : ps = qs :=
  same_of_at (hp.1.len.trans hq.1.len.symm) fun j hj => by
    rw [hp.1.len] at hj
    have h1 := hp.2 j hj
    have h2 := hq.2 j hj
    rcases hp.1.same hq.1 hc ho hj with ⟨h3, h4⟩ | ⟨_, h3⟩ <;> omega
/-- The order in which buses are found. -/
structure OrdR (ls : List (Int × Int × Int)) (bs : List (Int × Int)) (ps ord : List Int) : Prop where
  nod : ord.Nodup
  rng : ∀ x ∈ ord, 0 ≤ x ∧ x < bs.length
  bk : OrdP ls ps ord
  all : ∀ x : Nat, x < bs.length → 0 ≤ at_ ps x → (x : Int) ∈ ord
/-- What treeOf returns. -/
def TreeR (b : Int) (A : Option Addr) (c : Nat) (ls : List (Int × Int × Int)) (on : List Bool) (bs : List (Int × Int)) (w : World) (e : Ending) (w' : World) : Prop :=
  Below w.heap.size w w' ∧ ((radB b ls on bs = false ∧ e = .returned (.tuple #[.agg #[.int .i64 0, .slice none 0 0, .slice none 0 0, .slice none 0 0, .slice none 0 0], .bool false])) ∨
    (radB b ls on bs = true ∧ ∃ (ps ord : List Int) (P F O : Option Addr) (pc fn fc oc : Nat), e = .returned (.tuple #[.agg #[.int .i64 b, .slice A ls.length c, .slice F fn fc, .slice P ps.length pc, .slice O ord.length oc], .bool true]) ∧ w'.ownsRow w.heap.size 3 1 (.slice O ord.length oc) ord.length (encI ord) ∧ OrdR ls bs ps ord ∧ w'.ownsRow w.heap.size 3 1 (.slice P ps.length pc) ps.length (encI ps) ∧ PN ls on bs ps))

theorem Blk.set5 {w : World} {g : Nat} {t : TypeId} {a0 a1 a2 a3 a4 u0 u1 u2 u3 u4 : Value} (h : Blk w g t #[a0, a1, a2, a3, a4]) :
    Blk (((((w.setCell ⟨g, 0, none⟩ u0).setCell ⟨g, 1, none⟩ u1).setCell ⟨g, 2, none⟩ u2).setCell ⟨g, 3, none⟩ u3).setCell ⟨g, 4, none⟩ u4) g t #[u0, u1, u2, u3, u4] :=
  ((((h.set_ 0 u0).set_ 1 u1).set_ 2 u2).set_ 3 u3).set_ 4 u4
theorem below_set5 {w w' : World} {g B : Nat} {u0 u1 u2 u3 u4 : Value} (h : Below B w w') (hg : B ≤ g) :
    Below B w (((((w'.setCell ⟨g, 0, none⟩ u0).setCell ⟨g, 1, none⟩ u1).setCell ⟨g, 2, none⟩ u2).setCell ⟨g, 3, none⟩ u3).setCell ⟨g, 4, none⟩ u4) :=
  ((((h.setCell (p := ⟨g, 0, none⟩) hg _).setCell (p := ⟨g, 1, none⟩) hg _).setCell (p := ⟨g, 2, none⟩) hg _).setCell (p := ⟨g, 3, none⟩) hg _).setCell (p := ⟨g, 4, none⟩) hg _
theorem own_set5g {w : World} {base e size n g : Nat} {v : Value} {cs : List Value} {u0 u1 u2 u3 u4 : Value} (h : w.ownsRow base e size v n cs) (hg : ∀ k, v.ownBlock = some k → k ≠ g) :
    (((((w.setCell ⟨g, 0, none⟩ u0).setCell ⟨g, 1, none⟩ u1).setCell ⟨g, 2, none⟩ u2).setCell ⟨g, 3, none⟩ u3).setCell ⟨g, 4, none⟩ u4).ownsRow base e size v n cs := by
  have one : ∀ {w : World} {i : Nat} {u : Value}, w.ownsRow base e size v n cs → (w.setCell ⟨g, i, none⟩ u).ownsRow base e size v n cs := fun {w i u} h =>
    ((But.refl (fun x => x = g) w).setCell ⟨g, i, none⟩ u fun _ => rfl).own h fun k hk he => hg k hk he
  exact one (one (one (one (one h))))
theorem own_set5 {w : World} {base e size n g q : Nat} {c : Nat} {cs : List Value} {u0 u1 u2 u3 u4 : Value} (h : w.ownsRow base e size (.slice (some ⟨q, 0, none⟩) n c) n cs) (hg : q ≠ g) :
    (((((w.setCell ⟨g, 0, none⟩ u0).setCell ⟨g, 1, none⟩ u1).setCell ⟨g, 2, none⟩ u2).setCell ⟨g, 3, none⟩ u3).setCell ⟨g, 4, none⟩ u4).ownsRow base e size (.slice (some ⟨q, 0, none⟩) n c) n cs := by
  have one : ∀ {w : World} {i : Nat} {u : Value}, w.ownsRow base e size (.slice (some ⟨q, 0, none⟩) n c) n cs → (w.setCell ⟨g, i, none⟩ u).ownsRow base e size (.slice (some ⟨q, 0, none⟩) n c) n cs := fun {w i u} h =>
    ((But.refl (fun x => x = g) w).setCell ⟨g, i, none⟩ u fun _ => rfl).own h fun k hk he => by
      have : q = k := by simpa [Value.ownBlock] using hk
      omega
  exact one (one (one (one (one h))))

theorem TS.set1 {base ob g qf qp nb m c f : Nat} {A E : Option Addr} {fs ps ord : List Int} {w : World} (L : TL base ob g qf qp) (h : TS base ob g qf qp nb A m c fs ps ord E f w) {y : Nat} (a : Int) :
    TS base ob g qf qp nb A m c (fs.set y a) ps ord E f (w.setCell ⟨qf, y, none⟩ (.int .i64 a)) := by
  have s1 : But (fun x => x = qf) w (w.setCell ⟨qf, y, none⟩ (.int .i64 a)) := (But.refl _ w).setCell _ _ fun _ => rfl
  refine ⟨s1.blk h.tr L.gf, ?_, ?_, ?_⟩
  · have := (h.hf.stored y (.int .i64 a)).1
    rw [← encI_setU] at this
    exact this
  · exact s1.own h.hp (fun k hk he => by
      have : qp = k := by simpa [Value.ownBlock] using hk
      have := L.fp
      omega)
  · exact s1.own h.ho (fun k hk he => by have := (h.ho.lt k hk).1; have := L.fo; omega)
/-- A list of which the first i numbers are -1. -/
def fillN (n i : Nat) : List Int := (List.range n).map fun j => if j < i then -1 else 0
theorem fillN_at (n i j : Nat) (h : j < n) : at_ (fillN n i) j = if j < i then -1 else 0 := by simp [at_, fillN, h]
theorem fillN_len (n i : Nat) : (fillN n i).length = n := by simp [fillN]
theorem fillN_set (n i : Nat) (h : i < n) : (fillN n i).set i (-1) = fillN n (i + 1) := by
  refine same_of_at (by simp [fillN_len]) fun j hj => ?_
  rw [List.length_set, fillN_len] at hj
  rw [at_setN _ _ _ _ (by rw [fillN_len]; exact h), fillN_at n (i + 1) j hj, fillN_at n i j hj]
  by_cases h1 : j = i
  · subst h1; simp
  · rw [if_neg h1]
    by_cases h2 : j < i
    · rw [if_pos h2, if_pos (by omega)]
    · rw [if_neg h2, if_neg (by omega)]
theorem fillN_zero (n : Nat) : encI (fillN n 0) = (zrow n).toList := by
  refine List.ext_getElem (by simp [encI, fillN, zrow]) fun j h1 h2 => by simp [encI, fillN, zrow]
theorem fillN_all (n : Nat) : fillN n n = noneL n :=
  same_of_at (by simp [fillN_len, noneL]) fun j hj => by
    rw [fillN_len] at hj
    rw [fillN_at n n j hj, noneL_at n j hj, if_pos hj]

theorem three_made (w : World) (o0 o1 o2 : Obj) : (((w.alloc o0).alloc o1).alloc o2).drew.heap[w.heap.size]? = some o0 ∧ (((w.alloc o0).alloc o1).alloc o2).drew.heap[w.heap.size + 1]? = some o1 ∧ (((w.alloc o0).alloc o1).alloc o2).drew.heap[w.heap.size + 1 + 1]? = some o2 := by
  have s1 : (w.alloc o0).heap.size = w.heap.size + 1 := by simp
  have s2 : ((w.alloc o0).alloc o1).heap.size = w.heap.size + 1 + 1 := by simp
  have h0 := heap_alloc_new w o0
  have h1 := heap_alloc_new (w.alloc o0) o1
  have h2 := heap_alloc_new ((w.alloc o0).alloc o1) o2
  rw [s1] at h1
  rw [s2] at h2
  exact ⟨(Below.heap_alloc _ _ _ (by omega)).trans ((Below.heap_alloc _ _ _ (by omega)).trans h0), (Below.heap_alloc _ _ _ (by omega)).trans h1, h2⟩
theorem own_of_heap {w : World} {base q nb : Nat} (h : w.heap[q]? = some (.cells (zrow nb) 3)) (hb : base ≤ q) (hm : nb ≤ 1048576) : w.ownsRow base 3 1 (.slice (some ⟨q, 0, none⟩) nb nb) nb (encI (fillN nb 0)) :=
  ⟨by simp [encI, fillN_len], .inr ⟨q, nb, zrow nb, rfl, hb, h, Nat.le_refl _, by unfold maxLen; omega, by simp [zrow], by rw [fillN_zero]; simp [zrow]⟩⟩

set_option maxRecDepth 8000 in
set_option maxHeartbeats 4000000 in
theorem treeOf_any (b : Int) (A D F : Option Addr) (c d f n : Nat) (ls : List (Int × Int × Int)) (on : List Bool) (bs : List (Int × Int)) (w : World) (h : Sl w w.heap.size 3 A ls.length (enc3 ls)) (g : Sl w w.heap.size 1 D n (encB on)) (hon : on.length = n) (s : Sl w w.heap.size 2 F bs.length (enc2 bs)) (hm : ls.length ≤ 1048576) (hn : bs.length ≤ 1048576) :
    Calls Tryd.prog 24 #[.agg #[.int .i64 b, .slice A ls.length c], .slice D n d, .slice F bs.length f] w (TreeR b A c ls on bs w) := by
  have hsz : (w.alloc (.cells #[.int .i64 b, .slice A ls.length c] 25)).heap.size = w.heap.size + 1 := by simp
  have bw := ((Below.refl _ w).alloc (Nat.le_refl _) (.cells #[.int .i64 b, .slice A ls.length c] 25)).alloc (by omega) (.cells #[.int .i64 0, .slice none 0 0, .slice none 0 0, .slice none 0 0, .slice none 0 0] 47)
  have B0 := hide ((Blk.new w 25 #[.int .i64 b, .slice A ls.length c]).alloc (.cells #[.int .i64 0, .slice none 0 0, .slice none 0 0, .slice none 0 0, .slice none 0 0] 47))
  have R0 := Blk.new (w.alloc (.cells #[.int .i64 b, .slice A ls.length c] 25)) 47 #[.int .i64 0, .slice none 0 0, .slice none 0 0, .slice none 0 0, .slice none 0 0]
  rw [hsz] at R0
  have RR0 := hide R0
  have H0 := hide h
  have G0 := hide g
  have S0 := hide s
  have K0 := hide bw
  have H1 := hide (h.to bw)
  have S1 := hide (s.to bw)
  clear h s bw g R0 hsz
  cases hf : fedB b ls n bs
  · have HQ := hide (radB_no (b := b) (ls := ls) (on := on) (bs := bs) (fun h => by rw [hon, hf] at h; cases h.1))
    go_enter Tryd.func24, Tryd.ntmps24
    go_wp2_with fail
    refine (fedValid_any _ _ _ _ _ _ _ _ _ _ _ H1.out S1.out hm hn).mono ?_
    rintro e w1 ⟨rfl, hb1⟩
    rw [hf]
    have K1 := hide (K0.out.then hb1)
    have R1 := hide (RR0.out.to hb1)
    clear hb1
    have r0 := R1.out.cell 0
    have r1 := R1.out.cell 1
    have r2 := R1.out.cell 2
    have r3 := R1.out.cell 3
    have r4 := R1.out.cell 4
    have f0 := R1.out.frozen 0
    have f1 := R1.out.frozen 1
    have f2 := R1.out.frozen 2
    have f3 := R1.out.frozen 3
    have f4 := R1.out.frozen 4
    go_wp2_with fail
    have P5 := R1.out.set5 (u0 := .int .i64 0) (u1 := .slice none 0 0) (u2 := .slice none 0 0) (u3 := .slice none 0 0) (u4 := .slice none 0 0)
    have p0 := P5.cell 0
    have p1 := P5.cell 1
    have p2 := P5.cell 2
    have p3 := P5.cell 3
    have p4 := P5.cell 4
    refine bodyPost_ret (v := .tuple #[.agg #[.int .i64 0, .slice none 0 0, .slice none 0 0, .slice none 0 0, .slice none 0 0], .bool false]) (by simp [results, Tryd.results24, go_sem, p0, p1, p2, p3, p4]) rfl ⟨below_set5 K1.out (by omega), .inl ⟨HQ.out, rfl⟩⟩
  · obtain ⟨hv, hnl, hbl, hok⟩ := fedB_true hf
    subst hnl
    obtain ⟨nb, rfl⟩ : ∃ nb : Nat, b = nb := ⟨bs.length, hbl.symm⟩
    have HBN := hide (show bs.length = nb by omega)
    have hbn1 : bs.length ≤ nb := by omega
    have hbn2 : nb ≤ bs.length := by omega
    obtain ⟨⟨n1, n2⟩, n3⟩ := net_len hv
    have HV := hide hv
    have HF := hide hf
    clear hok hbl hv
    go_enter Tryd.func24, Tryd.ntmps24
    go_wp2_with fail
    refine (fedValid_any _ _ _ _ _ _ _ _ _ _ _ H1.out S1.out hm hn).mono ?_
    rintro e w1 ⟨rfl, hb1⟩
    rw [hf]
    have K1 := hide (K0.out.then hb1)
    have R1 := hide (RR0.out.to hb1)
    have B1 := hide (B0.out.to hb1)
    have H2 := hide (H0.out.to K1.out)
    have G2 := hide (G0.out.to K1.out)
    obtain ⟨g0, g1⟩ := B1.out.two
    clear hb1 K0 B0 H1 S1 hf RR0
    go_wp2_with fail
    refine (hasCycle_any nb _ _ _ _ ls on w1 H2.out G2.out hon HV.out).mono ?_
    rintro e w2 ⟨rfl, hb2⟩
    have K2 := hide (K1.out.then hb2)
    have R2 := hide (R1.out.to hb2)
    have B2 := hide (B1.out.to hb2)
    have hz2 := R2.out.lt
    have hz1 := B2.out.lt
    have hz1a : w.heap.size < w2.heap.size + 1 := by omega
    have hz1b : w.heap.size < w2.heap.size + 1 + 1 := by omega
    have hz1c : w.heap.size < w2.heap.size + 2 := by omega
    have hz1d : w.heap.size < w2.heap.size + 1 + 1 + 1 := by omega
    have hz1e : w.heap.size < w2.heap.size + 3 := by omega
    clear hb2 K1 B1 R1 H2 G2 g0 g1
    obtain ⟨g0, g1⟩ := B2.out.two
    cases hcy : cycB ls on
    · have HC : Hid (¬ Cyc ls (onP on)) := hide fun hc => by rw [cycB_yes hc] at hcy; cases hcy
      have hmk := run_make_z (P := Tryd.prog) 28 3 _ 1 8 Tryd.underlying28 infoI rfl (by omega) nb nb (Nat.le_refl _) (by omega) (by omega)
      simp only [Nat.mul_one] at hmk
      clear hcy
      go_wp2_with fail
      go_big_region
      · skip
        obtain ⟨q0, q1, q2⟩ := three_made w2 (.cells (zrow nb) 3) (.cells (zrow nb) 3) (.cells #[.int .i64 nb, .slice A ls.length c, .slice (some ⟨w2.heap.size, 0, none⟩) nb nb, .slice (some ⟨(w2.heap.size + 1), 0, none⟩) nb nb, .slice none 0 0] 47)
        have hW : TS (w.heap.size + 2) (w2.heap.size + 3) ((w2.heap.size + 1 + 1)) (w2.heap.size) ((w2.heap.size + 1)) nb A ls.length c (fillN nb 0) (fillN nb 0) [] none 0 ((((w2.alloc (.cells (zrow nb) 3)).alloc (.cells (zrow nb) 3)).alloc (.cells #[.int .i64 nb, .slice A ls.length c, .slice (some ⟨w2.heap.size, 0, none⟩) nb nb, .slice (some ⟨(w2.heap.size + 1), 0, none⟩) nb nb, .slice none 0 0] 47)).drew) := ⟨q2, own_of_heap q0 (by omega) (by omega), own_of_heap q1 (by omega) (by omega), World.ownsRow_nil _ _ _ _⟩
        have hL : TL (w.heap.size + 2) (w2.heap.size + 3) ((w2.heap.size + 1 + 1)) (w2.heap.size) ((w2.heap.size + 1)) := ⟨by omega, by omega, by omega, by omega, by omega, by omega, by omega, by omega, by omega⟩
        have hM : Below w2.heap.size w2 ((((w2.alloc (.cells (zrow nb) 3)).alloc (.cells (zrow nb) 3)).alloc (.cells #[.int .i64 nb, .slice A ls.length c, .slice (some ⟨w2.heap.size, 0, none⟩) nb nb, .slice (some ⟨(w2.heap.size + 1), 0, none⟩) nb nb, .slice none 0 0] 47)).drew) := ((((Below.refl _ w2).alloc (by simp) _).alloc (by simp) _).alloc (by simp; omega) _).drew
        have hz3 : w2.heap.size + 3 ≤ ((((w2.alloc (.cells (zrow nb) 3)).alloc (.cells (zrow nb) 3)).alloc (.cells #[.int .i64 nb, .slice A ls.length c, .slice (some ⟨w2.heap.size, 0, none⟩) nb nb, .slice (some ⟨(w2.heap.size + 1), 0, none⟩) nb nb, .slice none 0 0] 47)).drew).heap.size := by simp
        have M3 := hide hM
        have T3 := hide hW
        have L3 := hide hL
        have K3 := hide (K2.out.trans (hM.mono (by omega)))
        generalize w2.heap.size + 3 = z at *
        clear hW hL hM q0 q1 q2
        have B3 := hide (B2.out.below M3.out (by omega))
        have R3 := hide (R2.out.below M3.out (by omega))
        generalize (((w2.alloc (.cells (zrow nb) 3)).alloc (.cells (zrow nb) 3)).alloc (.cells #[.int .i64 nb, .slice A ls.length c, .slice (some ⟨w2.heap.size, 0, none⟩) nb nb, .slice (some ⟨(w2.heap.size + 1), 0, none⟩) nb nb, .slice none 0 0] 47)).drew = w3 at *
        have hz3w := B3.out.lt
        clear g0 g1 B2 R2 M3
        obtain ⟨g0, g1⟩ := B3.out.two
        go_wp2_with fail
        go_loopw [33] (fun x wr => ∃ i : Nat, i ≤ nb ∧ x = .int .i64 i ∧ z ≤ wr.heap.size ∧ Hid (TS (w.heap.size + 2) z (w2.heap.size + 1 + 1) w2.heap.size (w2.heap.size + 1) nb A ls.length c (fillN nb i) (fillN nb i) [] none 0 wr) ∧ Hid (Below w.heap.size w wr) ∧ Hid (Blk wr (w.heap.size + 1) 47 #[.int .i64 0, .slice none 0 0, .slice none 0 0, .slice none 0 0, .slice none 0 0])) (fun x _ => nb - (intOf x).toNat)
        case atStart => exact ⟨0, Nat.zero_le _, rfl, hz3, T3, K3, R3⟩
        case round =>
          clear T3 K3 R3 B3 hz3 g0 g1 hz3w
          obtain ⟨i, hi, rfl, hz3, HT, HK, HR⟩ := hrel
          by_cases hlt : i < nb
          · obtain ⟨y0, y1, y2, y3, y4⟩ := HT.out.five
            have x1 := HT.out.hf.cellAt i (by omega)
            rw [encI_at _ i (by rw [fillN_len]; exact hlt)] at x1
            have x2 := HT.out.hp.cellAt i (by omega)
            rw [encI_at _ i (by rw [fillN_len]; exact hlt)] at x2
            have x3 := HT.out.hf.frozenAt i
            have x4 := HT.out.hp.frozenAt i
            have T4 := HT.out.mark L3.out hlt (-1) (-1)
            rw [fillN_set nb i hlt] at T4
            have HT4 := hide T4
            have K4 := hide ((HK.out.setCell (p := ⟨w2.heap.size, i, none⟩) (by have := L3.out.bf; show w.heap.size ≤ w2.heap.size; omega) (.int .i64 (-1))).setCell (p := ⟨(w2.heap.size + 1), i, none⟩) (by have := L3.out.bp; show w.heap.size ≤ (w2.heap.size + 1); omega) (.int .i64 (-1)))
            have R4 := hide ((HR.out.far (p := ⟨w2.heap.size, i, none⟩) (by have := L3.out.bf; simp; omega) (.int .i64 (-1))).far (p := ⟨(w2.heap.size + 1), i, none⟩) (by have := L3.out.bp; simp; omega) (.int .i64 (-1)))
            have i0 : (0 : Int) ≤ i := by omega
            have i1 : (i : Int) < nb := by omega
            have hd1 : (w2.heap.size + 1 + 1) ≠ w2.heap.size := L3.out.gf
            have hd2 : (w2.heap.size + 1 + 1) ≠ (w2.heap.size + 1) := L3.out.gp
            have hd3 : w2.heap.size ≠ (w2.heap.size + 1) := L3.out.fp
            have hz5 : z ≤ ((wr.setCell ⟨w2.heap.size, i, none⟩ (.int .i64 (-1))).setCell ⟨(w2.heap.size + 1), i, none⟩ (.int .i64 (-1))).heap.size := by simpa using hz3
            clear T4
            go_wp2_with fail
            go_roundw
            case rel => exact ⟨i + 1, by omega, by go_num, hz5, HT4, K4, R4⟩
            case measure => simp [intOf]; omega
          · obtain rfl : i = nb := by omega
            rw [fillN_all] at HT
            go_wp2_with fail
            go_loopw [47] (fun x wr => ∃ (k : Nat) (fs ps ord : List Int) (E : Option Addr) (f : Nat), k ≤ bs.length ∧ x = .int .i64 k ∧ z ≤ wr.heap.size ∧ Hid (TV ls on bs k fs ps) ∧ Hid (OneI ls on bs k) ∧ Hid (Closed ls on bs fs []) ∧ Hid (ord.Nodup) ∧ Hid (∀ x ∈ ord, 0 ≤ x ∧ x < bs.length ∧ 0 ≤ at_ fs x.toNat) ∧ Hid (∀ x : Nat, x < bs.length → 0 ≤ at_ fs x → (x : Int) ∈ ord) ∧ Hid (OrdP ls ps ord) ∧ Hid (TS (w.heap.size + 2) z (w2.heap.size + 1 + 1) w2.heap.size (w2.heap.size + 1) i A ls.length c fs ps ord E f wr) ∧ Hid (Below w.heap.size w wr) ∧ Hid (Blk wr (w.heap.size + 1) 47 #[.int .i64 0, .slice none 0 0, .slice none 0 0, .slice none 0 0, .slice none 0 0])) (fun x _ => bs.length - (intOf x).toNat)
            case atStart =>
              refine ⟨0, noneL i, noneL i, [], none, 0, Nat.zero_le _, rfl, hz3, hide ?_, hide (fun f g hf => absurd hf (by omega)), hide ?_, hide (by simp), hide (fun x hx => by cases hx), hide (fun x hx hv => by rw [noneL_at i x (by omega)] at hv; omega), hide (fun j y hj => absurd hj (by simp)), HT, HK, HR⟩
              · rw [← HBN.out]; exact TV.start ls on bs
              · rw [← HBN.out]; exact Closed.start
            case round =>
              clear HT HK HR hz3
              obtain ⟨k, fs, ps, ord, E, f, hk, rfl, hz3, HV1, HO, HC1, HN, HG, HAL, HBK, HT, HK, HR⟩ := hrel
              obtain ⟨y0, y1, y2, y3, y4⟩ := HT.out.five
              by_cases hlt : k < bs.length
              · obtain ⟨b0, o0, rfl, hb, hd0, hd1⟩ := S0.out.two k hlt
                have d0 := (HK.out.cell (p := ⟨b0, o0 + k * 2, none⟩) hb).trans hd0
                have d1 := (HK.out.cell (p := ⟨b0, o0 + k * 2 + 1, none⟩) hb).trans hd1
                have hz4 := HK.out.size
                have hb0 : b0 < wr.heap.size := by omega
                have kk := (Below.refl _ wr).alloc (Nat.le_refl _) (.cells #[.int .i64 (at2 bs k).1, .int .i64 (at2 bs k).2] 54)
                have T2 := hide (HT.out.to kk)
                have K2' := hide (HK.out.then kk)
                have R2' := hide (HR.out.to kk)
                have hzz : z ≤ (wr.alloc (.cells #[.int .i64 (at2 bs k).1, .int .i64 (at2 bs k).2] 54)).heap.size := by simp; omega
                have hgl : (w2.heap.size + 1 + 1) < wr.heap.size := HT.out.tr.lt
                have hfl : w2.heap.size < wr.heap.size := (HT.out.hf.lt _ rfl).2
                have hgf : (w2.heap.size + 1 + 1) ≠ w2.heap.size := L3.out.gf
                have hf0 : 0 ≤ (at2 bs k).1 := by
                  have := (fedB_true HF.out).2.2.2 k hlt
                  simp only [busOk, Bool.and_eq_true] at this
                  exact (inB_true this.1).1
                clear hd0 hd1 kk
                by_cases h0 : (at2 bs k).1 = 0
                · have heq : ((at2 bs k).1 == 0) = true := by simp [h0]
                  have HNF : Hid (¬ FeedP bs k) := hide fun hf => by
                    obtain ⟨q, hq, he, hp⟩ := hf
                    obtain rfl : k = q := by omega
                    omega
                  clear h0 hf0 y0 y1 y2 y3 y4
                  go_wp2_with fail
                  go_roundw
                  case rel => exact ⟨k + 1, fs, ps, ord, E, f, by omega, by go_num, hzz, hide (HV1.out.skip HNF.out), hide (HO.out.skip HNF.out), HC1, HN, HG, HAL, HBK, T2, K2', R2'⟩
                  case measure => simp [intOf]; omega
                · have heq : ((at2 bs k).1 == 0) = false := by simp [h0]
                  have HFD : Hid (FeedP bs k) := hide ⟨k, hlt, rfl, by omega⟩
                  have hkn : k < i := by omega
                  have x1 := HT.out.hf.cellAt k (by omega)
                  rw [encI_at fs k (by have := HV1.out.lf; omega)] at x1
                  have x3 := HT.out.hf.frozenAt k
                  have i0 : (0 : Int) ≤ k := by omega
                  have i1 : (k : Int) < i := by omega
                  clear h0 hf0
                  by_cases hv : 0 ≤ at_ fs k
                  · have hge : decide (0 ≤ at_ fs k) = true := by simp [hv]
                    have HQ := hide (radB_no (b := i) (ls := ls) (on := on) (bs := bs) (fun h => HV1.out.bad hlt HFD.out hv h.2.2))
                    have hgr : w.heap.size + 1 < wr.heap.size := HR.out.lt
                    have r0 := HR.out.cell 0
                    have r1 := HR.out.cell 1
                    have r2 := HR.out.cell 2
                    have r3 := HR.out.cell 3
                    have r4 := HR.out.cell 4
                    have f0 := HR.out.frozen 0
                    have f1 := HR.out.frozen 1
                    have f2 := HR.out.frozen 2
                    have f3 := HR.out.frozen 3
                    have f4 := HR.out.frozen 4
                    clear hv
                    go_wp2_with fail
                    have P5 := (HR.out.set5 (u0 := .int .i64 0) (u1 := .slice none 0 0) (u2 := .slice none 0 0) (u3 := .slice none 0 0) (u4 := .slice none 0 0)).alloc (.cells #[.int .i64 (at2 bs k).1, .int .i64 (at2 bs k).2] 54)
                    have p0 := P5.cell 0
                    have p1 := P5.cell 1
                    have p2 := P5.cell 2
                    have p3 := P5.cell 3
                    have p4 := P5.cell 4
                    refine bodyPost_ret (v := .tuple #[.agg #[.int .i64 0, .slice none 0 0, .slice none 0 0, .slice none 0 0, .slice none 0 0], .bool false]) (by simp [results, Tryd.results24, go_sem, p0, p1, p2, p3, p4]) rfl ⟨(below_set5 HK.out (by omega)).alloc (by simp; omega) _, .inl ⟨HQ.out, rfl⟩⟩
                  · have hge : decide (0 ≤ at_ fs k) = false := by simp; omega
                    have hsq := SQ.start HV1.out hlt HFD.out (by omega) HC1.out HN.out HG.out HAL.out HBK.out
                    have HO2 := hide (HO.out.feed HV.out HBN.out HV1.out HC1.out (by omega))
                    have SQ5 := hide hsq
                    have T5 := hide ((HT.out.set1 L3.out (y := k) k).to ((Below.refl _ _).alloc (Nat.le_refl _) (.cells #[.int .i64 (at2 bs k).1, .int .i64 (at2 bs k).2] 54)))
                    have K5 := hide ((HK.out.setCell (p := ⟨w2.heap.size, k, none⟩) (by have := L3.out.bf; show w.heap.size ≤ w2.heap.size; omega) (.int .i64 (k : Int))).alloc (by simp; omega) (.cells #[.int .i64 (at2 bs k).1, .int .i64 (at2 bs k).2] 54))
                    have R5 := hide ((HR.out.far (p := ⟨w2.heap.size, k, none⟩) (by have := L3.out.bf; simp; omega) (.int .i64 (k : Int))).alloc (.cells #[.int .i64 (at2 bs k).1, .int .i64 (at2 bs k).2] 54))
                    have hz6 : z ≤ ((wr.setCell ⟨w2.heap.size, k, none⟩ (.int .i64 (k : Int))).alloc (.cells #[.int .i64 (at2 bs k).1, .int .i64 (at2 bs k).2] 54)).heap.size := by simp; omega
                    have hz7 : w.heap.size + 2 ≤ ((wr.setCell ⟨w2.heap.size, k, none⟩ (.int .i64 (k : Int))).alloc (.cells #[.int .i64 (at2 bs k).1, .int .i64 (at2 bs k).2] 54)).heap.size := by have := HR.out.lt; simp; omega
                    clear hsq hv T2 K2' R2'
                    go_wp2_with fail
                    refine (search_any (w.heap.size + 2) z ((w2.heap.size + 1 + 1)) (w2.heap.size) ((w2.heap.size + 1)) i (k + 1) k _ _ _ _ ls on bs (fs.set k k) ps ord E f _ L3.out hz7 hz6 ((H0.out.below K5.out).more (by omega)) ((G0.out.below K5.out).more (by omega)) hon HV.out HBN.out T5.out SQ5.out hkn).mono ?_
                    rintro e w8 ⟨rfl, fs8, ps8, ord8, E8, f8, hts8, hsq8, hb8⟩
                    have T8 := hide hts8
                    have S8 := hide hsq8
                    have K8 := hide (K5.out.trans (hb8.mono (by omega)))
                    have R8 := hide (R5.out.below hb8 (by omega))
                    have hz8 := hb8.size
                    clear hts8 hsq8 hb8 T5 SQ5 K5 R5
                    go_wp2_with fail
                    go_roundw
                    case rel => exact ⟨k + 1, fs8, ps8, ord8, E8, f8, by omega, by go_num, by omega, hide S8.out.tv, HO2, hide (S8.out.done (Nat.le_refl _)), hide S8.out.nod, hide S8.out.rng, hide S8.out.al, hide S8.out.bk, T8, K8, R8⟩
                    case measure => simp [intOf]; omega
              · obtain rfl : k = bs.length := by omega
                have HPL := hide (TV.done HV.out HBN.out (ps := ps) (fs := fs) (by rw [← HBN.out]; exact HV1.out) HC1.out)
                have HQ := hide (radB_yes (b := i) (ls := ls) (on := on) (bs := bs) ⟨by rw [hon]; exact HF.out, HC.out, OneI.all HBN.out (by rw [← HBN.out]; exact HO.out)⟩)
                have HPN := hide (fun (x : Nat) (hx : x < bs.length) => (HV1.out.rp x hx).1)
                have HOR : Hid (OrdR ls bs ps ord) := hide ⟨HN.out, fun x hx => ⟨(HG.out x hx).1, (HG.out x hx).2.1⟩, HBK.out, fun x hx hp => HAL.out x hx (Classical.byContradiction fun hn => by have := HV1.out.np x hx (by omega); omega)⟩
                have OO5 := hide (own_set5g (g := w.heap.size + 1) (u0 := .int .i64 i) (u1 := .slice A ls.length c) (u2 := .slice (some ⟨w2.heap.size, 0, none⟩) i i) (u3 := .slice (some ⟨(w2.heap.size + 1), 0, none⟩) i i) (u4 := .slice E ord.length f) HT.out.ho (fun k hk => by have := (HT.out.ho.lt k hk).1; have := L3.out.go; have := L3.out.bg; omega))
                have hpl : ps.length = i := by have := HPL.out.len; omega
                have HPE := hide hpl
                have OP := hide (own_set5 (g := w.heap.size + 1) (u0 := .int .i64 i) (u1 := .slice A ls.length c) (u2 := .slice (some ⟨w2.heap.size, 0, none⟩) i i) (u3 := .slice (some ⟨(w2.heap.size + 1), 0, none⟩) i i) (u4 := .slice E ord.length f) HT.out.hp (by have := L3.out.bp; omega))
                have K5 := hide (below_set5 (g := w.heap.size + 1) (u0 := .int .i64 i) (u1 := .slice A ls.length c) (u2 := .slice (some ⟨w2.heap.size, 0, none⟩) i i) (u3 := .slice (some ⟨(w2.heap.size + 1), 0, none⟩) i i) (u4 := .slice E ord.length f) HK.out (by omega))
                clear hpl
                have r0 := HR.out.cell 0
                have r1 := HR.out.cell 1
                have r2 := HR.out.cell 2
                have r3 := HR.out.cell 3
                have r4 := HR.out.cell 4
                have f0 := HR.out.frozen 0
                have f1 := HR.out.frozen 1
                have f2 := HR.out.frozen 2
                have f3 := HR.out.frozen 3
                have f4 := HR.out.frozen 4
                go_wp2_with fail
                have P5 := HR.out.set5 (u0 := .int .i64 i) (u1 := .slice A ls.length c) (u2 := .slice (some ⟨w2.heap.size, 0, none⟩) i i) (u3 := .slice (some ⟨(w2.heap.size + 1), 0, none⟩) i i) (u4 := .slice E ord.length f)
                have p0 := P5.cell 0
                have p1 := P5.cell 1
                have p2 := P5.cell 2
                have p3 := P5.cell 3
                have p4 := P5.cell 4
                refine bodyPost_ret (v := .tuple #[.agg #[.int .i64 i, .slice A ls.length c, .slice (some ⟨w2.heap.size, 0, none⟩) i i, .slice (some ⟨(w2.heap.size + 1), 0, none⟩) i i, .slice E ord.length f], .bool true]) (by simp [results, Tryd.results24, go_sem, p0, p1, p2, p3, p4]) rfl ⟨K5.out, .inr ⟨HQ.out, ps, ord, some ⟨(w2.heap.size + 1), 0, none⟩, _, _, i, _, _, _, by rw [HPE.out], own_mono OO5.out (by have := L3.out.go; have := L3.out.bg; omega), HOR.out, ?_, HPL.out, HPN.out⟩⟩
                rw [HPE.out]
                exact own_mono OP.out (by omega)
      · skip
        obtain ⟨q0, q1, q2⟩ := three_made w2 (.cells (zrow nb) 3) (.cells #[.int .i64 nb, .slice A ls.length c, .slice (some ⟨w2.heap.size, 0, none⟩) nb nb, .slice (some ⟨(w2.heap.size + 1 + 1), 0, none⟩) nb nb, .slice none 0 0] 47) (.cells (zrow nb) 3)
        have hW : TS (w.heap.size + 2) (w2.heap.size + 3) ((w2.heap.size + 1)) (w2.heap.size) ((w2.heap.size + 1 + 1)) nb A ls.length c (fillN nb 0) (fillN nb 0) [] none 0 ((((w2.alloc (.cells (zrow nb) 3)).alloc (.cells #[.int .i64 nb, .slice A ls.length c, .slice (some ⟨w2.heap.size, 0, none⟩) nb nb, .slice (some ⟨(w2.heap.size + 1 + 1), 0, none⟩) nb nb, .slice none 0 0] 47)).alloc (.cells (zrow nb) 3)).drew) := ⟨q1, own_of_heap q0 (by omega) (by omega), own_of_heap q2 (by omega) (by omega), World.ownsRow_nil _ _ _ _⟩
        have hL : TL (w.heap.size + 2) (w2.heap.size + 3) ((w2.heap.size + 1)) (w2.heap.size) ((w2.heap.size + 1 + 1)) := ⟨by omega, by omega, by omega, by omega, by omega, by omega, by omega, by omega, by omega⟩
        have hM : Below w2.heap.size w2 ((((w2.alloc (.cells (zrow nb) 3)).alloc (.cells #[.int .i64 nb, .slice A ls.length c, .slice (some ⟨w2.heap.size, 0, none⟩) nb nb, .slice (some ⟨(w2.heap.size + 1 + 1), 0, none⟩) nb nb, .slice none 0 0] 47)).alloc (.cells (zrow nb) 3)).drew) := ((((Below.refl _ w2).alloc (by simp) _).alloc (by simp) _).alloc (by simp; omega) _).drew
        have hz3 : w2.heap.size + 3 ≤ ((((w2.alloc (.cells (zrow nb) 3)).alloc (.cells #[.int .i64 nb, .slice A ls.length c, .slice (some ⟨w2.heap.size, 0, none⟩) nb nb, .slice (some ⟨(w2.heap.size + 1 + 1), 0, none⟩) nb nb, .slice none 0 0] 47)).alloc (.cells (zrow nb) 3)).drew).heap.size := by simp
        have M3 := hide hM
        have T3 := hide hW
        have L3 := hide hL
        have K3 := hide (K2.out.trans (hM.mono (by omega)))
        generalize w2.heap.size + 3 = z at *
        clear hW hL hM q0 q1 q2
        have B3 := hide (B2.out.below M3.out (by omega))
        have R3 := hide (R2.out.below M3.out (by omega))
        generalize (((w2.alloc (.cells (zrow nb) 3)).alloc (.cells #[.int .i64 nb, .slice A ls.length c, .slice (some ⟨w2.heap.size, 0, none⟩) nb nb, .slice (some ⟨(w2.heap.size + 1 + 1), 0, none⟩) nb nb, .slice none 0 0] 47)).alloc (.cells (zrow nb) 3)).drew = w3 at *
        have hz3w := B3.out.lt
        clear g0 g1 B2 R2 M3
        obtain ⟨g0, g1⟩ := B3.out.two
        go_wp2_with fail
        go_loopw [33] (fun x wr => ∃ i : Nat, i ≤ nb ∧ x = .int .i64 i ∧ z ≤ wr.heap.size ∧ Hid (TS (w.heap.size + 2) z (w2.heap.size + 1) w2.heap.size (w2.heap.size + 1 + 1) nb A ls.length c (fillN nb i) (fillN nb i) [] none 0 wr) ∧ Hid (Below w.heap.size w wr) ∧ Hid (Blk wr (w.heap.size + 1) 47 #[.int .i64 0, .slice none 0 0, .slice none 0 0, .slice none 0 0, .slice none 0 0])) (fun x _ => nb - (intOf x).toNat)
        case atStart => exact ⟨0, Nat.zero_le _, rfl, hz3, T3, K3, R3⟩
        case round =>
          clear T3 K3 R3 B3 hz3 g0 g1 hz3w
          obtain ⟨i, hi, rfl, hz3, HT, HK, HR⟩ := hrel
          by_cases hlt : i < nb
          · obtain ⟨y0, y1, y2, y3, y4⟩ := HT.out.five
            have x1 := HT.out.hf.cellAt i (by omega)
            rw [encI_at _ i (by rw [fillN_len]; exact hlt)] at x1
            have x2 := HT.out.hp.cellAt i (by omega)
            rw [encI_at _ i (by rw [fillN_len]; exact hlt)] at x2
            have x3 := HT.out.hf.frozenAt i
            have x4 := HT.out.hp.frozenAt i
            have T4 := HT.out.mark L3.out hlt (-1) (-1)
            rw [fillN_set nb i hlt] at T4
            have HT4 := hide T4
            have K4 := hide ((HK.out.setCell (p := ⟨w2.heap.size, i, none⟩) (by have := L3.out.bf; show w.heap.size ≤ w2.heap.size; omega) (.int .i64 (-1))).setCell (p := ⟨(w2.heap.size + 1 + 1), i, none⟩) (by have := L3.out.bp; show w.heap.size ≤ (w2.heap.size + 1 + 1); omega) (.int .i64 (-1)))
            have R4 := hide ((HR.out.far (p := ⟨w2.heap.size, i, none⟩) (by have := L3.out.bf; simp; omega) (.int .i64 (-1))).far (p := ⟨(w2.heap.size + 1 + 1), i, none⟩) (by have := L3.out.bp; simp; omega) (.int .i64 (-1)))
            have i0 : (0 : Int) ≤ i := by omega
            have i1 : (i : Int) < nb := by omega
            have hd1 : (w2.heap.size + 1) ≠ w2.heap.size := L3.out.gf
            have hd2 : (w2.heap.size + 1) ≠ (w2.heap.size + 1 + 1) := L3.out.gp
            have hd3 : w2.heap.size ≠ (w2.heap.size + 1 + 1) := L3.out.fp
            have hz5 : z ≤ ((wr.setCell ⟨w2.heap.size, i, none⟩ (.int .i64 (-1))).setCell ⟨(w2.heap.size + 1 + 1), i, none⟩ (.int .i64 (-1))).heap.size := by simpa using hz3
            clear T4
            go_wp2_with fail
            go_roundw
            case rel => exact ⟨i + 1, by omega, by go_num, hz5, HT4, K4, R4⟩
            case measure => simp [intOf]; omega
          · obtain rfl : i = nb := by omega
            rw [fillN_all] at HT
            go_wp2_with fail
            go_loopw [47] (fun x wr => ∃ (k : Nat) (fs ps ord : List Int) (E : Option Addr) (f : Nat), k ≤ bs.length ∧ x = .int .i64 k ∧ z ≤ wr.heap.size ∧ Hid (TV ls on bs k fs ps) ∧ Hid (OneI ls on bs k) ∧ Hid (Closed ls on bs fs []) ∧ Hid (ord.Nodup) ∧ Hid (∀ x ∈ ord, 0 ≤ x ∧ x < bs.length ∧ 0 ≤ at_ fs x.toNat) ∧ Hid (∀ x : Nat, x < bs.length → 0 ≤ at_ fs x → (x : Int) ∈ ord) ∧ Hid (OrdP ls ps ord) ∧ Hid (TS (w.heap.size + 2) z (w2.heap.size + 1) w2.heap.size (w2.heap.size + 1 + 1) i A ls.length c fs ps ord E f wr) ∧ Hid (Below w.heap.size w wr) ∧ Hid (Blk wr (w.heap.size + 1) 47 #[.int .i64 0, .slice none 0 0, .slice none 0 0, .slice none 0 0, .slice none 0 0])) (fun x _ => bs.length - (intOf x).toNat)
            case atStart =>
              refine ⟨0, noneL i, noneL i, [], none, 0, Nat.zero_le _, rfl, hz3, hide ?_, hide (fun f g hf => absurd hf (by omega)), hide ?_, hide (by simp), hide (fun x hx => by cases hx), hide (fun x hx hv => by rw [noneL_at i x (by omega)] at hv; omega), hide (fun j y hj => absurd hj (by simp)), HT, HK, HR⟩
              · rw [← HBN.out]; exact TV.start ls on bs
              · rw [← HBN.out]; exact Closed.start
            case round =>
              clear HT HK HR hz3
              obtain ⟨k, fs, ps, ord, E, f, hk, rfl, hz3, HV1, HO, HC1, HN, HG, HAL, HBK, HT, HK, HR⟩ := hrel
              obtain ⟨y0, y1, y2, y3, y4⟩ := HT.out.five
              by_cases hlt : k < bs.length
              · obtain ⟨b0, o0, rfl, hb, hd0, hd1⟩ := S0.out.two k hlt
                have d0 := (HK.out.cell (p := ⟨b0, o0 + k * 2, none⟩) hb).trans hd0
                have d1 := (HK.out.cell (p := ⟨b0, o0 + k * 2 + 1, none⟩) hb).trans hd1
                have hz4 := HK.out.size
                have hb0 : b0 < wr.heap.size := by omega
                have kk := (Below.refl _ wr).alloc (Nat.le_refl _) (.cells #[.int .i64 (at2 bs k).1, .int .i64 (at2 bs k).2] 54)
                have T2 := hide (HT.out.to kk)
                have K2' := hide (HK.out.then kk)
                have R2' := hide (HR.out.to kk)
                have hzz : z ≤ (wr.alloc (.cells #[.int .i64 (at2 bs k).1, .int .i64 (at2 bs k).2] 54)).heap.size := by simp; omega
                have hgl : (w2.heap.size + 1) < wr.heap.size := HT.out.tr.lt
                have hfl : w2.heap.size < wr.heap.size := (HT.out.hf.lt _ rfl).2
                have hgf : (w2.heap.size + 1) ≠ w2.heap.size := L3.out.gf
                have hf0 : 0 ≤ (at2 bs k).1 := by
                  have := (fedB_true HF.out).2.2.2 k hlt
                  simp only [busOk, Bool.and_eq_true] at this
                  exact (inB_true this.1).1
                clear hd0 hd1 kk
                by_cases h0 : (at2 bs k).1 = 0
                · have heq : ((at2 bs k).1 == 0) = true := by simp [h0]
                  have HNF : Hid (¬ FeedP bs k) := hide fun hf => by
                    obtain ⟨q, hq, he, hp⟩ := hf
                    obtain rfl : k = q := by omega
                    omega
                  clear h0 hf0 y0 y1 y2 y3 y4
                  go_wp2_with fail
                  go_roundw
                  case rel => exact ⟨k + 1, fs, ps, ord, E, f, by omega, by go_num, hzz, hide (HV1.out.skip HNF.out), hide (HO.out.skip HNF.out), HC1, HN, HG, HAL, HBK, T2, K2', R2'⟩
                  case measure => simp [intOf]; omega
                · have heq : ((at2 bs k).1 == 0) = false := by simp [h0]
                  have HFD : Hid (FeedP bs k) := hide ⟨k, hlt, rfl, by omega⟩
                  have hkn : k < i := by omega
                  have x1 := HT.out.hf.cellAt k (by omega)
                  rw [encI_at fs k (by have := HV1.out.lf; omega)] at x1
                  have x3 := HT.out.hf.frozenAt k
                  have i0 : (0 : Int) ≤ k := by omega
                  have i1 : (k : Int) < i := by omega
                  clear h0 hf0
                  by_cases hv : 0 ≤ at_ fs k
                  · have hge : decide (0 ≤ at_ fs k) = true := by simp [hv]
                    have HQ := hide (radB_no (b := i) (ls := ls) (on := on) (bs := bs) (fun h => HV1.out.bad hlt HFD.out hv h.2.2))
                    have hgr : w.heap.size + 1 < wr.heap.size := HR.out.lt
                    have r0 := HR.out.cell 0
                    have r1 := HR.out.cell 1
                    have r2 := HR.out.cell 2
                    have r3 := HR.out.cell 3
                    have r4 := HR.out.cell 4
                    have f0 := HR.out.frozen 0
                    have f1 := HR.out.frozen 1
                    have f2 := HR.out.frozen 2
                    have f3 := HR.out.frozen 3
                    have f4 := HR.out.frozen 4
                    clear hv
                    go_wp2_with fail
                    have P5 := (HR.out.set5 (u0 := .int .i64 0) (u1 := .slice none 0 0) (u2 := .slice none 0 0) (u3 := .slice none 0 0) (u4 := .slice none 0 0)).alloc (.cells #[.int .i64 (at2 bs k).1, .int .i64 (at2 bs k).2] 54)
                    have p0 := P5.cell 0
                    have p1 := P5.cell 1
                    have p2 := P5.cell 2
                    have p3 := P5.cell 3
                    have p4 := P5.cell 4
                    refine bodyPost_ret (v := .tuple #[.agg #[.int .i64 0, .slice none 0 0, .slice none 0 0, .slice none 0 0, .slice none 0 0], .bool false]) (by simp [results, Tryd.results24, go_sem, p0, p1, p2, p3, p4]) rfl ⟨(below_set5 HK.out (by omega)).alloc (by simp; omega) _, .inl ⟨HQ.out, rfl⟩⟩
                  · have hge : decide (0 ≤ at_ fs k) = false := by simp; omega
                    have hsq := SQ.start HV1.out hlt HFD.out (by omega) HC1.out HN.out HG.out HAL.out HBK.out
                    have HO2 := hide (HO.out.feed HV.out HBN.out HV1.out HC1.out (by omega))
                    have SQ5 := hide hsq
                    have T5 := hide ((HT.out.set1 L3.out (y := k) k).to ((Below.refl _ _).alloc (Nat.le_refl _) (.cells #[.int .i64 (at2 bs k).1, .int .i64 (at2 bs k).2] 54)))
                    have K5 := hide ((HK.out.setCell (p := ⟨w2.heap.size, k, none⟩) (by have := L3.out.bf; show w.heap.size ≤ w2.heap.size; omega) (.int .i64 (k : Int))).alloc (by simp; omega) (.cells #[.int .i64 (at2 bs k).1, .int .i64 (at2 bs k).2] 54))
                    have R5 := hide ((HR.out.far (p := ⟨w2.heap.size, k, none⟩) (by have := L3.out.bf; simp; omega) (.int .i64 (k : Int))).alloc (.cells #[.int .i64 (at2 bs k).1, .int .i64 (at2 bs k).2] 54))
                    have hz6 : z ≤ ((wr.setCell ⟨w2.heap.size, k, none⟩ (.int .i64 (k : Int))).alloc (.cells #[.int .i64 (at2 bs k).1, .int .i64 (at2 bs k).2] 54)).heap.size := by simp; omega
                    have hz7 : w.heap.size + 2 ≤ ((wr.setCell ⟨w2.heap.size, k, none⟩ (.int .i64 (k : Int))).alloc (.cells #[.int .i64 (at2 bs k).1, .int .i64 (at2 bs k).2] 54)).heap.size := by have := HR.out.lt; simp; omega
                    clear hsq hv T2 K2' R2'
                    go_wp2_with fail
                    refine (search_any (w.heap.size + 2) z ((w2.heap.size + 1)) (w2.heap.size) ((w2.heap.size + 1 + 1)) i (k + 1) k _ _ _ _ ls on bs (fs.set k k) ps ord E f _ L3.out hz7 hz6 ((H0.out.below K5.out).more (by omega)) ((G0.out.below K5.out).more (by omega)) hon HV.out HBN.out T5.out SQ5.out hkn).mono ?_
                    rintro e w8 ⟨rfl, fs8, ps8, ord8, E8, f8, hts8, hsq8, hb8⟩
                    have T8 := hide hts8
                    have S8 := hide hsq8
                    have K8 := hide (K5.out.trans (hb8.mono (by omega)))
                    have R8 := hide (R5.out.below hb8 (by omega))
                    have hz8 := hb8.size
                    clear hts8 hsq8 hb8 T5 SQ5 K5 R5
                    go_wp2_with fail
                    go_roundw
                    case rel => exact ⟨k + 1, fs8, ps8, ord8, E8, f8, by omega, by go_num, by omega, hide S8.out.tv, HO2, hide (S8.out.done (Nat.le_refl _)), hide S8.out.nod, hide S8.out.rng, hide S8.out.al, hide S8.out.bk, T8, K8, R8⟩
                    case measure => simp [intOf]; omega
              · obtain rfl : k = bs.length := by omega
                have HPL := hide (TV.done HV.out HBN.out (ps := ps) (fs := fs) (by rw [← HBN.out]; exact HV1.out) HC1.out)
                have HQ := hide (radB_yes (b := i) (ls := ls) (on := on) (bs := bs) ⟨by rw [hon]; exact HF.out, HC.out, OneI.all HBN.out (by rw [← HBN.out]; exact HO.out)⟩)
                have HPN := hide (fun (x : Nat) (hx : x < bs.length) => (HV1.out.rp x hx).1)
                have HOR : Hid (OrdR ls bs ps ord) := hide ⟨HN.out, fun x hx => ⟨(HG.out x hx).1, (HG.out x hx).2.1⟩, HBK.out, fun x hx hp => HAL.out x hx (Classical.byContradiction fun hn => by have := HV1.out.np x hx (by omega); omega)⟩
                have OO5 := hide (own_set5g (g := w.heap.size + 1) (u0 := .int .i64 i) (u1 := .slice A ls.length c) (u2 := .slice (some ⟨w2.heap.size, 0, none⟩) i i) (u3 := .slice (some ⟨(w2.heap.size + 1 + 1), 0, none⟩) i i) (u4 := .slice E ord.length f) HT.out.ho (fun k hk => by have := (HT.out.ho.lt k hk).1; have := L3.out.go; have := L3.out.bg; omega))
                have hpl : ps.length = i := by have := HPL.out.len; omega
                have HPE := hide hpl
                have OP := hide (own_set5 (g := w.heap.size + 1) (u0 := .int .i64 i) (u1 := .slice A ls.length c) (u2 := .slice (some ⟨w2.heap.size, 0, none⟩) i i) (u3 := .slice (some ⟨(w2.heap.size + 1 + 1), 0, none⟩) i i) (u4 := .slice E ord.length f) HT.out.hp (by have := L3.out.bp; omega))
                have K5 := hide (below_set5 (g := w.heap.size + 1) (u0 := .int .i64 i) (u1 := .slice A ls.length c) (u2 := .slice (some ⟨w2.heap.size, 0, none⟩) i i) (u3 := .slice (some ⟨(w2.heap.size + 1 + 1), 0, none⟩) i i) (u4 := .slice E ord.length f) HK.out (by omega))
                clear hpl
                have r0 := HR.out.cell 0
                have r1 := HR.out.cell 1
                have r2 := HR.out.cell 2
                have r3 := HR.out.cell 3
                have r4 := HR.out.cell 4
                have f0 := HR.out.frozen 0
                have f1 := HR.out.frozen 1
                have f2 := HR.out.frozen 2
                have f3 := HR.out.frozen 3
                have f4 := HR.out.frozen 4
                go_wp2_with fail
                have P5 := HR.out.set5 (u0 := .int .i64 i) (u1 := .slice A ls.length c) (u2 := .slice (some ⟨w2.heap.size, 0, none⟩) i i) (u3 := .slice (some ⟨(w2.heap.size + 1 + 1), 0, none⟩) i i) (u4 := .slice E ord.length f)
                have p0 := P5.cell 0
                have p1 := P5.cell 1
                have p2 := P5.cell 2
                have p3 := P5.cell 3
                have p4 := P5.cell 4
                refine bodyPost_ret (v := .tuple #[.agg #[.int .i64 i, .slice A ls.length c, .slice (some ⟨w2.heap.size, 0, none⟩) i i, .slice (some ⟨(w2.heap.size + 1 + 1), 0, none⟩) i i, .slice E ord.length f], .bool true]) (by simp [results, Tryd.results24, go_sem, p0, p1, p2, p3, p4]) rfl ⟨K5.out, .inr ⟨HQ.out, ps, ord, some ⟨(w2.heap.size + 1 + 1), 0, none⟩, _, _, i, _, _, _, by rw [HPE.out], own_mono OO5.out (by have := L3.out.go; have := L3.out.bg; omega), HOR.out, ?_, HPL.out, HPN.out⟩⟩
                rw [HPE.out]
                exact own_mono OP.out (by omega)
      · skip
        obtain ⟨q0, q1, q2⟩ := three_made w2 (.cells (zrow nb) 3) (.cells (zrow nb) 3) (.cells #[.int .i64 nb, .slice A ls.length c, .slice (some ⟨(w2.heap.size + 1), 0, none⟩) nb nb, .slice (some ⟨w2.heap.size, 0, none⟩) nb nb, .slice none 0 0] 47)
        have hW : TS (w.heap.size + 2) (w2.heap.size + 3) ((w2.heap.size + 1 + 1)) ((w2.heap.size + 1)) (w2.heap.size) nb A ls.length c (fillN nb 0) (fillN nb 0) [] none 0 ((((w2.alloc (.cells (zrow nb) 3)).alloc (.cells (zrow nb) 3)).alloc (.cells #[.int .i64 nb, .slice A ls.length c, .slice (some ⟨(w2.heap.size + 1), 0, none⟩) nb nb, .slice (some ⟨w2.heap.size, 0, none⟩) nb nb, .slice none 0 0] 47)).drew) := ⟨q2, own_of_heap q1 (by omega) (by omega), own_of_heap q0 (by omega) (by omega), World.ownsRow_nil _ _ _ _⟩
        have hL : TL (w.heap.size + 2) (w2.heap.size + 3) ((w2.heap.size + 1 + 1)) ((w2.heap.size + 1)) (w2.heap.size) := ⟨by omega, by omega, by omega, by omega, by omega, by omega, by omega, by omega, by omega⟩
        have hM : Below w2.heap.size w2 ((((w2.alloc (.cells (zrow nb) 3)).alloc (.cells (zrow nb) 3)).alloc (.cells #[.int .i64 nb, .slice A ls.length c, .slice (some ⟨(w2.heap.size + 1), 0, none⟩) nb nb, .slice (some ⟨w2.heap.size, 0, none⟩) nb nb, .slice none 0 0] 47)).drew) := ((((Below.refl _ w2).alloc (by simp) _).alloc (by simp) _).alloc (by simp; omega) _).drew
        have hz3 : w2.heap.size + 3 ≤ ((((w2.alloc (.cells (zrow nb) 3)).alloc (.cells (zrow nb) 3)).alloc (.cells #[.int .i64 nb, .slice A ls.length c, .slice (some ⟨(w2.heap.size + 1), 0, none⟩) nb nb, .slice (some ⟨w2.heap.size, 0, none⟩) nb nb, .slice none 0 0] 47)).drew).heap.size := by simp
        have M3 := hide hM
        have T3 := hide hW
        have L3 := hide hL
        have K3 := hide (K2.out.trans (hM.mono (by omega)))
        generalize w2.heap.size + 3 = z at *
        clear hW hL hM q0 q1 q2
        have B3 := hide (B2.out.below M3.out (by omega))
        have R3 := hide (R2.out.below M3.out (by omega))
        generalize (((w2.alloc (.cells (zrow nb) 3)).alloc (.cells (zrow nb) 3)).alloc (.cells #[.int .i64 nb, .slice A ls.length c, .slice (some ⟨(w2.heap.size + 1), 0, none⟩) nb nb, .slice (some ⟨w2.heap.size, 0, none⟩) nb nb, .slice none 0 0] 47)).drew = w3 at *
        have hz3w := B3.out.lt
        clear g0 g1 B2 R2 M3
        obtain ⟨g0, g1⟩ := B3.out.two
        go_wp2_with fail
        go_loopw [33] (fun x wr => ∃ i : Nat, i ≤ nb ∧ x = .int .i64 i ∧ z ≤ wr.heap.size ∧ Hid (TS (w.heap.size + 2) z (w2.heap.size + 1 + 1) (w2.heap.size + 1) w2.heap.size nb A ls.length c (fillN nb i) (fillN nb i) [] none 0 wr) ∧ Hid (Below w.heap.size w wr) ∧ Hid (Blk wr (w.heap.size + 1) 47 #[.int .i64 0, .slice none 0 0, .slice none 0 0, .slice none 0 0, .slice none 0 0])) (fun x _ => nb - (intOf x).toNat)
        case atStart => exact ⟨0, Nat.zero_le _, rfl, hz3, T3, K3, R3⟩
        case round =>
          clear T3 K3 R3 B3 hz3 g0 g1 hz3w
          obtain ⟨i, hi, rfl, hz3, HT, HK, HR⟩ := hrel
          by_cases hlt : i < nb
          · obtain ⟨y0, y1, y2, y3, y4⟩ := HT.out.five
            have x1 := HT.out.hf.cellAt i (by omega)
            rw [encI_at _ i (by rw [fillN_len]; exact hlt)] at x1
            have x2 := HT.out.hp.cellAt i (by omega)
            rw [encI_at _ i (by rw [fillN_len]; exact hlt)] at x2
            have x3 := HT.out.hf.frozenAt i
            have x4 := HT.out.hp.frozenAt i
            have T4 := HT.out.mark L3.out hlt (-1) (-1)
            rw [fillN_set nb i hlt] at T4
            have HT4 := hide T4
            have K4 := hide ((HK.out.setCell (p := ⟨(w2.heap.size + 1), i, none⟩) (by have := L3.out.bf; show w.heap.size ≤ (w2.heap.size + 1); omega) (.int .i64 (-1))).setCell (p := ⟨w2.heap.size, i, none⟩) (by have := L3.out.bp; show w.heap.size ≤ w2.heap.size; omega) (.int .i64 (-1)))
            have R4 := hide ((HR.out.far (p := ⟨(w2.heap.size + 1), i, none⟩) (by have := L3.out.bf; simp; omega) (.int .i64 (-1))).far (p := ⟨w2.heap.size, i, none⟩) (by have := L3.out.bp; simp; omega) (.int .i64 (-1)))
            have i0 : (0 : Int) ≤ i := by omega
            have i1 : (i : Int) < nb := by omega
            have hd1 : (w2.heap.size + 1 + 1) ≠ (w2.heap.size + 1) := L3.out.gf
            have hd2 : (w2.heap.size + 1 + 1) ≠ w2.heap.size := L3.out.gp
            have hd3 : (w2.heap.size + 1) ≠ w2.heap.size := L3.out.fp
            have hz5 : z ≤ ((wr.setCell ⟨(w2.heap.size + 1), i, none⟩ (.int .i64 (-1))).setCell ⟨w2.heap.size, i, none⟩ (.int .i64 (-1))).heap.size := by simpa using hz3
            clear T4
            go_wp2_with fail
            go_roundw
            case rel => exact ⟨i + 1, by omega, by go_num, hz5, HT4, K4, R4⟩
            case measure => simp [intOf]; omega
          · obtain rfl : i = nb := by omega
            rw [fillN_all] at HT
            go_wp2_with fail
            go_loopw [47] (fun x wr => ∃ (k : Nat) (fs ps ord : List Int) (E : Option Addr) (f : Nat), k ≤ bs.length ∧ x = .int .i64 k ∧ z ≤ wr.heap.size ∧ Hid (TV ls on bs k fs ps) ∧ Hid (OneI ls on bs k) ∧ Hid (Closed ls on bs fs []) ∧ Hid (ord.Nodup) ∧ Hid (∀ x ∈ ord, 0 ≤ x ∧ x < bs.length ∧ 0 ≤ at_ fs x.toNat) ∧ Hid (∀ x : Nat, x < bs.length → 0 ≤ at_ fs x → (x : Int) ∈ ord) ∧ Hid (OrdP ls ps ord) ∧ Hid (TS (w.heap.size + 2) z (w2.heap.size + 1 + 1) (w2.heap.size + 1) w2.heap.size i A ls.length c fs ps ord E f wr) ∧ Hid (Below w.heap.size w wr) ∧ Hid (Blk wr (w.heap.size + 1) 47 #[.int .i64 0, .slice none 0 0, .slice none 0 0, .slice none 0 0, .slice none 0 0])) (fun x _ => bs.length - (intOf x).toNat)
            case atStart =>
              refine ⟨0, noneL i, noneL i, [], none, 0, Nat.zero_le _, rfl, hz3, hide ?_, hide (fun f g hf => absurd hf (by omega)), hide ?_, hide (by simp), hide (fun x hx => by cases hx), hide (fun x hx hv => by rw [noneL_at i x (by omega)] at hv; omega), hide (fun j y hj => absurd hj (by simp)), HT, HK, HR⟩
              · rw [← HBN.out]; exact TV.start ls on bs
              · rw [← HBN.out]; exact Closed.start
            case round =>
              clear HT HK HR hz3
              obtain ⟨k, fs, ps, ord, E, f, hk, rfl, hz3, HV1, HO, HC1, HN, HG, HAL, HBK, HT, HK, HR⟩ := hrel
              obtain ⟨y0, y1, y2, y3, y4⟩ := HT.out.five
              by_cases hlt : k < bs.length
              · obtain ⟨b0, o0, rfl, hb, hd0, hd1⟩ := S0.out.two k hlt
                have d0 := (HK.out.cell (p := ⟨b0, o0 + k * 2, none⟩) hb).trans hd0
                have d1 := (HK.out.cell (p := ⟨b0, o0 + k * 2 + 1, none⟩) hb).trans hd1
                have hz4 := HK.out.size
                have hb0 : b0 < wr.heap.size := by omega
                have kk := (Below.refl _ wr).alloc (Nat.le_refl _) (.cells #[.int .i64 (at2 bs k).1, .int .i64 (at2 bs k).2] 54)
                have T2 := hide (HT.out.to kk)
                have K2' := hide (HK.out.then kk)
                have R2' := hide (HR.out.to kk)
                have hzz : z ≤ (wr.alloc (.cells #[.int .i64 (at2 bs k).1, .int .i64 (at2 bs k).2] 54)).heap.size := by simp; omega
                have hgl : (w2.heap.size + 1 + 1) < wr.heap.size := HT.out.tr.lt
                have hfl : (w2.heap.size + 1) < wr.heap.size := (HT.out.hf.lt _ rfl).2
                have hgf : (w2.heap.size + 1 + 1) ≠ (w2.heap.size + 1) := L3.out.gf
                have hf0 : 0 ≤ (at2 bs k).1 := by
                  have := (fedB_true HF.out).2.2.2 k hlt
                  simp only [busOk, Bool.and_eq_true] at this
                  exact (inB_true this.1).1
                clear hd0 hd1 kk
                by_cases h0 : (at2 bs k).1 = 0
                · have heq : ((at2 bs k).1 == 0) = true := by simp [h0]
                  have HNF : Hid (¬ FeedP bs k) := hide fun hf => by
                    obtain ⟨q, hq, he, hp⟩ := hf
                    obtain rfl : k = q := by omega
                    omega
                  clear h0 hf0 y0 y1 y2 y3 y4
                  go_wp2_with fail
                  go_roundw
                  case rel => exact ⟨k + 1, fs, ps, ord, E, f, by omega, by go_num, hzz, hide (HV1.out.skip HNF.out), hide (HO.out.skip HNF.out), HC1, HN, HG, HAL, HBK, T2, K2', R2'⟩
                  case measure => simp [intOf]; omega
                · have heq : ((at2 bs k).1 == 0) = false := by simp [h0]
                  have HFD : Hid (FeedP bs k) := hide ⟨k, hlt, rfl, by omega⟩
                  have hkn : k < i := by omega
                  have x1 := HT.out.hf.cellAt k (by omega)
                  rw [encI_at fs k (by have := HV1.out.lf; omega)] at x1
                  have x3 := HT.out.hf.frozenAt k
                  have i0 : (0 : Int) ≤ k := by omega
                  have i1 : (k : Int) < i := by omega
                  clear h0 hf0
                  by_cases hv : 0 ≤ at_ fs k
                  · have hge : decide (0 ≤ at_ fs k) = true := by simp [hv]
                    have HQ := hide (radB_no (b := i) (ls := ls) (on := on) (bs := bs) (fun h => HV1.out.bad hlt HFD.out hv h.2.2))
                    have hgr : w.heap.size + 1 < wr.heap.size := HR.out.lt
                    have r0 := HR.out.cell 0
                    have r1 := HR.out.cell 1
                    have r2 := HR.out.cell 2
                    have r3 := HR.out.cell 3
                    have r4 := HR.out.cell 4
                    have f0 := HR.out.frozen 0
                    have f1 := HR.out.frozen 1
                    have f2 := HR.out.frozen 2
                    have f3 := HR.out.frozen 3
                    have f4 := HR.out.frozen 4
                    clear hv
                    go_wp2_with fail
                    have P5 := (HR.out.set5 (u0 := .int .i64 0) (u1 := .slice none 0 0) (u2 := .slice none 0 0) (u3 := .slice none 0 0) (u4 := .slice none 0 0)).alloc (.cells #[.int .i64 (at2 bs k).1, .int .i64 (at2 bs k).2] 54)
                    have p0 := P5.cell 0
                    have p1 := P5.cell 1
                    have p2 := P5.cell 2
                    have p3 := P5.cell 3
                    have p4 := P5.cell 4
                    refine bodyPost_ret (v := .tuple #[.agg #[.int .i64 0, .slice none 0 0, .slice none 0 0, .slice none 0 0, .slice none 0 0], .bool false]) (by simp [results, Tryd.results24, go_sem, p0, p1, p2, p3, p4]) rfl ⟨(below_set5 HK.out (by omega)).alloc (by simp; omega) _, .inl ⟨HQ.out, rfl⟩⟩
                  · have hge : decide (0 ≤ at_ fs k) = false := by simp; omega
                    have hsq := SQ.start HV1.out hlt HFD.out (by omega) HC1.out HN.out HG.out HAL.out HBK.out
                    have HO2 := hide (HO.out.feed HV.out HBN.out HV1.out HC1.out (by omega))
                    have SQ5 := hide hsq
                    have T5 := hide ((HT.out.set1 L3.out (y := k) k).to ((Below.refl _ _).alloc (Nat.le_refl _) (.cells #[.int .i64 (at2 bs k).1, .int .i64 (at2 bs k).2] 54)))
                    have K5 := hide ((HK.out.setCell (p := ⟨(w2.heap.size + 1), k, none⟩) (by have := L3.out.bf; show w.heap.size ≤ (w2.heap.size + 1); omega) (.int .i64 (k : Int))).alloc (by simp; omega) (.cells #[.int .i64 (at2 bs k).1, .int .i64 (at2 bs k).2] 54))
                    have R5 := hide ((HR.out.far (p := ⟨(w2.heap.size + 1), k, none⟩) (by have := L3.out.bf; simp; omega) (.int .i64 (k : Int))).alloc (.cells #[.int .i64 (at2 bs k).1, .int .i64 (at2 bs k).2] 54))
                    have hz6 : z ≤ ((wr.setCell ⟨(w2.heap.size + 1), k, none⟩ (.int .i64 (k : Int))).alloc (.cells #[.int .i64 (at2 bs k).1, .int .i64 (at2 bs k).2] 54)).heap.size := by simp; omega
                    have hz7 : w.heap.size + 2 ≤ ((wr.setCell ⟨(w2.heap.size + 1), k, none⟩ (.int .i64 (k : Int))).alloc (.cells #[.int .i64 (at2 bs k).1, .int .i64 (at2 bs k).2] 54)).heap.size := by have := HR.out.lt; simp; omega
                    clear hsq hv T2 K2' R2'
                    go_wp2_with fail
                    refine (search_any (w.heap.size + 2) z ((w2.heap.size + 1 + 1)) ((w2.heap.size + 1)) (w2.heap.size) i (k + 1) k _ _ _ _ ls on bs (fs.set k k) ps ord E f _ L3.out hz7 hz6 ((H0.out.below K5.out).more (by omega)) ((G0.out.below K5.out).more (by omega)) hon HV.out HBN.out T5.out SQ5.out hkn).mono ?_
                    rintro e w8 ⟨rfl, fs8, ps8, ord8, E8, f8, hts8, hsq8, hb8⟩
                    have T8 := hide hts8
                    have S8 := hide hsq8
                    have K8 := hide (K5.out.trans (hb8.mono (by omega)))
                    have R8 := hide (R5.out.below hb8 (by omega))
                    have hz8 := hb8.size
                    clear hts8 hsq8 hb8 T5 SQ5 K5 R5
                    go_wp2_with fail
                    go_roundw
                    case rel => exact ⟨k + 1, fs8, ps8, ord8, E8, f8, by omega, by go_num, by omega, hide S8.out.tv, HO2, hide (S8.out.done (Nat.le_refl _)), hide S8.out.nod, hide S8.out.rng, hide S8.out.al, hide S8.out.bk, T8, K8, R8⟩
                    case measure => simp [intOf]; omega
              · obtain rfl : k = bs.length := by omega
                have HPL := hide (TV.done HV.out HBN.out (ps := ps) (fs := fs) (by rw [← HBN.out]; exact HV1.out) HC1.out)
                have HQ := hide (radB_yes (b := i) (ls := ls) (on := on) (bs := bs) ⟨by rw [hon]; exact HF.out, HC.out, OneI.all HBN.out (by rw [← HBN.out]; exact HO.out)⟩)
                have HPN := hide (fun (x : Nat) (hx : x < bs.length) => (HV1.out.rp x hx).1)
                have HOR : Hid (OrdR ls bs ps ord) := hide ⟨HN.out, fun x hx => ⟨(HG.out x hx).1, (HG.out x hx).2.1⟩, HBK.out, fun x hx hp => HAL.out x hx (Classical.byContradiction fun hn => by have := HV1.out.np x hx (by omega); omega)⟩
                have OO5 := hide (own_set5g (g := w.heap.size + 1) (u0 := .int .i64 i) (u1 := .slice A ls.length c) (u2 := .slice (some ⟨(w2.heap.size + 1), 0, none⟩) i i) (u3 := .slice (some ⟨w2.heap.size, 0, none⟩) i i) (u4 := .slice E ord.length f) HT.out.ho (fun k hk => by have := (HT.out.ho.lt k hk).1; have := L3.out.go; have := L3.out.bg; omega))
                have hpl : ps.length = i := by have := HPL.out.len; omega
                have HPE := hide hpl
                have OP := hide (own_set5 (g := w.heap.size + 1) (u0 := .int .i64 i) (u1 := .slice A ls.length c) (u2 := .slice (some ⟨(w2.heap.size + 1), 0, none⟩) i i) (u3 := .slice (some ⟨w2.heap.size, 0, none⟩) i i) (u4 := .slice E ord.length f) HT.out.hp (by have := L3.out.bp; omega))
                have K5 := hide (below_set5 (g := w.heap.size + 1) (u0 := .int .i64 i) (u1 := .slice A ls.length c) (u2 := .slice (some ⟨(w2.heap.size + 1), 0, none⟩) i i) (u3 := .slice (some ⟨w2.heap.size, 0, none⟩) i i) (u4 := .slice E ord.length f) HK.out (by omega))
                clear hpl
                have r0 := HR.out.cell 0
                have r1 := HR.out.cell 1
                have r2 := HR.out.cell 2
                have r3 := HR.out.cell 3
                have r4 := HR.out.cell 4
                have f0 := HR.out.frozen 0
                have f1 := HR.out.frozen 1
                have f2 := HR.out.frozen 2
                have f3 := HR.out.frozen 3
                have f4 := HR.out.frozen 4
                go_wp2_with fail
                have P5 := HR.out.set5 (u0 := .int .i64 i) (u1 := .slice A ls.length c) (u2 := .slice (some ⟨(w2.heap.size + 1), 0, none⟩) i i) (u3 := .slice (some ⟨w2.heap.size, 0, none⟩) i i) (u4 := .slice E ord.length f)
                have p0 := P5.cell 0
                have p1 := P5.cell 1
                have p2 := P5.cell 2
                have p3 := P5.cell 3
                have p4 := P5.cell 4
                refine bodyPost_ret (v := .tuple #[.agg #[.int .i64 i, .slice A ls.length c, .slice (some ⟨(w2.heap.size + 1), 0, none⟩) i i, .slice (some ⟨w2.heap.size, 0, none⟩) i i, .slice E ord.length f], .bool true]) (by simp [results, Tryd.results24, go_sem, p0, p1, p2, p3, p4]) rfl ⟨K5.out, .inr ⟨HQ.out, ps, ord, some ⟨w2.heap.size, 0, none⟩, _, _, i, _, _, _, by rw [HPE.out], own_mono OO5.out (by have := L3.out.go; have := L3.out.bg; omega), HOR.out, ?_, HPL.out, HPN.out⟩⟩
                rw [HPE.out]
                exact own_mono OP.out (by omega)
      · skip
        obtain ⟨q0, q1, q2⟩ := three_made w2 (.cells (zrow nb) 3) (.cells #[.int .i64 nb, .slice A ls.length c, .slice (some ⟨(w2.heap.size + 1 + 1), 0, none⟩) nb nb, .slice (some ⟨w2.heap.size, 0, none⟩) nb nb, .slice none 0 0] 47) (.cells (zrow nb) 3)
        have hW : TS (w.heap.size + 2) (w2.heap.size + 3) ((w2.heap.size + 1)) ((w2.heap.size + 1 + 1)) (w2.heap.size) nb A ls.length c (fillN nb 0) (fillN nb 0) [] none 0 ((((w2.alloc (.cells (zrow nb) 3)).alloc (.cells #[.int .i64 nb, .slice A ls.length c, .slice (some ⟨(w2.heap.size + 1 + 1), 0, none⟩) nb nb, .slice (some ⟨w2.heap.size, 0, none⟩) nb nb, .slice none 0 0] 47)).alloc (.cells (zrow nb) 3)).drew) := ⟨q1, own_of_heap q2 (by omega) (by omega), own_of_heap q0 (by omega) (by omega), World.ownsRow_nil _ _ _ _⟩
        have hL : TL (w.heap.size + 2) (w2.heap.size + 3) ((w2.heap.size + 1)) ((w2.heap.size + 1 + 1)) (w2.heap.size) := ⟨by omega, by omega, by omega, by omega, by omega, by omega, by omega, by omega, by omega⟩
        have hM : Below w2.heap.size w2 ((((w2.alloc (.cells (zrow nb) 3)).alloc (.cells #[.int .i64 nb, .slice A ls.length c, .slice (some ⟨(w2.heap.size + 1 + 1), 0, none⟩) nb nb, .slice (some ⟨w2.heap.size, 0, none⟩) nb nb, .slice none 0 0] 47)).alloc (.cells (zrow nb) 3)).drew) := ((((Below.refl _ w2).alloc (by simp) _).alloc (by simp) _).alloc (by simp; omega) _).drew
        have hz3 : w2.heap.size + 3 ≤ ((((w2.alloc (.cells (zrow nb) 3)).alloc (.cells #[.int .i64 nb, .slice A ls.length c, .slice (some ⟨(w2.heap.size + 1 + 1), 0, none⟩) nb nb, .slice (some ⟨w2.heap.size, 0, none⟩) nb nb, .slice none 0 0] 47)).alloc (.cells (zrow nb) 3)).drew).heap.size := by simp
        have M3 := hide hM
        have T3 := hide hW
        have L3 := hide hL
        have K3 := hide (K2.out.trans (hM.mono (by omega)))
        generalize w2.heap.size + 3 = z at *
        clear hW hL hM q0 q1 q2
        have B3 := hide (B2.out.below M3.out (by omega))
        have R3 := hide (R2.out.below M3.out (by omega))
        generalize (((w2.alloc (.cells (zrow nb) 3)).alloc (.cells #[.int .i64 nb, .slice A ls.length c, .slice (some ⟨(w2.heap.size + 1 + 1), 0, none⟩) nb nb, .slice (some ⟨w2.heap.size, 0, none⟩) nb nb, .slice none 0 0] 47)).alloc (.cells (zrow nb) 3)).drew = w3 at *
        have hz3w := B3.out.lt
        clear g0 g1 B2 R2 M3
        obtain ⟨g0, g1⟩ := B3.out.two
        go_wp2_with fail
        go_loopw [33] (fun x wr => ∃ i : Nat, i ≤ nb ∧ x = .int .i64 i ∧ z ≤ wr.heap.size ∧ Hid (TS (w.heap.size + 2) z (w2.heap.size + 1) (w2.heap.size + 1 + 1) w2.heap.size nb A ls.length c (fillN nb i) (fillN nb i) [] none 0 wr) ∧ Hid (Below w.heap.size w wr) ∧ Hid (Blk wr (w.heap.size + 1) 47 #[.int .i64 0, .slice none 0 0, .slice none 0 0, .slice none 0 0, .slice none 0 0])) (fun x _ => nb - (intOf x).toNat)
        case atStart => exact ⟨0, Nat.zero_le _, rfl, hz3, T3, K3, R3⟩
        case round =>
          clear T3 K3 R3 B3 hz3 g0 g1 hz3w
          obtain ⟨i, hi, rfl, hz3, HT, HK, HR⟩ := hrel
          by_cases hlt : i < nb
          · obtain ⟨y0, y1, y2, y3, y4⟩ := HT.out.five
            have x1 := HT.out.hf.cellAt i (by omega)
            rw [encI_at _ i (by rw [fillN_len]; exact hlt)] at x1
            have x2 := HT.out.hp.cellAt i (by omega)
            rw [encI_at _ i (by rw [fillN_len]; exact hlt)] at x2
            have x3 := HT.out.hf.frozenAt i
            have x4 := HT.out.hp.frozenAt i
            have T4 := HT.out.mark L3.out hlt (-1) (-1)
            rw [fillN_set nb i hlt] at T4
            have HT4 := hide T4
            have K4 := hide ((HK.out.setCell (p := ⟨(w2.heap.size + 1 + 1), i, none⟩) (by have := L3.out.bf; show w.heap.size ≤ (w2.heap.size + 1 + 1); omega) (.int .i64 (-1))).setCell (p := ⟨w2.heap.size, i, none⟩) (by have := L3.out.bp; show w.heap.size ≤ w2.heap.size; omega) (.int .i64 (-1)))
            have R4 := hide ((HR.out.far (p := ⟨(w2.heap.size + 1 + 1), i, none⟩) (by have := L3.out.bf; simp; omega) (.int .i64 (-1))).far (p := ⟨w2.heap.size, i, none⟩) (by have := L3.out.bp; simp; omega) (.int .i64 (-1)))
            have i0 : (0 : Int) ≤ i := by omega
            have i1 : (i : Int) < nb := by omega
            have hd1 : (w2.heap.size + 1) ≠ (w2.heap.size + 1 + 1) := L3.out.gf
            have hd2 : (w2.heap.size + 1) ≠ w2.heap.size := L3.out.gp
            have hd3 : (w2.heap.size + 1 + 1) ≠ w2.heap.size := L3.out.fp
            have hz5 : z ≤ ((wr.setCell ⟨(w2.heap.size + 1 + 1), i, none⟩ (.int .i64 (-1))).setCell ⟨w2.heap.size, i, none⟩ (.int .i64 (-1))).heap.size := by simpa using hz3
            clear T4
            go_wp2_with fail
            go_roundw
            case rel => exact ⟨i + 1, by omega, by go_num, hz5, HT4, K4, R4⟩
            case measure => simp [intOf]; omega
          · obtain rfl : i = nb := by omega
            rw [fillN_all] at HT
            go_wp2_with fail
            go_loopw [47] (fun x wr => ∃ (k : Nat) (fs ps ord : List Int) (E : Option Addr) (f : Nat), k ≤ bs.length ∧ x = .int .i64 k ∧ z ≤ wr.heap.size ∧ Hid (TV ls on bs k fs ps) ∧ Hid (OneI ls on bs k) ∧ Hid (Closed ls on bs fs []) ∧ Hid (ord.Nodup) ∧ Hid (∀ x ∈ ord, 0 ≤ x ∧ x < bs.length ∧ 0 ≤ at_ fs x.toNat) ∧ Hid (∀ x : Nat, x < bs.length → 0 ≤ at_ fs x → (x : Int) ∈ ord) ∧ Hid (OrdP ls ps ord) ∧ Hid (TS (w.heap.size + 2) z (w2.heap.size + 1) (w2.heap.size + 1 + 1) w2.heap.size i A ls.length c fs ps ord E f wr) ∧ Hid (Below w.heap.size w wr) ∧ Hid (Blk wr (w.heap.size + 1) 47 #[.int .i64 0, .slice none 0 0, .slice none 0 0, .slice none 0 0, .slice none 0 0])) (fun x _ => bs.length - (intOf x).toNat)
            case atStart =>
              refine ⟨0, noneL i, noneL i, [], none, 0, Nat.zero_le _, rfl, hz3, hide ?_, hide (fun f g hf => absurd hf (by omega)), hide ?_, hide (by simp), hide (fun x hx => by cases hx), hide (fun x hx hv => by rw [noneL_at i x (by omega)] at hv; omega), hide (fun j y hj => absurd hj (by simp)), HT, HK, HR⟩
              · rw [← HBN.out]; exact TV.start ls on bs
              · rw [← HBN.out]; exact Closed.start
            case round =>
              clear HT HK HR hz3
              obtain ⟨k, fs, ps, ord, E, f, hk, rfl, hz3, HV1, HO, HC1, HN, HG, HAL, HBK, HT, HK, HR⟩ := hrel
              obtain ⟨y0, y1, y2, y3, y4⟩ := HT.out.five
              by_cases hlt : k < bs.length
              · obtain ⟨b0, o0, rfl, hb, hd0, hd1⟩ := S0.out.two k hlt
                have d0 := (HK.out.cell (p := ⟨b0, o0 + k * 2, none⟩) hb).trans hd0
                have d1 := (HK.out.cell (p := ⟨b0, o0 + k * 2 + 1, none⟩) hb).trans hd1
                have hz4 := HK.out.size
                have hb0 : b0 < wr.heap.size := by omega
                have kk := (Below.refl _ wr).alloc (Nat.le_refl _) (.cells #[.int .i64 (at2 bs k).1, .int .i64 (at2 bs k).2] 54)
                have T2 := hide (HT.out.to kk)
                have K2' := hide (HK.out.then kk)
                have R2' := hide (HR.out.to kk)
                have hzz : z ≤ (wr.alloc (.cells #[.int .i64 (at2 bs k).1, .int .i64 (at2 bs k).2] 54)).heap.size := by simp; omega
                have hgl : (w2.heap.size + 1) < wr.heap.size := HT.out.tr.lt
                have hfl : (w2.heap.size + 1 + 1) < wr.heap.size := (HT.out.hf.lt _ rfl).2
                have hgf : (w2.heap.size + 1) ≠ (w2.heap.size + 1 + 1) := L3.out.gf
                have hf0 : 0 ≤ (at2 bs k).1 := by
                  have := (fedB_true HF.out).2.2.2 k hlt
                  simp only [busOk, Bool.and_eq_true] at this
                  exact (inB_true this.1).1
                clear hd0 hd1 kk
                by_cases h0 : (at2 bs k).1 = 0
                · have heq : ((at2 bs k).1 == 0) = true := by simp [h0]
                  have HNF : Hid (¬ FeedP bs k) := hide fun hf => by
                    obtain ⟨q, hq, he, hp⟩ := hf
                    obtain rfl : k = q := by omega
                    omega
                  clear h0 hf0 y0 y1 y2 y3 y4
                  go_wp2_with fail
                  go_roundw
                  case rel => exact ⟨k + 1, fs, ps, ord, E, f, by omega, by go_num, hzz, hide (HV1.out.skip HNF.out), hide (HO.out.skip HNF.out), HC1, HN, HG, HAL, HBK, T2, K2', R2'⟩
                  case measure => simp [intOf]; omega
                · have heq : ((at2 bs k).1 == 0) = false := by simp [h0]
                  have HFD : Hid (FeedP bs k) := hide ⟨k, hlt, rfl, by omega⟩
                  have hkn : k < i := by omega
                  have x1 := HT.out.hf.cellAt k (by omega)
                  rw [encI_at fs k (by have := HV1.out.lf; omega)] at x1
                  have x3 := HT.out.hf.frozenAt k
                  have i0 : (0 : Int) ≤ k := by omega
                  have i1 : (k : Int) < i := by omega
                  clear h0 hf0
                  by_cases hv : 0 ≤ at_ fs k
                  · have hge : decide (0 ≤ at_ fs k) = true := by simp [hv]
                    have HQ := hide (radB_no (b := i) (ls := ls) (on := on) (bs := bs) (fun h => HV1.out.bad hlt HFD.out hv h.2.2))
                    have hgr : w.heap.size + 1 < wr.heap.size := HR.out.lt
                    have r0 := HR.out.cell 0
                    have r1 := HR.out.cell 1
                    have r2 := HR.out.cell 2
                    have r3 := HR.out.cell 3
                    have r4 := HR.out.cell 4
                    have f0 := HR.out.frozen 0
                    have f1 := HR.out.frozen 1
                    have f2 := HR.out.frozen 2
                    have f3 := HR.out.frozen 3
                    have f4 := HR.out.frozen 4
                    clear hv
                    go_wp2_with fail
                    have P5 := (HR.out.set5 (u0 := .int .i64 0) (u1 := .slice none 0 0) (u2 := .slice none 0 0) (u3 := .slice none 0 0) (u4 := .slice none 0 0)).alloc (.cells #[.int .i64 (at2 bs k).1, .int .i64 (at2 bs k).2] 54)
                    have p0 := P5.cell 0
                    have p1 := P5.cell 1
                    have p2 := P5.cell 2
                    have p3 := P5.cell 3
                    have p4 := P5.cell 4
                    refine bodyPost_ret (v := .tuple #[.agg #[.int .i64 0, .slice none 0 0, .slice none 0 0, .slice none 0 0, .slice none 0 0], .bool false]) (by simp [results, Tryd.results24, go_sem, p0, p1, p2, p3, p4]) rfl ⟨(below_set5 HK.out (by omega)).alloc (by simp; omega) _, .inl ⟨HQ.out, rfl⟩⟩
                  · have hge : decide (0 ≤ at_ fs k) = false := by simp; omega
                    have hsq := SQ.start HV1.out hlt HFD.out (by omega) HC1.out HN.out HG.out HAL.out HBK.out
                    have HO2 := hide (HO.out.feed HV.out HBN.out HV1.out HC1.out (by omega))
                    have SQ5 := hide hsq
                    have T5 := hide ((HT.out.set1 L3.out (y := k) k).to ((Below.refl _ _).alloc (Nat.le_refl _) (.cells #[.int .i64 (at2 bs k).1, .int .i64 (at2 bs k).2] 54)))
                    have K5 := hide ((HK.out.setCell (p := ⟨(w2.heap.size + 1 + 1), k, none⟩) (by have := L3.out.bf; show w.heap.size ≤ (w2.heap.size + 1 + 1); omega) (.int .i64 (k : Int))).alloc (by simp; omega) (.cells #[.int .i64 (at2 bs k).1, .int .i64 (at2 bs k).2] 54))
                    have R5 := hide ((HR.out.far (p := ⟨(w2.heap.size + 1 + 1), k, none⟩) (by have := L3.out.bf; simp; omega) (.int .i64 (k : Int))).alloc (.cells #[.int .i64 (at2 bs k).1, .int .i64 (at2 bs k).2] 54))
                    have hz6 : z ≤ ((wr.setCell ⟨(w2.heap.size + 1 + 1), k, none⟩ (.int .i64 (k : Int))).alloc (.cells #[.int .i64 (at2 bs k).1, .int .i64 (at2 bs k).2] 54)).heap.size := by simp; omega
                    have hz7 : w.heap.size + 2 ≤ ((wr.setCell ⟨(w2.heap.size + 1 + 1), k, none⟩ (.int .i64 (k : Int))).alloc (.cells #[.int .i64 (at2 bs k).1, .int .i64 (at2 bs k).2] 54)).heap.size := by have := HR.out.lt; simp; omega
                    clear hsq hv T2 K2' R2'
                    go_wp2_with fail
                    refine (search_any (w.heap.size + 2) z ((w2.heap.size + 1)) ((w2.heap.size + 1 + 1)) (w2.heap.size) i (k + 1) k _ _ _ _ ls on bs (fs.set k k) ps ord E f _ L3.out hz7 hz6 ((H0.out.below K5.out).more (by omega)) ((G0.out.below K5.out).more (by omega)) hon HV.out HBN.out T5.out SQ5.out hkn).mono ?_
                    rintro e w8 ⟨rfl, fs8, ps8, ord8, E8, f8, hts8, hsq8, hb8⟩
                    have T8 := hide hts8
                    have S8 := hide hsq8
                    have K8 := hide (K5.out.trans (hb8.mono (by omega)))
                    have R8 := hide (R5.out.below hb8 (by omega))
                    have hz8 := hb8.size
                    clear hts8 hsq8 hb8 T5 SQ5 K5 R5
                    go_wp2_with fail
                    go_roundw
                    case rel => exact ⟨k + 1, fs8, ps8, ord8, E8, f8, by omega, by go_num, by omega, hide S8.out.tv, HO2, hide (S8.out.done (Nat.le_refl _)), hide S8.out.nod, hide S8.out.rng, hide S8.out.al, hide S8.out.bk, T8, K8, R8⟩
                    case measure => simp [intOf]; omega
              · obtain rfl : k = bs.length := by omega
                have HPL := hide (TV.done HV.out HBN.out (ps := ps) (fs := fs) (by rw [← HBN.out]; exact HV1.out) HC1.out)
                have HQ := hide (radB_yes (b := i) (ls := ls) (on := on) (bs := bs) ⟨by rw [hon]; exact HF.out, HC.out, OneI.all HBN.out (by rw [← HBN.out]; exact HO.out)⟩)
                have HPN := hide (fun (x : Nat) (hx : x < bs.length) => (HV1.out.rp x hx).1)
                have HOR : Hid (OrdR ls bs ps ord) := hide ⟨HN.out, fun x hx => ⟨(HG.out x hx).1, (HG.out x hx).2.1⟩, HBK.out, fun x hx hp => HAL.out x hx (Classical.byContradiction fun hn => by have := HV1.out.np x hx (by omega); omega)⟩
                have OO5 := hide (own_set5g (g := w.heap.size + 1) (u0 := .int .i64 i) (u1 := .slice A ls.length c) (u2 := .slice (some ⟨(w2.heap.size + 1 + 1), 0, none⟩) i i) (u3 := .slice (some ⟨w2.heap.size, 0, none⟩) i i) (u4 := .slice E ord.length f) HT.out.ho (fun k hk => by have := (HT.out.ho.lt k hk).1; have := L3.out.go; have := L3.out.bg; omega))
                have hpl : ps.length = i := by have := HPL.out.len; omega
                have HPE := hide hpl
                have OP := hide (own_set5 (g := w.heap.size + 1) (u0 := .int .i64 i) (u1 := .slice A ls.length c) (u2 := .slice (some ⟨(w2.heap.size + 1 + 1), 0, none⟩) i i) (u3 := .slice (some ⟨w2.heap.size, 0, none⟩) i i) (u4 := .slice E ord.length f) HT.out.hp (by have := L3.out.bp; omega))
                have K5 := hide (below_set5 (g := w.heap.size + 1) (u0 := .int .i64 i) (u1 := .slice A ls.length c) (u2 := .slice (some ⟨(w2.heap.size + 1 + 1), 0, none⟩) i i) (u3 := .slice (some ⟨w2.heap.size, 0, none⟩) i i) (u4 := .slice E ord.length f) HK.out (by omega))
                clear hpl
                have r0 := HR.out.cell 0
                have r1 := HR.out.cell 1
                have r2 := HR.out.cell 2
                have r3 := HR.out.cell 3
                have r4 := HR.out.cell 4
                have f0 := HR.out.frozen 0
                have f1 := HR.out.frozen 1
                have f2 := HR.out.frozen 2
                have f3 := HR.out.frozen 3
                have f4 := HR.out.frozen 4
                go_wp2_with fail
                have P5 := HR.out.set5 (u0 := .int .i64 i) (u1 := .slice A ls.length c) (u2 := .slice (some ⟨(w2.heap.size + 1 + 1), 0, none⟩) i i) (u3 := .slice (some ⟨w2.heap.size, 0, none⟩) i i) (u4 := .slice E ord.length f)
                have p0 := P5.cell 0
                have p1 := P5.cell 1
                have p2 := P5.cell 2
                have p3 := P5.cell 3
                have p4 := P5.cell 4
                refine bodyPost_ret (v := .tuple #[.agg #[.int .i64 i, .slice A ls.length c, .slice (some ⟨(w2.heap.size + 1 + 1), 0, none⟩) i i, .slice (some ⟨w2.heap.size, 0, none⟩) i i, .slice E ord.length f], .bool true]) (by simp [results, Tryd.results24, go_sem, p0, p1, p2, p3, p4]) rfl ⟨K5.out, .inr ⟨HQ.out, ps, ord, some ⟨w2.heap.size, 0, none⟩, _, _, i, _, _, _, by rw [HPE.out], own_mono OO5.out (by have := L3.out.go; have := L3.out.bg; omega), HOR.out, ?_, HPL.out, HPN.out⟩⟩
                rw [HPE.out]
                exact own_mono OP.out (by omega)
      · skip
        obtain ⟨q0, q1, q2⟩ := three_made w2 (.cells #[.int .i64 nb, .slice A ls.length c, .slice (some ⟨(w2.heap.size + 1), 0, none⟩) nb nb, .slice (some ⟨(w2.heap.size + 1 + 1), 0, none⟩) nb nb, .slice none 0 0] 47) (.cells (zrow nb) 3) (.cells (zrow nb) 3)
        have hW : TS (w.heap.size + 2) (w2.heap.size + 3) (w2.heap.size) ((w2.heap.size + 1)) ((w2.heap.size + 1 + 1)) nb A ls.length c (fillN nb 0) (fillN nb 0) [] none 0 ((((w2.alloc (.cells #[.int .i64 nb, .slice A ls.length c, .slice (some ⟨(w2.heap.size + 1), 0, none⟩) nb nb, .slice (some ⟨(w2.heap.size + 1 + 1), 0, none⟩) nb nb, .slice none 0 0] 47)).alloc (.cells (zrow nb) 3)).alloc (.cells (zrow nb) 3)).drew) := ⟨q0, own_of_heap q1 (by omega) (by omega), own_of_heap q2 (by omega) (by omega), World.ownsRow_nil _ _ _ _⟩
        have hL : TL (w.heap.size + 2) (w2.heap.size + 3) (w2.heap.size) ((w2.heap.size + 1)) ((w2.heap.size + 1 + 1)) := ⟨by omega, by omega, by omega, by omega, by omega, by omega, by omega, by omega, by omega⟩
        have hM : Below w2.heap.size w2 ((((w2.alloc (.cells #[.int .i64 nb, .slice A ls.length c, .slice (some ⟨(w2.heap.size + 1), 0, none⟩) nb nb, .slice (some ⟨(w2.heap.size + 1 + 1), 0, none⟩) nb nb, .slice none 0 0] 47)).alloc (.cells (zrow nb) 3)).alloc (.cells (zrow nb) 3)).drew) := ((((Below.refl _ w2).alloc (by simp) _).alloc (by simp) _).alloc (by simp; omega) _).drew
        have hz3 : w2.heap.size + 3 ≤ ((((w2.alloc (.cells #[.int .i64 nb, .slice A ls.length c, .slice (some ⟨(w2.heap.size + 1), 0, none⟩) nb nb, .slice (some ⟨(w2.heap.size + 1 + 1), 0, none⟩) nb nb, .slice none 0 0] 47)).alloc (.cells (zrow nb) 3)).alloc (.cells (zrow nb) 3)).drew).heap.size := by simp
        have M3 := hide hM
        have T3 := hide hW
        have L3 := hide hL
        have K3 := hide (K2.out.trans (hM.mono (by omega)))
        generalize w2.heap.size + 3 = z at *
        clear hW hL hM q0 q1 q2
        have B3 := hide (B2.out.below M3.out (by omega))
        have R3 := hide (R2.out.below M3.out (by omega))
        generalize (((w2.alloc (.cells #[.int .i64 nb, .slice A ls.length c, .slice (some ⟨(w2.heap.size + 1), 0, none⟩) nb nb, .slice (some ⟨(w2.heap.size + 1 + 1), 0, none⟩) nb nb, .slice none 0 0] 47)).alloc (.cells (zrow nb) 3)).alloc (.cells (zrow nb) 3)).drew = w3 at *
        have hz3w := B3.out.lt
        clear g0 g1 B2 R2 M3
        obtain ⟨g0, g1⟩ := B3.out.two
        go_wp2_with fail
        go_loopw [33] (fun x wr => ∃ i : Nat, i ≤ nb ∧ x = .int .i64 i ∧ z ≤ wr.heap.size ∧ Hid (TS (w.heap.size + 2) z w2.heap.size (w2.heap.size + 1) (w2.heap.size + 1 + 1) nb A ls.length c (fillN nb i) (fillN nb i) [] none 0 wr) ∧ Hid (Below w.heap.size w wr) ∧ Hid (Blk wr (w.heap.size + 1) 47 #[.int .i64 0, .slice none 0 0, .slice none 0 0, .slice none 0 0, .slice none 0 0])) (fun x _ => nb - (intOf x).toNat)
        case atStart => exact ⟨0, Nat.zero_le _, rfl, hz3, T3, K3, R3⟩
        case round =>
          clear T3 K3 R3 B3 hz3 g0 g1 hz3w
          obtain ⟨i, hi, rfl, hz3, HT, HK, HR⟩ := hrel
          by_cases hlt : i < nb
          · obtain ⟨y0, y1, y2, y3, y4⟩ := HT.out.five
            have x1 := HT.out.hf.cellAt i (by omega)
            rw [encI_at _ i (by rw [fillN_len]; exact hlt)] at x1
            have x2 := HT.out.hp.cellAt i (by omega)
            rw [encI_at _ i (by rw [fillN_len]; exact hlt)] at x2
            have x3 := HT.out.hf.frozenAt i
            have x4 := HT.out.hp.frozenAt i
            have T4 := HT.out.mark L3.out hlt (-1) (-1)
            rw [fillN_set nb i hlt] at T4
            have HT4 := hide T4
            have K4 := hide ((HK.out.setCell (p := ⟨(w2.heap.size + 1), i, none⟩) (by have := L3.out.bf; show w.heap.size ≤ (w2.heap.size + 1); omega) (.int .i64 (-1))).setCell (p := ⟨(w2.heap.size + 1 + 1), i, none⟩) (by have := L3.out.bp; show w.heap.size ≤ (w2.heap.size + 1 + 1); omega) (.int .i64 (-1)))
            have R4 := hide ((HR.out.far (p := ⟨(w2.heap.size + 1), i, none⟩) (by have := L3.out.bf; simp; omega) (.int .i64 (-1))).far (p := ⟨(w2.heap.size + 1 + 1), i, none⟩) (by have := L3.out.bp; simp; omega) (.int .i64 (-1)))
            have i0 : (0 : Int) ≤ i := by omega
            have i1 : (i : Int) < nb := by omega
            have hd1 : w2.heap.size ≠ (w2.heap.size + 1) := L3.out.gf
            have hd2 : w2.heap.size ≠ (w2.heap.size + 1 + 1) := L3.out.gp
            have hd3 : (w2.heap.size + 1) ≠ (w2.heap.size + 1 + 1) := L3.out.fp
            have hz5 : z ≤ ((wr.setCell ⟨(w2.heap.size + 1), i, none⟩ (.int .i64 (-1))).setCell ⟨(w2.heap.size + 1 + 1), i, none⟩ (.int .i64 (-1))).heap.size := by simpa using hz3
            clear T4
            go_wp2_with fail
            go_roundw
            case rel => exact ⟨i + 1, by omega, by go_num, hz5, HT4, K4, R4⟩
            case measure => simp [intOf]; omega
          · obtain rfl : i = nb := by omega
            rw [fillN_all] at HT
            go_wp2_with fail
            go_loopw [47] (fun x wr => ∃ (k : Nat) (fs ps ord : List Int) (E : Option Addr) (f : Nat), k ≤ bs.length ∧ x = .int .i64 k ∧ z ≤ wr.heap.size ∧ Hid (TV ls on bs k fs ps) ∧ Hid (OneI ls on bs k) ∧ Hid (Closed ls on bs fs []) ∧ Hid (ord.Nodup) ∧ Hid (∀ x ∈ ord, 0 ≤ x ∧ x < bs.length ∧ 0 ≤ at_ fs x.toNat) ∧ Hid (∀ x : Nat, x < bs.length → 0 ≤ at_ fs x → (x : Int) ∈ ord) ∧ Hid (OrdP ls ps ord) ∧ Hid (TS (w.heap.size + 2) z w2.heap.size (w2.heap.size + 1) (w2.heap.size + 1 + 1) i A ls.length c fs ps ord E f wr) ∧ Hid (Below w.heap.size w wr) ∧ Hid (Blk wr (w.heap.size + 1) 47 #[.int .i64 0, .slice none 0 0, .slice none 0 0, .slice none 0 0, .slice none 0 0])) (fun x _ => bs.length - (intOf x).toNat)
            case atStart =>
              refine ⟨0, noneL i, noneL i, [], none, 0, Nat.zero_le _, rfl, hz3, hide ?_, hide (fun f g hf => absurd hf (by omega)), hide ?_, hide (by simp), hide (fun x hx => by cases hx), hide (fun x hx hv => by rw [noneL_at i x (by omega)] at hv; omega), hide (fun j y hj => absurd hj (by simp)), HT, HK, HR⟩
              · rw [← HBN.out]; exact TV.start ls on bs
              · rw [← HBN.out]; exact Closed.start
            case round =>
              clear HT HK HR hz3
              obtain ⟨k, fs, ps, ord, E, f, hk, rfl, hz3, HV1, HO, HC1, HN, HG, HAL, HBK, HT, HK, HR⟩ := hrel
              obtain ⟨y0, y1, y2, y3, y4⟩ := HT.out.five
              by_cases hlt : k < bs.length
              · obtain ⟨b0, o0, rfl, hb, hd0, hd1⟩ := S0.out.two k hlt
                have d0 := (HK.out.cell (p := ⟨b0, o0 + k * 2, none⟩) hb).trans hd0
                have d1 := (HK.out.cell (p := ⟨b0, o0 + k * 2 + 1, none⟩) hb).trans hd1
                have hz4 := HK.out.size
                have hb0 : b0 < wr.heap.size := by omega
                have kk := (Below.refl _ wr).alloc (Nat.le_refl _) (.cells #[.int .i64 (at2 bs k).1, .int .i64 (at2 bs k).2] 54)
                have T2 := hide (HT.out.to kk)
                have K2' := hide (HK.out.then kk)
                have R2' := hide (HR.out.to kk)
                have hzz : z ≤ (wr.alloc (.cells #[.int .i64 (at2 bs k).1, .int .i64 (at2 bs k).2] 54)).heap.size := by simp; omega
                have hgl : w2.heap.size < wr.heap.size := HT.out.tr.lt
                have hfl : (w2.heap.size + 1) < wr.heap.size := (HT.out.hf.lt _ rfl).2
                have hgf : w2.heap.size ≠ (w2.heap.size + 1) := L3.out.gf
                have hf0 : 0 ≤ (at2 bs k).1 := by
                  have := (fedB_true HF.out).2.2.2 k hlt
                  simp only [busOk, Bool.and_eq_true] at this
                  exact (inB_true this.1).1
                clear hd0 hd1 kk
                by_cases h0 : (at2 bs k).1 = 0
                · have heq : ((at2 bs k).1 == 0) = true := by simp [h0]
                  have HNF : Hid (¬ FeedP bs k) := hide fun hf => by
                    obtain ⟨q, hq, he, hp⟩ := hf
                    obtain rfl : k = q := by omega
                    omega
                  clear h0 hf0 y0 y1 y2 y3 y4
                  go_wp2_with fail
                  go_roundw
                  case rel => exact ⟨k + 1, fs, ps, ord, E, f, by omega, by go_num, hzz, hide (HV1.out.skip HNF.out), hide (HO.out.skip HNF.out), HC1, HN, HG, HAL, HBK, T2, K2', R2'⟩
                  case measure => simp [intOf]; omega
                · have heq : ((at2 bs k).1 == 0) = false := by simp [h0]
                  have HFD : Hid (FeedP bs k) := hide ⟨k, hlt, rfl, by omega⟩
                  have hkn : k < i := by omega
                  have x1 := HT.out.hf.cellAt k (by omega)
                  rw [encI_at fs k (by have := HV1.out.lf; omega)] at x1
                  have x3 := HT.out.hf.frozenAt k
                  have i0 : (0 : Int) ≤ k := by omega
                  have i1 : (k : Int) < i := by omega
                  clear h0 hf0
                  by_cases hv : 0 ≤ at_ fs k
                  · have hge : decide (0 ≤ at_ fs k) = true := by simp [hv]
                    have HQ := hide (radB_no (b := i) (ls := ls) (on := on) (bs := bs) (fun h => HV1.out.bad hlt HFD.out hv h.2.2))
                    have hgr : w.heap.size + 1 < wr.heap.size := HR.out.lt
                    have r0 := HR.out.cell 0
                    have r1 := HR.out.cell 1
                    have r2 := HR.out.cell 2
                    have r3 := HR.out.cell 3
                    have r4 := HR.out.cell 4
                    have f0 := HR.out.frozen 0
                    have f1 := HR.out.frozen 1
                    have f2 := HR.out.frozen 2
                    have f3 := HR.out.frozen 3
                    have f4 := HR.out.frozen 4
                    clear hv
                    go_wp2_with fail
                    have P5 := (HR.out.set5 (u0 := .int .i64 0) (u1 := .slice none 0 0) (u2 := .slice none 0 0) (u3 := .slice none 0 0) (u4 := .slice none 0 0)).alloc (.cells #[.int .i64 (at2 bs k).1, .int .i64 (at2 bs k).2] 54)
                    have p0 := P5.cell 0
                    have p1 := P5.cell 1
                    have p2 := P5.cell 2
                    have p3 := P5.cell 3
                    have p4 := P5.cell 4
                    refine bodyPost_ret (v := .tuple #[.agg #[.int .i64 0, .slice none 0 0, .slice none 0 0, .slice none 0 0, .slice none 0 0], .bool false]) (by simp [results, Tryd.results24, go_sem, p0, p1, p2, p3, p4]) rfl ⟨(below_set5 HK.out (by omega)).alloc (by simp; omega) _, .inl ⟨HQ.out, rfl⟩⟩
                  · have hge : decide (0 ≤ at_ fs k) = false := by simp; omega
                    have hsq := SQ.start HV1.out hlt HFD.out (by omega) HC1.out HN.out HG.out HAL.out HBK.out
                    have HO2 := hide (HO.out.feed HV.out HBN.out HV1.out HC1.out (by omega))
                    have SQ5 := hide hsq
                    have T5 := hide ((HT.out.set1 L3.out (y := k) k).to ((Below.refl _ _).alloc (Nat.le_refl _) (.cells #[.int .i64 (at2 bs k).1, .int .i64 (at2 bs k).2] 54)))
                    have K5 := hide ((HK.out.setCell (p := ⟨(w2.heap.size + 1), k, none⟩) (by have := L3.out.bf; show w.heap.size ≤ (w2.heap.size + 1); omega) (.int .i64 (k : Int))).alloc (by simp; omega) (.cells #[.int .i64 (at2 bs k).1, .int .i64 (at2 bs k).2] 54))
                    have R5 := hide ((HR.out.far (p := ⟨(w2.heap.size + 1), k, none⟩) (by have := L3.out.bf; simp; omega) (.int .i64 (k : Int))).alloc (.cells #[.int .i64 (at2 bs k).1, .int .i64 (at2 bs k).2] 54))
                    have hz6 : z ≤ ((wr.setCell ⟨(w2.heap.size + 1), k, none⟩ (.int .i64 (k : Int))).alloc (.cells #[.int .i64 (at2 bs k).1, .int .i64 (at2 bs k).2] 54)).heap.size := by simp; omega
                    have hz7 : w.heap.size + 2 ≤ ((wr.setCell ⟨(w2.heap.size + 1), k, none⟩ (.int .i64 (k : Int))).alloc (.cells #[.int .i64 (at2 bs k).1, .int .i64 (at2 bs k).2] 54)).heap.size := by have := HR.out.lt; simp; omega
                    clear hsq hv T2 K2' R2'
                    go_wp2_with fail
                    refine (search_any (w.heap.size + 2) z (w2.heap.size) ((w2.heap.size + 1)) ((w2.heap.size + 1 + 1)) i (k + 1) k _ _ _ _ ls on bs (fs.set k k) ps ord E f _ L3.out hz7 hz6 ((H0.out.below K5.out).more (by omega)) ((G0.out.below K5.out).more (by omega)) hon HV.out HBN.out T5.out SQ5.out hkn).mono ?_
                    rintro e w8 ⟨rfl, fs8, ps8, ord8, E8, f8, hts8, hsq8, hb8⟩
                    have T8 := hide hts8
                    have S8 := hide hsq8
                    have K8 := hide (K5.out.trans (hb8.mono (by omega)))
                    have R8 := hide (R5.out.below hb8 (by omega))
                    have hz8 := hb8.size
                    clear hts8 hsq8 hb8 T5 SQ5 K5 R5
                    go_wp2_with fail
                    go_roundw
                    case rel => exact ⟨k + 1, fs8, ps8, ord8, E8, f8, by omega, by go_num, by omega, hide S8.out.tv, HO2, hide (S8.out.done (Nat.le_refl _)), hide S8.out.nod, hide S8.out.rng, hide S8.out.al, hide S8.out.bk, T8, K8, R8⟩
                    case measure => simp [intOf]; omega
              · obtain rfl : k = bs.length := by omega
                have HPL := hide (TV.done HV.out HBN.out (ps := ps) (fs := fs) (by rw [← HBN.out]; exact HV1.out) HC1.out)
                have HQ := hide (radB_yes (b := i) (ls := ls) (on := on) (bs := bs) ⟨by rw [hon]; exact HF.out, HC.out, OneI.all HBN.out (by rw [← HBN.out]; exact HO.out)⟩)
                have HPN := hide (fun (x : Nat) (hx : x < bs.length) => (HV1.out.rp x hx).1)
                have HOR : Hid (OrdR ls bs ps ord) := hide ⟨HN.out, fun x hx => ⟨(HG.out x hx).1, (HG.out x hx).2.1⟩, HBK.out, fun x hx hp => HAL.out x hx (Classical.byContradiction fun hn => by have := HV1.out.np x hx (by omega); omega)⟩
                have OO5 := hide (own_set5g (g := w.heap.size + 1) (u0 := .int .i64 i) (u1 := .slice A ls.length c) (u2 := .slice (some ⟨(w2.heap.size + 1), 0, none⟩) i i) (u3 := .slice (some ⟨(w2.heap.size + 1 + 1), 0, none⟩) i i) (u4 := .slice E ord.length f) HT.out.ho (fun k hk => by have := (HT.out.ho.lt k hk).1; have := L3.out.go; have := L3.out.bg; omega))
                have hpl : ps.length = i := by have := HPL.out.len; omega
                have HPE := hide hpl
                have OP := hide (own_set5 (g := w.heap.size + 1) (u0 := .int .i64 i) (u1 := .slice A ls.length c) (u2 := .slice (some ⟨(w2.heap.size + 1), 0, none⟩) i i) (u3 := .slice (some ⟨(w2.heap.size + 1 + 1), 0, none⟩) i i) (u4 := .slice E ord.length f) HT.out.hp (by have := L3.out.bp; omega))
                have K5 := hide (below_set5 (g := w.heap.size + 1) (u0 := .int .i64 i) (u1 := .slice A ls.length c) (u2 := .slice (some ⟨(w2.heap.size + 1), 0, none⟩) i i) (u3 := .slice (some ⟨(w2.heap.size + 1 + 1), 0, none⟩) i i) (u4 := .slice E ord.length f) HK.out (by omega))
                clear hpl
                have r0 := HR.out.cell 0
                have r1 := HR.out.cell 1
                have r2 := HR.out.cell 2
                have r3 := HR.out.cell 3
                have r4 := HR.out.cell 4
                have f0 := HR.out.frozen 0
                have f1 := HR.out.frozen 1
                have f2 := HR.out.frozen 2
                have f3 := HR.out.frozen 3
                have f4 := HR.out.frozen 4
                go_wp2_with fail
                have P5 := HR.out.set5 (u0 := .int .i64 i) (u1 := .slice A ls.length c) (u2 := .slice (some ⟨(w2.heap.size + 1), 0, none⟩) i i) (u3 := .slice (some ⟨(w2.heap.size + 1 + 1), 0, none⟩) i i) (u4 := .slice E ord.length f)
                have p0 := P5.cell 0
                have p1 := P5.cell 1
                have p2 := P5.cell 2
                have p3 := P5.cell 3
                have p4 := P5.cell 4
                refine bodyPost_ret (v := .tuple #[.agg #[.int .i64 i, .slice A ls.length c, .slice (some ⟨(w2.heap.size + 1), 0, none⟩) i i, .slice (some ⟨(w2.heap.size + 1 + 1), 0, none⟩) i i, .slice E ord.length f], .bool true]) (by simp [results, Tryd.results24, go_sem, p0, p1, p2, p3, p4]) rfl ⟨K5.out, .inr ⟨HQ.out, ps, ord, some ⟨(w2.heap.size + 1 + 1), 0, none⟩, _, _, i, _, _, _, by rw [HPE.out], own_mono OO5.out (by have := L3.out.go; have := L3.out.bg; omega), HOR.out, ?_, HPL.out, HPN.out⟩⟩
                rw [HPE.out]
                exact own_mono OP.out (by omega)
      · skip
        obtain ⟨q0, q1, q2⟩ := three_made w2 (.cells #[.int .i64 nb, .slice A ls.length c, .slice (some ⟨(w2.heap.size + 1 + 1), 0, none⟩) nb nb, .slice (some ⟨(w2.heap.size + 1), 0, none⟩) nb nb, .slice none 0 0] 47) (.cells (zrow nb) 3) (.cells (zrow nb) 3)
        have hW : TS (w.heap.size + 2) (w2.heap.size + 3) (w2.heap.size) ((w2.heap.size + 1 + 1)) ((w2.heap.size + 1)) nb A ls.length c (fillN nb 0) (fillN nb 0) [] none 0 ((((w2.alloc (.cells #[.int .i64 nb, .slice A ls.length c, .slice (some ⟨(w2.heap.size + 1 + 1), 0, none⟩) nb nb, .slice (some ⟨(w2.heap.size + 1), 0, none⟩) nb nb, .slice none 0 0] 47)).alloc (.cells (zrow nb) 3)).alloc (.cells (zrow nb) 3)).drew) := ⟨q0, own_of_heap q2 (by omega) (by omega), own_of_heap q1 (by omega) (by omega), World.ownsRow_nil _ _ _ _⟩
        have hL : TL (w.heap.size + 2) (w2.heap.size + 3) (w2.heap.size) ((w2.heap.size + 1 + 1)) ((w2.heap.size + 1)) := ⟨by omega, by omega, by omega, by omega, by omega, by omega, by omega, by omega, by omega⟩
        have hM : Below w2.heap.size w2 ((((w2.alloc (.cells #[.int .i64 nb, .slice A ls.length c, .slice (some ⟨(w2.heap.size + 1 + 1), 0, none⟩) nb nb, .slice (some ⟨(w2.heap.size + 1), 0, none⟩) nb nb, .slice none 0 0] 47)).alloc (.cells (zrow nb) 3)).alloc (.cells (zrow nb) 3)).drew) := ((((Below.refl _ w2).alloc (by simp) _).alloc (by simp) _).alloc (by simp; omega) _).drew
        have hz3 : w2.heap.size + 3 ≤ ((((w2.alloc (.cells #[.int .i64 nb, .slice A ls.length c, .slice (some ⟨(w2.heap.size + 1 + 1), 0, none⟩) nb nb, .slice (some ⟨(w2.heap.size + 1), 0, none⟩) nb nb, .slice none 0 0] 47)).alloc (.cells (zrow nb) 3)).alloc (.cells (zrow nb) 3)).drew).heap.size := by simp
        have M3 := hide hM
        have T3 := hide hW
        have L3 := hide hL
        have K3 := hide (K2.out.trans (hM.mono (by omega)))
        generalize w2.heap.size + 3 = z at *
        clear hW hL hM q0 q1 q2
        have B3 := hide (B2.out.below M3.out (by omega))
        have R3 := hide (R2.out.below M3.out (by omega))
        generalize (((w2.alloc (.cells #[.int .i64 nb, .slice A ls.length c, .slice (some ⟨(w2.heap.size + 1 + 1), 0, none⟩) nb nb, .slice (some ⟨(w2.heap.size + 1), 0, none⟩) nb nb, .slice none 0 0] 47)).alloc (.cells (zrow nb) 3)).alloc (.cells (zrow nb) 3)).drew = w3 at *
        have hz3w := B3.out.lt
        clear g0 g1 B2 R2 M3
        obtain ⟨g0, g1⟩ := B3.out.two
        go_wp2_with fail
        go_loopw [33] (fun x wr => ∃ i : Nat, i ≤ nb ∧ x = .int .i64 i ∧ z ≤ wr.heap.size ∧ Hid (TS (w.heap.size + 2) z w2.heap.size (w2.heap.size + 1 + 1) (w2.heap.size + 1) nb A ls.length c (fillN nb i) (fillN nb i) [] none 0 wr) ∧ Hid (Below w.heap.size w wr) ∧ Hid (Blk wr (w.heap.size + 1) 47 #[.int .i64 0, .slice none 0 0, .slice none 0 0, .slice none 0 0, .slice none 0 0])) (fun x _ => nb - (intOf x).toNat)
        case atStart => exact ⟨0, Nat.zero_le _, rfl, hz3, T3, K3, R3⟩
        case round =>
          clear T3 K3 R3 B3 hz3 g0 g1 hz3w
          obtain ⟨i, hi, rfl, hz3, HT, HK, HR⟩ := hrel
          by_cases hlt : i < nb
          · obtain ⟨y0, y1, y2, y3, y4⟩ := HT.out.five
            have x1 := HT.out.hf.cellAt i (by omega)
            rw [encI_at _ i (by rw [fillN_len]; exact hlt)] at x1
            have x2 := HT.out.hp.cellAt i (by omega)
            rw [encI_at _ i (by rw [fillN_len]; exact hlt)] at x2
            have x3 := HT.out.hf.frozenAt i
            have x4 := HT.out.hp.frozenAt i
            have T4 := HT.out.mark L3.out hlt (-1) (-1)
            rw [fillN_set nb i hlt] at T4
            have HT4 := hide T4
            have K4 := hide ((HK.out.setCell (p := ⟨(w2.heap.size + 1 + 1), i, none⟩) (by have := L3.out.bf; show w.heap.size ≤ (w2.heap.size + 1 + 1); omega) (.int .i64 (-1))).setCell (p := ⟨(w2.heap.size + 1), i, none⟩) (by have := L3.out.bp; show w.heap.size ≤ (w2.heap.size + 1); omega) (.int .i64 (-1)))
            have R4 := hide ((HR.out.far (p := ⟨(w2.heap.size + 1 + 1), i, none⟩) (by have := L3.out.bf; simp; omega) (.int .i64 (-1))).far (p := ⟨(w2.heap.size + 1), i, none⟩) (by have := L3.out.bp; simp; omega) (.int .i64 (-1)))
            have i0 : (0 : Int) ≤ i := by omega
            have i1 : (i : Int) < nb := by omega
            have hd1 : w2.heap.size ≠ (w2.heap.size + 1 + 1) := L3.out.gf
            have hd2 : w2.heap.size ≠ (w2.heap.size + 1) := L3.out.gp
            have hd3 : (w2.heap.size + 1 + 1) ≠ (w2.heap.size + 1) := L3.out.fp
            have hz5 : z ≤ ((wr.setCell ⟨(w2.heap.size + 1 + 1), i, none⟩ (.int .i64 (-1))).setCell ⟨(w2.heap.size + 1), i, none⟩ (.int .i64 (-1))).heap.size := by simpa using hz3
            clear T4
            go_wp2_with fail
            go_roundw
            case rel => exact ⟨i + 1, by omega, by go_num, hz5, HT4, K4, R4⟩
            case measure => simp [intOf]; omega
          · obtain rfl : i = nb := by omega
            rw [fillN_all] at HT
            go_wp2_with fail
            go_loopw [47] (fun x wr => ∃ (k : Nat) (fs ps ord : List Int) (E : Option Addr) (f : Nat), k ≤ bs.length ∧ x = .int .i64 k ∧ z ≤ wr.heap.size ∧ Hid (TV ls on bs k fs ps) ∧ Hid (OneI ls on bs k) ∧ Hid (Closed ls on bs fs []) ∧ Hid (ord.Nodup) ∧ Hid (∀ x ∈ ord, 0 ≤ x ∧ x < bs.length ∧ 0 ≤ at_ fs x.toNat) ∧ Hid (∀ x : Nat, x < bs.length → 0 ≤ at_ fs x → (x : Int) ∈ ord) ∧ Hid (OrdP ls ps ord) ∧ Hid (TS (w.heap.size + 2) z w2.heap.size (w2.heap.size + 1 + 1) (w2.heap.size + 1) i A ls.length c fs ps ord E f wr) ∧ Hid (Below w.heap.size w wr) ∧ Hid (Blk wr (w.heap.size + 1) 47 #[.int .i64 0, .slice none 0 0, .slice none 0 0, .slice none 0 0, .slice none 0 0])) (fun x _ => bs.length - (intOf x).toNat)
            case atStart =>
              refine ⟨0, noneL i, noneL i, [], none, 0, Nat.zero_le _, rfl, hz3, hide ?_, hide (fun f g hf => absurd hf (by omega)), hide ?_, hide (by simp), hide (fun x hx => by cases hx), hide (fun x hx hv => by rw [noneL_at i x (by omega)] at hv; omega), hide (fun j y hj => absurd hj (by simp)), HT, HK, HR⟩
              · rw [← HBN.out]; exact TV.start ls on bs
              · rw [← HBN.out]; exact Closed.start
            case round =>
              clear HT HK HR hz3
              obtain ⟨k, fs, ps, ord, E, f, hk, rfl, hz3, HV1, HO, HC1, HN, HG, HAL, HBK, HT, HK, HR⟩ := hrel
              obtain ⟨y0, y1, y2, y3, y4⟩ := HT.out.five
              by_cases hlt : k < bs.length
              · obtain ⟨b0, o0, rfl, hb, hd0, hd1⟩ := S0.out.two k hlt
                have d0 := (HK.out.cell (p := ⟨b0, o0 + k * 2, none⟩) hb).trans hd0
                have d1 := (HK.out.cell (p := ⟨b0, o0 + k * 2 + 1, none⟩) hb).trans hd1
                have hz4 := HK.out.size
                have hb0 : b0 < wr.heap.size := by omega
                have kk := (Below.refl _ wr).alloc (Nat.le_refl _) (.cells #[.int .i64 (at2 bs k).1, .int .i64 (at2 bs k).2] 54)
                have T2 := hide (HT.out.to kk)
                have K2' := hide (HK.out.then kk)
                have R2' := hide (HR.out.to kk)
                have hzz : z ≤ (wr.alloc (.cells #[.int .i64 (at2 bs k).1, .int .i64 (at2 bs k).2] 54)).heap.size := by simp; omega
                have hgl : w2.heap.size < wr.heap.size := HT.out.tr.lt
                have hfl : (w2.heap.size + 1 + 1) < wr.heap.size := (HT.out.hf.lt _ rfl).2
                have hgf : w2.heap.size ≠ (w2.heap.size + 1 + 1) := L3.out.gf
                have hf0 : 0 ≤ (at2 bs k).1 := by
                  have := (fedB_true HF.out).2.2.2 k hlt
                  simp only [busOk, Bool.and_eq_true] at this
                  exact (inB_true this.1).1
                clear hd0 hd1 kk
                by_cases h0 : (at2 bs k).1 = 0
                · have heq : ((at2 bs k).1 == 0) = true := by simp [h0]
                  have HNF : Hid (¬ FeedP bs k) := hide fun hf => by
                    obtain ⟨q, hq, he, hp⟩ := hf
                    obtain rfl : k = q := by omega
                    omega
                  clear h0 hf0 y0 y1 y2 y3 y4
                  go_wp2_with fail
                  go_roundw
                  case rel => exact ⟨k + 1, fs, ps, ord, E, f, by omega, by go_num, hzz, hide (HV1.out.skip HNF.out), hide (HO.out.skip HNF.out), HC1, HN, HG, HAL, HBK, T2, K2', R2'⟩
                  case measure => simp [intOf]; omega
                · have heq : ((at2 bs k).1 == 0) = false := by simp [h0]
                  have HFD : Hid (FeedP bs k) := hide ⟨k, hlt, rfl, by omega⟩
                  have hkn : k < i := by omega
                  have x1 := HT.out.hf.cellAt k (by omega)
                  rw [encI_at fs k (by have := HV1.out.lf; omega)] at x1
                  have x3 := HT.out.hf.frozenAt k
                  have i0 : (0 : Int) ≤ k := by omega
                  have i1 : (k : Int) < i := by omega
                  clear h0 hf0
                  by_cases hv : 0 ≤ at_ fs k
                  · have hge : decide (0 ≤ at_ fs k) = true := by simp [hv]
                    have HQ := hide (radB_no (b := i) (ls := ls) (on := on) (bs := bs) (fun h => HV1.out.bad hlt HFD.out hv h.2.2))
                    have hgr : w.heap.size + 1 < wr.heap.size := HR.out.lt
                    have r0 := HR.out.cell 0
                    have r1 := HR.out.cell 1
                    have r2 := HR.out.cell 2
                    have r3 := HR.out.cell 3
                    have r4 := HR.out.cell 4
                    have f0 := HR.out.frozen 0
                    have f1 := HR.out.frozen 1
                    have f2 := HR.out.frozen 2
                    have f3 := HR.out.frozen 3
                    have f4 := HR.out.frozen 4
                    clear hv
                    go_wp2_with fail
                    have P5 := (HR.out.set5 (u0 := .int .i64 0) (u1 := .slice none 0 0) (u2 := .slice none 0 0) (u3 := .slice none 0 0) (u4 := .slice none 0 0)).alloc (.cells #[.int .i64 (at2 bs k).1, .int .i64 (at2 bs k).2] 54)
                    have p0 := P5.cell 0
                    have p1 := P5.cell 1
                    have p2 := P5.cell 2
                    have p3 := P5.cell 3
                    have p4 := P5.cell 4
                    refine bodyPost_ret (v := .tuple #[.agg #[.int .i64 0, .slice none 0 0, .slice none 0 0, .slice none 0 0, .slice none 0 0], .bool false]) (by simp [results, Tryd.results24, go_sem, p0, p1, p2, p3, p4]) rfl ⟨(below_set5 HK.out (by omega)).alloc (by simp; omega) _, .inl ⟨HQ.out, rfl⟩⟩
                  · have hge : decide (0 ≤ at_ fs k) = false := by simp; omega
                    have hsq := SQ.start HV1.out hlt HFD.out (by omega) HC1.out HN.out HG.out HAL.out HBK.out
                    have HO2 := hide (HO.out.feed HV.out HBN.out HV1.out HC1.out (by omega))
                    have SQ5 := hide hsq
                    have T5 := hide ((HT.out.set1 L3.out (y := k) k).to ((Below.refl _ _).alloc (Nat.le_refl _) (.cells #[.int .i64 (at2 bs k).1, .int .i64 (at2 bs k).2] 54)))
                    have K5 := hide ((HK.out.setCell (p := ⟨(w2.heap.size + 1 + 1), k, none⟩) (by have := L3.out.bf; show w.heap.size ≤ (w2.heap.size + 1 + 1); omega) (.int .i64 (k : Int))).alloc (by simp; omega) (.cells #[.int .i64 (at2 bs k).1, .int .i64 (at2 bs k).2] 54))
                    have R5 := hide ((HR.out.far (p := ⟨(w2.heap.size + 1 + 1), k, none⟩) (by have := L3.out.bf; simp; omega) (.int .i64 (k : Int))).alloc (.cells #[.int .i64 (at2 bs k).1, .int .i64 (at2 bs k).2] 54))
                    have hz6 : z ≤ ((wr.setCell ⟨(w2.heap.size + 1 + 1), k, none⟩ (.int .i64 (k : Int))).alloc (.cells #[.int .i64 (at2 bs k).1, .int .i64 (at2 bs k).2] 54)).heap.size := by simp; omega
                    have hz7 : w.heap.size + 2 ≤ ((wr.setCell ⟨(w2.heap.size + 1 + 1), k, none⟩ (.int .i64 (k : Int))).alloc (.cells #[.int .i64 (at2 bs k).1, .int .i64 (at2 bs k).2] 54)).heap.size := by have := HR.out.lt; simp; omega
                    clear hsq hv T2 K2' R2'
                    go_wp2_with fail
                    refine (search_any (w.heap.size + 2) z (w2.heap.size) ((w2.heap.size + 1 + 1)) ((w2.heap.size + 1)) i (k + 1) k _ _ _ _ ls on bs (fs.set k k) ps ord E f _ L3.out hz7 hz6 ((H0.out.below K5.out).more (by omega)) ((G0.out.below K5.out).more (by omega)) hon HV.out HBN.out T5.out SQ5.out hkn).mono ?_
                    rintro e w8 ⟨rfl, fs8, ps8, ord8, E8, f8, hts8, hsq8, hb8⟩
                    have T8 := hide hts8
                    have S8 := hide hsq8
                    have K8 := hide (K5.out.trans (hb8.mono (by omega)))
                    have R8 := hide (R5.out.below hb8 (by omega))
                    have hz8 := hb8.size
                    clear hts8 hsq8 hb8 T5 SQ5 K5 R5
                    go_wp2_with fail
                    go_roundw
                    case rel => exact ⟨k + 1, fs8, ps8, ord8, E8, f8, by omega, by go_num, by omega, hide S8.out.tv, HO2, hide (S8.out.done (Nat.le_refl _)), hide S8.out.nod, hide S8.out.rng, hide S8.out.al, hide S8.out.bk, T8, K8, R8⟩
                    case measure => simp [intOf]; omega
              · obtain rfl : k = bs.length := by omega
                have HPL := hide (TV.done HV.out HBN.out (ps := ps) (fs := fs) (by rw [← HBN.out]; exact HV1.out) HC1.out)
                have HQ := hide (radB_yes (b := i) (ls := ls) (on := on) (bs := bs) ⟨by rw [hon]; exact HF.out, HC.out, OneI.all HBN.out (by rw [← HBN.out]; exact HO.out)⟩)
                have HPN := hide (fun (x : Nat) (hx : x < bs.length) => (HV1.out.rp x hx).1)
                have HOR : Hid (OrdR ls bs ps ord) := hide ⟨HN.out, fun x hx => ⟨(HG.out x hx).1, (HG.out x hx).2.1⟩, HBK.out, fun x hx hp => HAL.out x hx (Classical.byContradiction fun hn => by have := HV1.out.np x hx (by omega); omega)⟩
                have OO5 := hide (own_set5g (g := w.heap.size + 1) (u0 := .int .i64 i) (u1 := .slice A ls.length c) (u2 := .slice (some ⟨(w2.heap.size + 1 + 1), 0, none⟩) i i) (u3 := .slice (some ⟨(w2.heap.size + 1), 0, none⟩) i i) (u4 := .slice E ord.length f) HT.out.ho (fun k hk => by have := (HT.out.ho.lt k hk).1; have := L3.out.go; have := L3.out.bg; omega))
                have hpl : ps.length = i := by have := HPL.out.len; omega
                have HPE := hide hpl
                have OP := hide (own_set5 (g := w.heap.size + 1) (u0 := .int .i64 i) (u1 := .slice A ls.length c) (u2 := .slice (some ⟨(w2.heap.size + 1 + 1), 0, none⟩) i i) (u3 := .slice (some ⟨(w2.heap.size + 1), 0, none⟩) i i) (u4 := .slice E ord.length f) HT.out.hp (by have := L3.out.bp; omega))
                have K5 := hide (below_set5 (g := w.heap.size + 1) (u0 := .int .i64 i) (u1 := .slice A ls.length c) (u2 := .slice (some ⟨(w2.heap.size + 1 + 1), 0, none⟩) i i) (u3 := .slice (some ⟨(w2.heap.size + 1), 0, none⟩) i i) (u4 := .slice E ord.length f) HK.out (by omega))
                clear hpl
                have r0 := HR.out.cell 0
                have r1 := HR.out.cell 1
                have r2 := HR.out.cell 2
                have r3 := HR.out.cell 3
                have r4 := HR.out.cell 4
                have f0 := HR.out.frozen 0
                have f1 := HR.out.frozen 1
                have f2 := HR.out.frozen 2
                have f3 := HR.out.frozen 3
                have f4 := HR.out.frozen 4
                go_wp2_with fail
                have P5 := HR.out.set5 (u0 := .int .i64 i) (u1 := .slice A ls.length c) (u2 := .slice (some ⟨(w2.heap.size + 1 + 1), 0, none⟩) i i) (u3 := .slice (some ⟨(w2.heap.size + 1), 0, none⟩) i i) (u4 := .slice E ord.length f)
                have p0 := P5.cell 0
                have p1 := P5.cell 1
                have p2 := P5.cell 2
                have p3 := P5.cell 3
                have p4 := P5.cell 4
                refine bodyPost_ret (v := .tuple #[.agg #[.int .i64 i, .slice A ls.length c, .slice (some ⟨(w2.heap.size + 1 + 1), 0, none⟩) i i, .slice (some ⟨(w2.heap.size + 1), 0, none⟩) i i, .slice E ord.length f], .bool true]) (by simp [results, Tryd.results24, go_sem, p0, p1, p2, p3, p4]) rfl ⟨K5.out, .inr ⟨HQ.out, ps, ord, some ⟨(w2.heap.size + 1), 0, none⟩, _, _, i, _, _, _, by rw [HPE.out], own_mono OO5.out (by have := L3.out.go; have := L3.out.bg; omega), HOR.out, ?_, HPL.out, HPN.out⟩⟩
                rw [HPE.out]
                exact own_mono OP.out (by omega)
    · have HC := hide ((cycB_iff ls on).1 hcy)
      have HQ := hide (radB_no (b := nb) (ls := ls) (on := on) (bs := bs) (fun h => h.2.1 HC.out))
      have r0 := R2.out.cell 0
      have r1 := R2.out.cell 1
      have r2 := R2.out.cell 2
      have r3 := R2.out.cell 3
      have r4 := R2.out.cell 4
      have f0 := R2.out.frozen 0
      have f1 := R2.out.frozen 1
      have f2 := R2.out.frozen 2
      have f3 := R2.out.frozen 3
      have f4 := R2.out.frozen 4
      go_wp2_with fail
      have P5 := R2.out.set5 (u0 := .int .i64 0) (u1 := .slice none 0 0) (u2 := .slice none 0 0) (u3 := .slice none 0 0) (u4 := .slice none 0 0)
      have p0 := P5.cell 0
      have p1 := P5.cell 1
      have p2 := P5.cell 2
      have p3 := P5.cell 3
      have p4 := P5.cell 4
      refine bodyPost_ret (v := .tuple #[.agg #[.int .i64 0, .slice none 0 0, .slice none 0 0, .slice none 0 0, .slice none 0 0], .bool false]) (by simp [results, Tryd.results24, go_sem, p0, p1, p2, p3, p4]) rfl ⟨below_set5 K2.out (by omega), .inl ⟨HQ.out, rfl⟩⟩

end Go.Proofs.YtbebhbcjdiahcaaDoor
