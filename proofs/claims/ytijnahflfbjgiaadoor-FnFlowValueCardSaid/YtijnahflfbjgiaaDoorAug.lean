/-
  Chapter 34: more flows on the best way; what the program's step computes.
-/
import Derived.Test.YtijnahflfbjgiaaDoorDist
import Derived.Test.YtijnahflfbjgiaaDoorMost
import Derived.Test.YtijnahflfbjgiaaDoorFlowVal
namespace Go.Proofs.YtijnahflfbjgiaaDoor
open Go.RowKit
set_option linter.unusedVariables false

theorem Far.congr {E E' : Int → Int → Prop} {t : Int} {n : Nat} {f : Int → Int} (h : ∀ u v, E u v ↔ E' u v) (hf : Far E t n f) : Far E' t n f := fun u a c =>
  ⟨(hf u a c).1, fun d => ⟨fun hr => ((hf u a c).2 d).1 (hr.mono fun x y hxy => (h x y).2 hxy), fun hx => (((hf u a c).2 d).2 hx).mono fun x y hxy => (h x y).1 hxy⟩⟩
theorem otherF_back {b : Int} {ls : List (Int × Int × Int)} (hv : netB b ls = true) {k : Nat} (hk : k < ls.length) {u v : Int} (h0 : 0 ≤ u) (h : otherF (at3 ls k) v = u) : otherF (at3 ls k) u = v ∧ 0 ≤ v := by
  obtain ⟨m1, m2, m3, m4⟩ := net_at hv k hk
  rcases otherF_cases (x := at3 ls k) (u := v) (by omega) with ⟨e1, e2⟩ | ⟨e1, _, e2⟩
  · rw [← h, e2, otherF_B m3, e1]; exact ⟨rfl, m1.1⟩
  · rw [← h, e2, otherF_A, e1]; exact ⟨rfl, m2.1⟩
def augMay (ls : List (Int × Int × Int)) (os : List Bool) (fl : List Int) (k : Nat) (bus : Int) : Bool := decide (0 < roomF ls os fl k (otherF (at3 ls k) bus))
theorem Mv_aug {b : Int} {ls : List (Int × Int × Int)} (hv : netB b ls = true) (os : List Bool) (fl : List Int) (u v : Int) : Mv ls (augMay ls os fl) v u ↔ Res ls os fl u v := by
  constructor
  · rintro ⟨k, hk, h0, ho, hm⟩
    simp only [augMay, decide_eq_true_eq, ho] at hm
    have := otherF_back hv hk h0 ho
    exact ⟨k, hk, this.2, this.1, hm⟩
  · rintro ⟨k, hk, h0, ho, hm⟩
    have := otherF_back hv hk h0 ho
    exact ⟨k, hk, this.2, this.1, by simp only [augMay, decide_eq_true_eq, this.1]; exact hm⟩

def wayL (P : List (Nat × Int)) : List Int := P.map fun p => (p.1 : Int)
def busL (P : List (Nat × Int)) : List Int := P.map Prod.snd
/-- As much as a way can carry more. -/
def minR (ls : List (Int × Int × Int)) (os : List Bool) (fl : List Int) (P : List (Nat × Int)) : Int := P.foldl (fun m p => min m (roomF ls os fl p.1 p.2)) 1998
theorem minR_snoc (ls : List (Int × Int × Int)) (os : List Bool) (fl : List Int) (P : List (Nat × Int)) (p : Nat × Int) : minR ls os fl (P ++ [p]) = min (minR ls os fl P) (roomF ls os fl p.1 p.2) := by simp [minR]
theorem foldl_min (g : Nat × Int → Int) : ∀ (P : List (Nat × Int)) (m : Int), (∀ p ∈ P, 1 ≤ g p) → 1 ≤ m → (1 ≤ P.foldl (fun m p => min m (g p)) m ∧ P.foldl (fun m p => min m (g p)) m ≤ m ∧ ∀ p ∈ P, P.foldl (fun m p => min m (g p)) m ≤ g p)
  | [], m, _, hm => ⟨hm, Int.le_refl _, by simp⟩
  | q :: P, m, h, hm => by
    have hq := h q (by simp)
    obtain ⟨a, b, c⟩ := foldl_min g P (min m (g q)) (fun p hp => h p (by simp [hp])) (by omega)
    refine ⟨a, by simp only [List.foldl_cons]; omega, fun p hp => ?_⟩
    simp only [List.foldl_cons]
    rcases List.mem_cons.1 hp with rfl | hp
    · omega
    · exact c p hp
theorem minR_in {ls : List (Int × Int × Int)} {os : List Bool} {fl : List Int} {P : List (Nat × Int)} (h : ∀ p ∈ P, 0 < roomF ls os fl p.1 p.2) : 1 ≤ minR ls os fl P ∧ minR ls os fl P ≤ 1998 ∧ ∀ p ∈ P, minR ls os fl P ≤ roomF ls os fl p.1 p.2 :=
  foldl_min (fun p => roomF ls os fl p.1 p.2) P 1998 (fun p hp => by have := h p hp; omega) (by omega)
theorem wayL_snoc (P : List (Nat × Int)) (p : Nat × Int) : wayL (P ++ [p]) = wayL P ++ [(p.1 : Int)] := by simp [wayL]
theorem busL_snoc (P : List (Nat × Int)) (p : Nat × Int) : busL (P ++ [p]) = busL P ++ [p.2] := by simp [busL]
theorem wayL_len (P : List (Nat × Int)) : (wayL P).length = P.length := by simp [wayL]
theorem busL_len (P : List (Nat × Int)) : (busL P).length = P.length := by simp [busL]
theorem wayL_at (P : List (Nat × Int)) (i : Nat) (h : i < P.length) : at_ (wayL P) i = (P[i].1 : Int) := by simp [at_, wayL, h]
theorem busL_at (P : List (Nat × Int)) (i : Nat) (h : i < P.length) : at_ (busL P) i = P[i].2 := by simp [at_, busL, h]
theorem augL_take (ls : List (Int × Int × Int)) (t : Int) (P : List (Nat × Int)) (fl : List Int) (i : Nat) (h : i < P.length) : augL ls t (P.take (i + 1)) fl = augS ls t (augL ls t (P.take i) fl) P[i] := by
  rw [List.take_succ_eq_append_getElem h]
  unfold augL
  rw [List.foldl_append]
  rfl

theorem nodup_take {P : List (Nat × Int)} (h : (P.map Prod.fst).Nodup) {i : Nat} (hi : i < P.length) : ∀ p ∈ P.take i, p.1 ≠ P[i].1 := by
  intro p hp
  obtain ⟨j, hj, rfl⟩ := List.getElem_of_mem hp
  have hji : j < i := by have := hj; simp at this; omega
  have := List.pairwise_iff_getElem.1 h j i (by simp; omega) (by simpa using hi) hji
  simpa using this
/-- What a step of the search for more leaves. -/
def Auged (b : Int) (ls : List (Int × Int × Int)) (os : List Bool) (from_ to : Int) (fl : List Int) (v : Int) (base fb fc : Nat) (w : World) (e : Ending) (w' : World) : Prop :=
  ∃ (r : Bool) (fl' : List Int) (t : Int), e = .returned (.bool r) ∧ fl'.length = fl.length ∧ w'.ownsRow base 3 1 (.slice (some ⟨fb, 0, none⟩) fl.length fc) fl.length (encI fl') ∧ But (fun x => x = fb) w w' ∧
    ((r = false ∧ fl' = fl ∧ t = 0 ∧ Stuck ls os from_ to fl) ∨ (r = true ∧ 1 ≤ t ∧ Ones b ls os from_ to fl fl')) ∧ Flo b ls os from_ to fl' (v + t)

/-- 'out = append(out, k)', and where the new slice lies. -/
theorem app_int_at {ops : Array Oper} {rest : List Oper} {o : Oper} {a : Act} {Q : Exit → Act → World → Prop} (wr : World) (hgd : o.guard = none) (s x : Operand)
    (ho : o.op = .call { callee := .builtin .append, args := #[s, x], argTypes := #[36, 36] })
    (base : Nat) (A : Option Addr) (n c : Nat) (ord : List Int) (k : Int) (hs : a.eval s = .slice A n c) (hown : wr.ownsRow base 3 1 (.slice A n c) n (encI ord)) (H : Nat) (hH : wr.heap.size = H) (hx : a.eval x = .slice (some ⟨H, 0, none⟩) 1 1)
    (hb : base ≤ wr.heap.size) (hn : n ≤ 1048576)
    (h : ∀ D d w', w'.ownsRow base 3 1 (.slice D (n + 1) d) (n + 1) (encI (ord ++ [k])) → wr.grownBy w' (Value.slice A n c).ownBlock → ((Value.slice D (n + 1) d).ownBlock = (Value.slice A n c).ownBlock ∨ (Value.slice D (n + 1) d).ownBlock = some (wr.heap.size + 1)) → wpList Tryd.prog ops Q rest (a.put o.dst (.slice D (n + 1) d)) w') :
    wpList Tryd.prog ops Q (o :: rest) a (wr.alloc (.cells #[.int .i64 k] 3)) := by
  subst hH
  obtain ⟨i0, hi, hz0, hz1, hz2⟩ := info_parts infoI
  refine wpList_append_own_at _ hgd s x 36 ho base 3 i0 (.int .i64 0) 1 8 Tryd.underlying36 hi hz0 hz1 hz2 rfl (by decide) (.slice A n c) n (encI ord) hs (hown.alloc _) ⟨wr.heap.size, 0, none⟩ 1 1 [.int .i64 k] hx rfl (cell_one_new _ _ _) (by simp [Value.oneCell']) (by unfold maxLen; omega) (by omega) (by simp; omega) ?_
  intro v' w' ho' hg _ hat
  obtain ⟨D, d, rfl, _, _⟩ := own_slice ho'
  refine h D d w' (by rw [encI_snoc]; exact ho') ?_ (by simpa using hat)
  exact ⟨hg.os, hg.tape, hg.output, Nat.le_trans (by simp) hg.size, fun i hi' hne => (hg.block i (by simp; omega) hne).trans (Below.heap_alloc wr _ i hi')⟩
theorem ok_cases (ls : List (Int × Int × Int)) (os : List Bool) (fl : List Int) (far : List Int) (bus k : Nat) : (otherF (at3 ls k) bus < 0 ∧ okL ls os fl (fun u => at_ far u.toNat) bus k = false) ∨
    (∃ u : Nat, otherF (at3 ls k) bus = u ∧ (at_ far u == at_ far bus - 1) = false ∧ okL ls os fl (fun u => at_ far u.toNat) bus k = false) ∨
    (∃ u : Nat, otherF (at3 ls k) bus = u ∧ (at_ far u == at_ far bus - 1) = true ∧ ¬ 0 < roomF ls os fl k bus ∧ okL ls os fl (fun u => at_ far u.toNat) bus k = false) ∨
    (∃ u : Nat, otherF (at3 ls k) bus = u ∧ (at_ far u == at_ far bus - 1) = true ∧ 0 < roomF ls os fl k bus ∧ at_ far u = at_ far bus - 1 ∧ okL ls os fl (fun u => at_ far u.toNat) bus k = true) := by
  unfold okL
  by_cases h : otherF (at3 ls k) bus < 0
  · exact .inl ⟨h, by simp; omega⟩
  · obtain ⟨u, hu⟩ := Int.eq_ofNat_of_zero_le (show 0 ≤ otherF (at3 ls k) bus by omega)
    rw [hu]
    simp only [Int.toNat_natCast]
    by_cases h2 : at_ far u = at_ far bus - 1
    · by_cases h3 : 0 < roomF ls os fl k bus
      · exact .inr (.inr (.inr ⟨u, rfl, by simp [h2], h3, h2, by simp [h2, h3]⟩))
      · exact .inr (.inr (.inl ⟨u, rfl, by simp [h2], h3, by simp [h3]⟩))
    · exact .inr (.inl ⟨u, rfl, by simp [h2], by simp [h2]⟩)

set_option maxRecDepth 8000 in
set_option maxHeartbeats 4000000 in
theorem augment_any (nb : Nat) (A D : Option Addr) (c d fb fc base : Nat) (ls : List (Int × Int × Int)) (os : List Bool) (fl : List Int) (nf nt : Nat) (v : Int) (w : World) (hfb : fb < w.heap.size) (h : Sl w fb 3 A ls.length (enc3 ls)) (g : Sl w fb 1 D os.length (encB os)) (ho : w.ownsRow base 3 1 (.slice (some ⟨fb, 0, none⟩) fl.length fc) fl.length (encI fl))
    (hE : Ends nb ls os.length nf nt) (hF : Flo nb ls os nf nt fl v) :
    Calls Tryd.prog 84 #[.agg #[.int .i64 nb, .slice A ls.length c, .slice D os.length d, .slice (some ⟨fb, 0, none⟩) fl.length fc], .int .i64 nf, .int .i64 nt] w (Auged nb ls os nf nt fl v base fb fc w) := by
  have bw := (Below.refl _ w).alloc (Nat.le_refl _) (.cells #[.int .i64 nb, .slice A ls.length c, .slice D os.length d, .slice (some ⟨fb, 0, none⟩) fl.length fc] 96)
  have B0 := Blk.new w 96 #[.int .i64 nb, .slice A ls.length c, .slice D os.length d, .slice (some ⟨fb, 0, none⟩) fl.length fc]
  obtain ⟨⟨n1, n2⟩, n3⟩ := net_len hE.net
  have f0 := hE.f0
  have f1 : nf < nb := by have := hE.f1; omega
  have t1 : nt < nb := by have := hE.t1; omega
  have hne : nf ≠ nt := by have := hE.ne; omega
  have HE := hide hE
  have HFl := hide hF
  have HL0 := hide h
  obtain ⟨w1, hw1⟩ : ∃ w1, w1 = w.alloc (.cells #[.int .i64 nb, .slice A ls.length c, .slice D os.length d, .slice (some ⟨fb, 0, none⟩) fl.length fc] 96) := ⟨_, rfl⟩
  rw [← hw1] at bw B0
  have hz : w1.heap.size = w.heap.size + 1 := by rw [hw1]; simp
  have HH := hide ((h.more (by omega : fb ≤ w.heap.size)).to bw)
  have HG := hide ((g.more (by omega : fb ≤ w.heap.size)).to bw)
  have HS := hide (Sl.of_own (ho.keepB bw))
  have HO := hide (ho.keepB bw)
  have HB := hide B0
  have HK := hide bw
  have HMay := hide (fun (k : Nat) (bus : Int) (wx : World) (hk : k < ls.length) (hx : Below w1.heap.size w1 wx) => augMay_any (nb : Int) A D (some ⟨fb, 0, none⟩) c d fc w.heap.size ls os fl k bus wx (HH.out.to hx) (HG.out.to hx) (HS.out.to hx) HE.out.net HE.out.len HFl.out.ok hk (HB.out.to hx))
  have HD := hide (distAug_any nb A D (some ⟨fb, 0, none⟩) c d fc w.heap.size ls os.length fl.length nt (augMay ls os fl) w1 HH.out HE.out.net t1 HMay.out)
  have HW1 := hide hw1
  clear bw B0 h g ho hE hF hw1
  go_enter Tryd.func84, Tryd.ntmps84
  go_wp2_with fail
  rw [← HW1.out]
  refine HD.out.mono ?_
  rintro e w2 ⟨far, Df, df, ⟨hfl, hfar⟩, rfl, hof, hb2⟩
  have HWay : Hid (Way nb ls os fl nt (fun u => at_ far u.toNat)) := ⟨HE.out.net, HE.out.t0, HE.out.t1, by simpa using hfar.congr (fun u v => Mv_aug HE.out.net os fl u v)⟩
  obtain ⟨gf, cf, hvf, hgf, _⟩ := hof.form (by rw [hfl]; omega)
  cases hvf
  have HFL := hide hfl
  have HOF := hide hof
  have O2 := hide (HO.out.keepB hb2)
  have B2 := hide (HB.out.to hb2)
  have K2 := hide (HK.out.then hb2)
  have H2 := hide (HH.out.to hb2)
  have G2 := hide (HG.out.to hb2)
  have hz2 := hb2.size
  have cell_far : Hid (∀ u : Nat, u < nb → w2.cell? ⟨gf, u, none⟩ = some (.int .i64 (at_ far u))) := fun u hu => by
    have := HOF.out.cellAt u (by rw [HFL.out]; omega)
    rwa [encI_at far u (by rw [HFL.out]; exact hu)] at this
  have cf0 := cell_far.out nf f1
  clear hfar hof hb2 HD HMay HW1 HO HB HK HH HG HS
  have hl0 : (nf : Int) < far.length := by rw [hfl]; omega
  clear hfl
  by_cases hneg : at_ far nf < 0
  · have HN := hide hneg
    go_wp2_with fail
    go_ret
    refine ⟨false, fl, 0, rfl, rfl, O2.out, But.of_below K2.out, .inl ⟨rfl, rfl, rfl, fun hr => ?_⟩, by simpa using HFl.out⟩
    have := (HWay.out.far.reach HE.out.f0 (by simpa using HE.out.f1)).2 hr
    simp at this
    have := HN.out
    omega
  · have hd1 : decide (at_ far nf < 0) = false := by simp; omega
    obtain ⟨S, hS⟩ := Int.eq_ofNat_of_zero_le (show 0 ≤ at_ far nf by omega)
    have HSe := hide hS
    clear hneg hS
    go_wp2_with fail
    go_loopg [8, 9, 10, 11] S (fun gk wv bv mv buv wr => ∃ (P : List (Nat × Int)) (bus : Nat) (Dw Db : Option Addr) (dw db : Nat), wv = .slice Dw P.length dw ∧ bv = .slice Db P.length db ∧ mv = .int .i64 (minR ls os fl P) ∧ buv = .int .i64 bus ∧ bus < nb ∧ Hid (at_ far bus = gk) ∧ Hid (P ++ pathF ls os fl (fun u => at_ far u.toNat) gk bus = pathF ls os fl (fun u => at_ far u.toNat) S nf) ∧
      Hid (wr.ownsRow w2.heap.size 3 1 (.slice Dw P.length dw) P.length (encI (wayL P))) ∧ Hid (wr.ownsRow w2.heap.size 3 1 (.slice Db P.length db) P.length (encI (busL P))) ∧ Hid (∀ g, (Value.slice Dw P.length dw).ownBlock = some g → (Value.slice Db P.length db).ownBlock ≠ some g) ∧ Hid (Below w2.heap.size w2 wr))
    case atStart => exact ⟨[], nf, _, _, _, _, rfl, rfl, rfl, rfl, f1, HSe, hide rfl, hide (World.ownsRow_nil _ _ _ _), hide (World.ownsRow_nil _ _ _ _), hide (fun g hg => by cases hg), hide (Below.refl _ _)⟩
    case round =>
      obtain ⟨P, bus, Dw, Db, dw, db, rfl, rfl, rfl, rfl, hbus, HG1, HP, HOW, HOB, HNE, HK1⟩ := hrel
      by_cases hend : bus = nt
      · subst hend
        have hb1 : ((bus : Int) != bus) = false := by simp
        obtain rfl : gk = 0 := by
          have := HWay.out.far.at ⟨HE.out.t0, by simpa using HE.out.t1⟩
          simp at this
          have := HG1.out
          omega
        have hpe : P = pathF ls os fl (fun u => at_ far u.toNat) S nf := by have := HP.out; simpa [pathF] using this
        have HPe := hide hpe
        clear hpe
        obtain ⟨pc, pp, pl⟩ := HWay.out.path S nf (by omega) (by omega) (by simpa using HSe.out)
        rw [← HPe.out] at pc pp pl
        have HPP := hide pp
        have hnd := HWay.out.lines S nf (by omega) (by omega) (by simpa using HSe.out)
        rw [← HPe.out] at hnd
        have HND := hide hnd
        have hmr := minR_in (P := P) (ls := ls) (os := os) (fl := fl) (fun p hp => (pp p hp).2.1.2.2)
        have HMR := hide hmr
        obtain ⟨mr1, mr2, _⟩ := hmr
        have hP8 : P.length ≤ 8 := by
          have h3 := HWay.out.far.lt (u := (nf : Int)) ⟨HE.out.t0, by simpa using HE.out.t1⟩ (fun u v huv => by have := Res.range HE.out.net huv; simp; omega) (by omega) (by simp; omega)
          simp at h3
          have := HSe.out
          omega
        have hfb2 : fb < w2.heap.size := by omega
        have hfb3 : Hid (fb < w2.heap.size) := hfb2
        have FO1 : Hid (wr.ownsRow base 3 1 (.slice (some ⟨fb, 0, none⟩) fl.length fc) fl.length (encI fl)) := by
          exact But.own (But.of_below (S := fun _ => False) (HK1.out)) O2.out (fun _ _ h => h)
        have hzr := HK1.out.size
        have hfl := HFl.out.ok.1
        have HFLl := hide hfl
        have hkb : ∀ p ∈ P, p.1 < ls.length := fun p hp => (pp p hp).1
        have HKB := hide hkb
        obtain ⟨wo, hwo⟩ : ∃ wo : World, wo = wr := ⟨_, rfl⟩
        have HWO := hide hwo
        clear pc pp pl hnd hkb hwo cf0 hfl
        go_wp2_with fail
        go_loopw [81] (fun x wr => ∃ i : Nat, i ≤ P.length ∧ x = .int .i64 i ∧ Hid (wr.ownsRow base 3 1 (.slice (some ⟨fb, 0, none⟩) fl.length fc) fl.length (encI (augL ls (minR ls os fl P) (P.take i) fl))) ∧ Hid (But (fun y => y = fb) wo wr)) (fun x _ => P.length - (intOf x).toNat)
        case atStart => exact ⟨0, Nat.zero_le _, rfl, by simpa [augL] using FO1, by rw [HWO.out]; exact hide (But.refl _ _)⟩
        case round =>
          obtain ⟨i, hi, rfl, FO, HB3⟩ := hrel
          rw [← HWO.out] at HOW HOB HK1 FO1
          rw [← HWO.out] at hzr
          by_cases hlt : i < P.length
          · obtain ⟨k, hk⟩ : ∃ k : Nat, P[i].1 = k := ⟨_, rfl⟩
            obtain ⟨pb, hpb⟩ : ∃ pb : Int, P[i].2 = pb := ⟨_, rfl⟩
            have hmem : P[i] ∈ P := List.getElem_mem hlt
            have hkl : k < ls.length := by rw [← hk]; exact HKB.out _ hmem
            have KK : Hid (But (fun y => y = fb) w2 wr) := (But.of_below HK1.out).then HB3.out
            obtain ⟨gw, cpw, hvw, hgw, _⟩ := HOW.out.form (by omega)
            cases hvw
            obtain ⟨gb, cpb, hvb, hgb, _⟩ := HOB.out.form (by omega)
            cases hvb
            have c1 : wr.cell? ⟨gw, i, none⟩ = some (.int .i64 k) := by
              refine HB3.out.cell ?_ (by show ¬ gw = fb; omega)
              rw [HOW.out.cellAt i (by omega), encI_at _ i (by rw [wayL_len]; exact hlt), wayL_at P i hlt, hk]
            have c2 : wr.cell? ⟨gb, i, none⟩ = some (.int .i64 pb) := by
              refine HB3.out.cell ?_ (by show ¬ gb = fb; omega)
              rw [HOB.out.cellAt i (by omega), encI_at _ i (by rw [busL_len]; exact hlt), busL_at P i hlt, hpb]
            have B3 := hide (KK.out.blk B2.out (by omega))
            have x1 : wr.cell? ⟨w.heap.size, 1, none⟩ = some (.slice A ls.length c) := B3.out.cell 1
            have x3 : wr.cell? ⟨w.heap.size, 3, none⟩ = some (.slice (some ⟨fb, 0, none⟩) fl.length fc) := B3.out.cell 3
            have KW : Hid (But (fun y => y = fb) w wr) := (But.of_below K2.out).then KK.out
            obtain ⟨b0, o0, rfl, hb0, d0, _, _⟩ := (HL0.out.below (KW.out.to (B := fb) (by omega) (fun y hy => by omega))).three k hkl
            have hfk : at_ (augL ls (minR ls os fl P) (P.take i) fl) k = at_ fl k := augL_out _ _ _ _ (fun p hp => by rw [← hk]; exact nodup_take HND.out hlt p hp)
            have hfl2 := HFLl.out
            have e1 := FO.out.cellAt k (by omega)
            rw [encI_at _ k (by rw [augL_len]; omega), hfk] at e1
            have z1 := FO.out.frozenAt k
            have HTk := hide (augL_take ls (minR ls os fl P) P fl i hlt)
            obtain ⟨⟨m6, m7⟩, _⟩ := HFl.out.ok.2 k hkl
            obtain ⟨_, _, _, m8, m9⟩ := net_at HE.out.net k hkl
            have i0 : (0 : Int) ≤ k := by omega
            have i1 : (k : Int) < ls.length := by omega
            have i2 : (k : Int) < fl.length := by omega
            have j0 : (0 : Int) ≤ i := by omega
            have j1 : (i : Int) < P.length := by omega
            have HKe := hide hk
            have HPb := hide hpb
            have HFk := hide hfk
            clear hk hpb hfk hfl2 hmem
            by_cases hpa : pb = (at3 ls k).1
            · have hpq : (pb == (at3 ls k).1) = true := by simp [hpa]
              have HPA := hide hpa
              clear hpa
              go_wp2_with fail
              go_quiet (fail)
              go_wp2_with fail
              go_roundw
              case rel =>
                refine ⟨i + 1, by omega, by go_num, hide ?_, hide ?_⟩
                · rw [HTk.out, augS, HKe.out, HPb.out, if_pos HPA.out, encI_set, HFk.out]
                  exact (FO.out.stored k _).1
                · exact (HB3.out.setCell _ _ (fun _ => rfl)).drewN _
              case measure => simp [intOf]; omega
            · have hpq : (pb == (at3 ls k).1) = false := by simp [hpa]
              have HPA := hide hpa
              clear hpa
              go_wp2_with fail
              go_quiet (fail)
              go_wp2_with fail
              go_roundw
              case rel =>
                refine ⟨i + 1, by omega, by go_num, hide ?_, hide ?_⟩
                · rw [HTk.out, augS, HKe.out, HPb.out, if_neg HPA.out, encI_set, HFk.out]
                  exact (FO.out.stored k _).1
                · exact (HB3.out.setCell _ _ (fun _ => rfl)).drewN _
              case measure => simp [intOf]; omega
          · obtain rfl : i = P.length := by omega
            go_wp2_with fail
            go_ret
            refine ⟨true, augL ls (minR ls os fl P) P fl, minR ls os fl P, rfl, by rw [augL_len], by have := FO.out; rwa [List.take_length] at this, ?_, .inr ⟨rfl, mr1, ?_⟩, ?_⟩
            · exact ((But.of_below K2.out).trans ((But.of_below (S := fun _ => False) HK1.out)) (fun _ _ h => h.elim)).trans HB3.out (fun _ _ h => h)
            · have := Ones.many (b := nb) (from_ := nf) (to := bus) HFLl.out HWay.out (by omega) (by omega) (by simp [HSe.out]) (minR ls os fl P).toNat (fun p hp => by
                have := HMR.out.2.2 p (by rw [HPe.out]; simpa [HSe.out] using hp)
                omega)
              simp only [Int.toNat_natCast, HSe.out] at this
              rw [← HPe.out, Int.toNat_of_nonneg (by omega)] at this
              exact this
            · have := HFl.out.aug HWay.out (by omega) (by omega) (by simp [HSe.out]) (minR ls os fl P) (by omega) (fun p hp => HMR.out.2.2 p (by rw [HPe.out]; simpa [HSe.out] using hp))
              simp only [Int.toNat_natCast, HSe.out] at this
              rw [← HPe.out] at this
              exact this
      · have hb1 : ((bus : Int) != nt) = true := by simp; omega
        have HEN := hide hend
        clear hend
        obtain ⟨s, rfl⟩ : ∃ s, gk = s + 1 := ⟨gk - 1, by
          rcases Nat.eq_zero_or_pos gk with h0 | h0
          · exfalso
            have := HWay.out.far.zero (u := (bus : Int)) (by omega) (by simp; omega) (by simp; rw [HG1.out, h0]; rfl)
            exact HEN.out (by omega)
          · omega⟩
        obtain ⟨kx, hkx⟩ := HWay.out.line (bus := (bus : Int)) (by omega) (by omega) (by show 0 < at_ far ((bus : Int)).toNat; simp; rw [HG1.out]; omega)
        have HKX := hide hkx
        have hkl := (find_some hkx).1
        have HPS := hide (pathF_some (s := s) hkx)
        clear hkx
        have B3 := hide (B2.out.below HK1.out (by have := B2.out.lt; omega))
        have bx1 : wr.cell? ⟨w.heap.size, 1, none⟩ = some (.slice A ls.length c) := B3.out.cell 1
        have hzr := HK1.out.size
        obtain ⟨wo, hwo⟩ : ∃ wo : World, wo = wr := ⟨_, rfl⟩
        have HWO := hide hwo
        rw [← hwo] at HOW HOB HK1
        rw [← hwo] at hzr
        clear hwo
        go_wp2_with fail
        go_loopw [8, 9, 10, 11, 34] (fun wv bv mv buv x wr => ∃ k : Nat, k ≤ kx ∧ wv = .slice Dw P.length dw ∧ bv = .slice Db P.length db ∧ mv = .int .i64 (minR ls os fl P) ∧ buv = .int .i64 bus ∧ x = .int .i64 k ∧ Hid (Below wo.heap.size wo wr)) (fun _ _ _ _ x _ => ls.length - (intOf x).toNat)
        case atStart => exact ⟨0, Nat.zero_le _, rfl, rfl, rfl, rfl, rfl, by rw [HWO.out]; exact hide (Below.refl _ _)⟩
        case round =>
          obtain ⟨k, hk, rfl, rfl, rfl, rfl, rfl, HK3⟩ := hrel
          clear bx1
          have hklt : k < ls.length := by omega
          have KK := hide (HK1.out.trans (HK3.out.mono hzr))
          have hzk := KK.out.size
          obtain ⟨b0, o0, rfl, hb, hd0, hd1', hd2⟩ := H2.out.three k hklt
          have d0 := (KK.out.cell (p := ⟨b0, o0 + k * 3, none⟩) hb).trans hd0
          have d1 := (KK.out.cell (p := ⟨b0, o0 + k * 3 + 1, none⟩) hb).trans hd1'
          have d2 := (KK.out.cell (p := ⟨b0, o0 + k * 3 + 2, none⟩) hb).trans hd2
          have hb0 : b0 < wr.heap.size := by omega
          have kk := (Below.refl _ wr).alloc (Nat.le_refl _) (.cells #[.int .i64 (at3 ls k).1, .int .i64 (at3 ls k).2.1, .int .i64 (at3 ls k).2.2] 76)
          have K4 := hide (KK.out.trans (kk.mono hzk))
          have J4 := hide (HK3.out.then kk)
          clear hd0 hd1' hd2 kk
          go_wp2_with fail
          refine (other_any _ _ _).mono ?_
          rintro e w5 ⟨rfl, hb5⟩
          have K5 := hide (K4.out.trans (hb5.mono (by have := K4.out.size; simpa using this)))
          have J5 := hide (J4.out.then hb5)
          clear hb5 d0 d1 d2 K4 J4
          have hin : otherF (at3 ls k) bus < nb := by
            obtain ⟨m1, m2, m3, m4⟩ := net_at HE.out.net k hklt
            by_cases h0 : 0 ≤ otherF (at3 ls k) bus
            · rcases otherF_cases h0 with ⟨e1, e2⟩ | ⟨e1, _, e2⟩ <;> omega
            · omega
          have HIN := hide hin
          clear hin
          have hgf2 : gf < w2.heap.size := (HOF.out.lt gf rfl).2
          have cfb := (K5.out.cell (p := ⟨gf, bus, none⟩) hgf2).trans (cell_far.out bus hbus)
          have B5 := hide (B2.out.below K5.out (by have := B2.out.lt; omega))
          have x0 : w5.cell? ⟨w.heap.size, 0, none⟩ = some (.int .i64 nb) := B5.out.cell 0
          have x1 : w5.cell? ⟨w.heap.size, 1, none⟩ = some (.slice (some ⟨b0, o0, none⟩) ls.length c) := B5.out.cell 1
          have x2 : w5.cell? ⟨w.heap.size, 2, none⟩ = some (.slice D os.length d) := B5.out.cell 2
          have x3 : w5.cell? ⟨w.heap.size, 3, none⟩ = some (.slice (some ⟨fb, 0, none⟩) fl.length fc) := B5.out.cell 3
          have hlenf : Hid (far.length = nb) := HFL
          have hbl : (bus : Int) < far.length := by rw [HFL.out]; omega
          have bus0 : (0 : Int) ≤ bus := by omega
          have hsm : -1 ≤ at_ far bus ∧ at_ far bus ≤ 9 := by
            have h1 := (HWay.out.far (bus : Int) (by omega) (by simp; omega)).1
            have h2 := HWay.out.far.lt (u := (bus : Int)) ⟨HE.out.t0, by simpa using HE.out.t1⟩ (fun u v huv => by have := Res.range HE.out.net huv; simp; omega) (by omega) (by simp; omega)
            simp at h1 h2
            omega
          obtain ⟨hsm1, hsm2⟩ := hsm
          rcases ok_cases ls os fl far bus k with ⟨q1, q⟩ | ⟨u, q1, q2, q⟩ | ⟨u, q1, q2, q3, q⟩ | ⟨u, q1, q2, q3, q4, q⟩
          · have hkx2 : k < kx := by
              rcases Nat.lt_or_eq_of_le hk with h | h
              · exact h
              · subst h; have := (find_some HKX.out).2.1; rw [q] at this; cases this
            have hg1 : decide (0 ≤ otherF (at3 ls k) bus) = false := by simp; omega
            clear q q1
            go_wp2_with fail
            go_quiet (fail)
            go_wp2_with fail
            go_roundw
            case rel => exact ⟨k + 1, by omega, rfl, rfl, rfl, rfl, by go_num, hide (below_drewN J5.out _)⟩
            case measure => simp [intOf]; omega
          · have hkx2 : k < kx := by
              rcases Nat.lt_or_eq_of_le hk with h | h
              · exact h
              · subst h; have := (find_some HKX.out).2.1; rw [q] at this; cases this
            have hu : u < nb := by have := HIN.out; omega
            have hul : (u : Int) < far.length := by rw [HFL.out]; omega
            have cfu := (K5.out.cell (p := ⟨gf, u, none⟩) hgf2).trans (cell_far.out u hu)
            have hg1 : decide (0 ≤ (u : Int)) = true := by simp
            have u0 : (0 : Int) ≤ u := by omega
            clear q
            go_wp2_with fail
            go_quiet (fail)
            go_wp2_with fail
            go_roundw
            case rel => exact ⟨k + 1, by omega, rfl, rfl, rfl, rfl, by go_num, hide (below_drewN J5.out _)⟩
            case measure => simp [intOf]; omega
          · have hkx2 : k < kx := by
              rcases Nat.lt_or_eq_of_le hk with h | h
              · exact h
              · subst h; have := (find_some HKX.out).2.1; rw [q] at this; cases this
            have hu : u < nb := by have := HIN.out; omega
            have hul : (u : Int) < far.length := by rw [HFL.out]; omega
            have cfu := (K5.out.cell (p := ⟨gf, u, none⟩) hgf2).trans (cell_far.out u hu)
            have hg1 : decide (0 ≤ (u : Int)) = true := by simp
            have u0 : (0 : Int) ≤ u := by omega
            have SH := hide (H2.out.to K5.out)
            have SG := hide (G2.out.to K5.out)
            have SF := hide ((Sl.of_own O2.out).to K5.out)
            clear q
            have q2w : (at_ far u == IntKind.i64.wrap (at_ far bus - 1)) = true := by rw [IntWalk.i64_in _ (by omega)]; exact q2
            go_wp2_with fail
            go_region_held3 (fun w' => w'.cell? ⟨gf, u, none⟩ = some (.int .i64 (at_ far u)) ∧ w'.cell? ⟨gf, bus, none⟩ = some (.int .i64 (at_ far bus)) ∧ w'.cell? ⟨w.heap.size, 0, none⟩ = some (.int .i64 nb) ∧ w'.cell? ⟨w.heap.size, 1, none⟩ = some (.slice (some ⟨b0, o0, none⟩) ls.length c) ∧ w'.cell? ⟨w.heap.size, 2, none⟩ = some (.slice D os.length d) ∧ w'.cell? ⟨w.heap.size, 3, none⟩ = some (.slice (some ⟨fb, 0, none⟩) fl.length fc))
              (first | go_keep | (refine ⟨cellk hb6 ?_, cellk hb6 ?_, cellk hb6 ?_, cellk hb6 ?_, cellk hb6 ?_, cellk hb6 ?_⟩ <;> go_keep))
              (first | (go_at_call 89; refine (room_any _ _ _ _ _ _ _ _ _ _ _ _ _ ?_ ?_ ?_ HE.out.net HE.out.len HFl.out.ok hklt).mono ?_; exact (show Sl w5.drew w5.drew.heap.size _ _ _ _ from SH.out); exact (show Sl w5.drew w5.drew.heap.size _ _ _ _ from SG.out); exact (show Sl w5.drew w5.drew.heap.size _ _ _ _ from SF.out); rintro e w6 ⟨rfl, hb6⟩))
            have K6 := hide (K5.out.drew.trans (hb6.mono (by have := K5.out.size; simpa using this)))
            have J6 := hide (J5.out.drew.trans (hb6.mono (by have := J5.out.size; simpa using this)))
            clear hb6
            go_wp2_with fail
            go_roundw
            case rel => exact ⟨k + 1, by omega, rfl, rfl, rfl, rfl, by go_num, J6⟩
            case measure => simp [intOf]; omega
          · obtain rfl : k = kx := by
              rcases Nat.lt_or_eq_of_le hk with h | h
              · have := (find_some HKX.out).2.2 k h; rw [q] at this; cases this
              · exact h
            have hu : u < nb := by have := HIN.out; omega
            have hul : (u : Int) < far.length := by rw [HFL.out]; omega
            have cfu := (K5.out.cell (p := ⟨gf, u, none⟩) hgf2).trans (cell_far.out u hu)
            have hg1 : decide (0 ≤ (u : Int)) = true := by simp
            have u0 : (0 : Int) ≤ u := by omega
            have SH := hide (H2.out.to K5.out)
            have SG := hide (G2.out.to K5.out)
            have SF := hide ((Sl.of_own O2.out).to K5.out)
            have Q4 := hide q4
            clear q q4
            have q2w : (at_ far u == IntKind.i64.wrap (at_ far bus - 1)) = true := by rw [IntWalk.i64_in _ (by omega)]; exact q2
            go_wp2_with fail
            go_region_held3 (fun w' => w'.cell? ⟨gf, u, none⟩ = some (.int .i64 (at_ far u)) ∧ w'.cell? ⟨gf, bus, none⟩ = some (.int .i64 (at_ far bus)) ∧ w'.cell? ⟨w.heap.size, 0, none⟩ = some (.int .i64 nb) ∧ w'.cell? ⟨w.heap.size, 1, none⟩ = some (.slice (some ⟨b0, o0, none⟩) ls.length c) ∧ w'.cell? ⟨w.heap.size, 2, none⟩ = some (.slice D os.length d) ∧ w'.cell? ⟨w.heap.size, 3, none⟩ = some (.slice (some ⟨fb, 0, none⟩) fl.length fc))
              (first | go_keep | (refine ⟨cellk hb6 ?_, cellk hb6 ?_, cellk hb6 ?_, cellk hb6 ?_, cellk hb6 ?_, cellk hb6 ?_⟩ <;> go_keep))
              (first | (go_at_call 89; refine (room_any _ _ _ _ _ _ _ _ _ _ _ _ _ ?_ ?_ ?_ HE.out.net HE.out.len HFl.out.ok hklt).mono ?_; exact (show Sl w5.drew w5.drew.heap.size _ _ _ _ from SH.out); exact (show Sl w5.drew w5.drew.heap.size _ _ _ _ from SG.out); exact (show Sl w5.drew w5.drew.heap.size _ _ _ _ from SF.out); rintro e w6 ⟨rfl, hb6⟩))
            have K6 := hide (K5.out.drew.trans (hb6.mono (by have := K5.out.size; simpa using this)))
            have J6 := hide (J5.out.drew.trans (hb6.mono (by have := J5.out.size; simpa using this)))
            clear hb6
            have hP8 : P.length ≤ 8 := by
              have h1 := congrArg List.length HP.out
              have h2 := (HWay.out.path S nf (by omega) (by omega) (by simpa using HSe.out)).2.2
              have h3 := HWay.out.far.lt (u := (nf : Int)) ⟨HE.out.t0, by simpa using HE.out.t1⟩ (fun u v huv => by have := Res.range HE.out.net huv; simp; omega) (by omega) (by simp; omega)
              rw [h2, List.length_append] at h1
              simp at h3
              have := HSe.out
              omega
            have W6 := hide (HOW.out.keepB J6.out)
            have U6 := hide (HOB.out.keepB J6.out)
            have hs6 := K6.out.size
            have HBLT : Hid (w.heap.size < w2.heap.size) := by have := B2.out.lt; exact this
            have nW : Hid ((Value.slice Db P.length db).ownBlock = none ∨ (Value.slice Db P.length db).ownBlock ≠ (Value.slice Dw P.length dw).ownBlock) := by
              cases hDb : (Value.slice Db P.length db).ownBlock with
              | none => exact .inl rfl
              | some x => exact .inr fun he => HNE.out x he.symm hDb
            go_wp2_with (first | (at_builtin; refine app_int_at w6 rfl (.tmp 63) (.tmp 65) rfl w2.heap.size Dw P.length dw (wayL P) k rfl W6.out w6.heap.size rfl rfl hs6 (by omega) ?_; intro D7 d7 w7 ho7 hg7 ha7; have U7 := hide (U6.out.kept hg7 nW.out); have K7 := hide (K6.out.trans (grown_below W6.out hg7 hs6)); have hs7 := K7.out.size; have HA7 := hide ha7; clear ha7) | (at_builtin; refine app_int_at w7 rfl (.tmp 67) (.tmp 69) rfl w2.heap.size Db P.length db (busL P) bus rfl U7.out w7.heap.size rfl rfl hs7 (by omega) ?_; intro D8 d8 w8 ho8 hg8 ha8; have K8 := hide (K7.out.trans (grown_below U7.out hg8 hs7)); have B8 := hide (B2.out.below K8.out HBLT.out); have y0 : w8.cell? ⟨w.heap.size, 0, none⟩ = some (.int .i64 nb) := B8.out.cell 0; have y1 : w8.cell? ⟨w.heap.size, 1, none⟩ = some (.slice (some ⟨b0, o0, none⟩) ls.length c) := B8.out.cell 1; have y2 : w8.cell? ⟨w.heap.size, 2, none⟩ = some (.slice D os.length d) := B8.out.cell 2; have y3 : w8.cell? ⟨w.heap.size, 3, none⟩ = some (.slice (some ⟨fb, 0, none⟩) fl.length fc) := B8.out.cell 3; have HA8 := hide ha8; clear ha8))
            have W7 := hide ho7
            have N7 : Hid (∀ g, (Value.slice D7 (P.length + 1) d7).ownBlock = some g → (Value.slice Db P.length db).ownBlock ≠ some g) := fun x hx he => by
              rcases HA7.out with h7 | h7
              · exact HNE.out x (by rw [← h7]; exact hx) he
              · have := (U6.out.lt x he).2
                rw [hx] at h7
                simp at h7
                omega
            have nU : (Value.slice D7 (P.length + 1) d7).ownBlock = none ∨ (Value.slice D7 (P.length + 1) d7).ownBlock ≠ (Value.slice Db P.length db).ownBlock := by
              cases hD7 : (Value.slice D7 (P.length + 1) d7).ownBlock with
              | none => exact .inl rfl
              | some x => exact .inr fun he => N7.out x hD7 he.symm
            have U8 := hide ho8
            have W8 := hide (W7.out.kept hg8 nU)
            have N8 : Hid (∀ g, (Value.slice D7 (P.length + 1) d7).ownBlock = some g → (Value.slice D8 (P.length + 1) d8).ownBlock ≠ some g) := fun x hx he => by
              rcases HA8.out with h8 | h8
              · exact N7.out x hx (by rw [← h8]; exact he)
              · have := (W7.out.lt x hx).2
                rw [he] at h8
                simp at h8
                omega
            clear ho8 hg8 nU
            clear x0 x1 x2 x3
            refine (room_any _ _ _ _ _ _ _ _ _ _ _ _ _ (H2.out.to K8.out) (G2.out.to K8.out) ((Sl.of_own O2.out).to K8.out) HE.out.net HE.out.len HFl.out.ok hklt).mono ?_
            rintro e w9 ⟨rfl, hb9⟩
            have W9 := hide (W8.out.keepB hb9)
            have U9 := hide (U8.out.keepB hb9)
            have K9 := hide (K8.out.trans (hb9.mono K8.out.size))
            have HM := hide (minR_snoc ls os fl P (k, (bus : Int)))
            have hpl : (P ++ [(k, (bus : Int))]).length = P.length + 1 := by simp
            have HPL := hide hpl
            have HQ1 := hide q1
            clear hb9 y0 y1 y2 y3 q1 hpl
            go_wp2_with fail
            all_goals
              go_roundg s
              case measure => omega
              case rel =>
                refine ⟨P ++ [(k, (bus : Int))], u, D7, D8, d7, d8, by rw [HPL.out], by rw [HPL.out], ?_, by first | rfl | rw [HQ1.out], hu, hide ?_, hide ?_, hide ?_, hide ?_, hide ?_, K9⟩
                · rw [HM.out]
                  apply vint
                  omega
                · have := Q4.out; have := HG1.out; omega
                · rw [List.append_assoc]
                  have := HP.out
                  rw [HPS.out, HQ1.out] at this
                  exact this
                · rw [HPL.out, wayL_snoc]; exact W9.out
                · rw [HPL.out, busL_snoc]; exact U9.out
                · rw [HPL.out]; exact N8.out

end Go.Proofs.YtijnahflfbjgiaaDoor
