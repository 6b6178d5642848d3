/-
  A line switched off: the program's function, the law's helper, and what it does to cuts.
-/
import Derived.Test.YtijnahflfbjgiaaDoorSide
import Derived.Test.YtijnahflfbjgiaaDoorNetEnds
import Derived.Test.YtijnahflfbjgiaaDoorMostS
import Derived.Test.YtijnahflfbjgiaaDoorCutSpec
namespace Go.Proofs.YtijnahflfbjgiaaDoor
open Go.RowKit
set_option linter.unusedVariables false

theorem app_bools {ops : Array Oper} {rest : List Oper} {o : Oper} {a : Act} {Q : Exit → Act → World → Prop} (wr : World) (hw : Region.wanted o (yielded ops a.tmps) = true) (s x : Operand)
    (ho : o.op = .call { callee := .builtin .append, args := #[s, x], argTypes := #[51, 51] })
    (base : Nat) (A : Option Addr) (n c : Nat) (ord : List Bool) (hs : a.eval s = .slice A n c) (hown : wr.ownsRow base 4 1 (.slice A n c) n (encB ord))
    (B : Nat) (A2 : Option Addr) (m c2 : Nat) (ys : List Bool) (hx : a.eval x = .slice A2 m c2) (hr : Sl wr B 1 A2 m (encB ys))
    (hb : base ≤ wr.heap.size) (hn : n ≤ 1048576) (hm : m ≤ 1048576)
    (h : ∀ D d w', w'.ownsRow base 4 1 (.slice D (n + m) d) (n + m) (encB (ord ++ ys)) → wr.grownBy w' (Value.slice A n c).ownBlock → wpList Tryd.prog ops Q rest (a.put o.dst (.slice D (n + m) d)) w') :
    wpList Tryd.prog ops Q (o :: rest) a wr := by
  obtain ⟨i0, hi, hz0, hz1, hz2⟩ := info_parts infoBl
  refine wpList_append_any wr hw s x 51 ho base 4 i0 (.bool false) 1 1 Tryd.underlying51 hi hz0 hz1 hz2 rfl (by decide) (.slice A n c) n (encB ord) hs hown B A2 m c2 (encB ys) hx hr (encB_one ys) (by unfold maxLen; omega) (by omega) hb ?_
  intro v' w' ho' hg
  obtain ⟨D, d, rfl, _, _⟩ := own_slice ho'
  exact h D d w' (by rw [show encB (ord ++ ys) = encB ord ++ encB ys by simp [encB]]; exact ho') hg

theorem cloneB_any (A : Option Addr) (c : Nat) (xs : List Bool) (w : World) (h : Sl w w.heap.size 1 A xs.length (encB xs)) (hm : xs.length ≤ 1048576) (hp : 0 < xs.length) :
    Calls Tryd.prog 105 #[.slice A xs.length c] w fun e w' => ∃ D d, e = .returned (.slice D xs.length d) ∧ w'.ownsRow w.heap.size 4 1 (.slice D xs.length d) xs.length (encB xs) ∧ Below w.heap.size w w' := by
  have hnil := fun wx => Lib.run_eql_slice_nil (P := Tryd.prog) wx 51 4 A xs.length c 0 0 Tryd.underlying51
  obtain ⟨g0, off0, hA, _⟩ := h.2 hp
  subst hA
  have N6 := hide (World.ownsRow_lit (base := w.heap.size) (e := 4) (size := 1) w #[] 0 (Nat.le_refl _) (Nat.zero_le _) rfl)
  have B6 := (Below.refl w.heap.size w).alloc (Nat.le_refl _) (.cells #[] 4)
  have S6 := hide (h.below B6)
  go_enter Tryd.func105, Tryd.ntmps105
  go_wp2_with (at_builtin; refine app_bools _ rfl (.tmp 5) (.tmp 6) rfl w.heap.size _ 0 0 [] rfl N6.out _ (some ⟨g0, off0, none⟩) xs.length c xs rfl S6.out (by simp) (by omega) (by omega) ?_; intro D2 d2 w7 ho7 hg7)
  go_wp2_with fail
  go_ret
  refine ⟨D2, d2, by simp, by simpa using ho7, B6.trans (grown_below N6.out hg7 (by simp))⟩

theorem hasLine_off (b : Int) (A : Option Addr) (n c k : Nat) (hk : k < n) (w : World) :
    Calls Tryd.prog 91 #[.agg #[.int .i64 b, .slice A n c], .int .i64 k] w fun e w' => e = .returned (.bool true) ∧ Below w.heap.size w w' := by
  have bw := (Below.refl _ w).alloc (Nat.le_refl _) (.cells #[.int .i64 b, .slice A n c] 50)
  have k0 : (0 : Int) ≤ k := by omega
  have k1 : (k : Int) < n := by omega
  go_enter Tryd.func91, Tryd.ntmps91
  go_wp2_with fail
  go_ret
  exact ⟨rfl, bw⟩

theorem encB_set (xs : List Bool) (k : Nat) (x : Bool) : (encB xs).set k (.bool x) = encB (xs.set k x) := by simp [encB]

set_option maxHeartbeats 1000000 in
theorem switchLine_any (b : Int) (A D : Option Addr) (c d : Nat) (ls : List (Int × Int × Int)) (os : List Bool) (k : Nat) (t : Bool) (w : World) (h : Sl w w.heap.size 3 A ls.length (enc3 ls)) (g : Sl w w.heap.size 1 D os.length (encB os)) (hv : stB b ls os.length = true) (hk : k < os.length) :
    Calls Tryd.prog 79 #[.agg #[.int .i64 b, .slice A ls.length c], .slice D os.length d, .int .i64 k, .bool t] w fun e w' => ∃ F f, e = .returned (.tuple #[.slice F os.length f, .bool true]) ∧ w'.ownsRow w.heap.size 4 1 (.slice F os.length f) os.length (encB (os.set k t)) ∧ Below w.heap.size w w' := by
  obtain ⟨hn, hlen⟩ := stB_true hv
  have hl := (net_len hn).2
  have bw := (Below.refl _ w).alloc (Nat.le_refl _) (.cells #[.int .i64 b, .slice A ls.length c] 50)
  have X1 := hide (Blk.new w 50 #[.int .i64 b, .slice A ls.length c])
  have H1 := hide (h.to bw)
  have G1 := hide (g.to bw)
  have K1 := hide bw
  have e0 : (w.alloc (.cells #[.int .i64 b, .slice A ls.length c] 50)).heap.size = w.heap.size + 1 := by simp
  have E0 := hide e0
  have HN := hide hn
  have HL := hide hlen
  have ho10 : os.length ≤ 10 := by omega
  clear bw h g hn e0 hlen
  go_enter Tryd.func79, Tryd.ntmps79
  go_wp2_with fail
  refine (implStateValid_any _ _ _ _ _ _ _ _ H1.out (by omega)).mono ?_
  rintro e w2 ⟨rfl, hb2⟩
  rw [hv]
  have X2 := hide (X1.out.to hb2)
  have H2 := hide (H1.out.to hb2)
  have G2 := hide (G1.out.to hb2)
  have K2 := hide (K1.out.then hb2)
  clear hb2 X1 H1 G1 K1
  go_wp2_with fail
  refine (cloneB_any _ _ _ _ G2.out (by omega) (by omega)).mono ?_
  rintro e w3 ⟨F, f, rfl, ho3, hb3⟩
  have X3 := hide (X2.out.to hb3)
  have K3 := hide (K2.out.then hb3)
  have hs2 := K2.out.size
  have O3 := hide (own_mono ho3 hs2)
  clear hb3 ho3 X2 K2
  obtain ⟨c0, c1⟩ := X3.out.two
  go_wp2_with fail
  refine (hasLine_off _ _ _ _ _ (by have := HL.out; omega) _).mono ?_
  rintro e w4 ⟨rfl, hb4⟩
  have K4 := hide (K3.out.then hb4)
  have O4 := hide (O3.out.keepB hb4)
  clear hb4 O3 K3
  obtain ⟨gO, cO, hvO, hgO, hgO2⟩ := O4.out.form (by omega)
  cases hvO
  have hc := O4.out.cellAt k (by omega)
  rw [encB_at os k hk] at hc
  have hf := O4.out.frozenAt k
  have k0 : (0 : Int) ≤ k := by omega
  have k1 : (k : Int) < os.length := by omega
  have OS := hide (O4.out.stored k (.bool t)).1
  go_wp2_with fail
  refine bodyPost_ret (v := .tuple #[.slice (some ⟨gO, 0, none⟩) os.length f, .bool true]) (by simp [results, Tryd.results79, go_sem]) rfl ?_
  exact ⟨some ⟨gO, 0, none⟩, f, rfl, by rw [← encB_set]; exact OS.out, K4.out.setCell (p := ⟨gO, k, none⟩) hgO _⟩

theorem offOn_any (b : Int) (A D : Option Addr) (c d : Nat) (ls : List (Int × Int × Int)) (os : List Bool) (k : Nat) (w : World) (h : Sl w w.heap.size 3 A ls.length (enc3 ls)) (g : Sl w w.heap.size 1 D os.length (encB os)) (hv : stB b ls os.length = true) (hk : k < os.length) :
    Calls Tryd.prog 36 #[.agg #[.int .i64 b, .slice A ls.length c], .slice D os.length d, .int .i64 k] w fun e w' => ∃ F f u, e = .returned (.tuple #[.slice F os.length f, u]) ∧ w'.ownsRow w.heap.size 4 1 (.slice F os.length f) os.length (encB (os.set k false)) ∧ Below w.heap.size w w' := by
  have bw := (Below.refl _ w).alloc (Nat.le_refl _) (.cells #[.int .i64 b, .slice A ls.length c] 50)
  have X1 := hide (Blk.new w 50 #[.int .i64 b, .slice A ls.length c])
  have H1 := hide (h.to bw)
  have G1 := hide (g.to bw)
  have K1 := hide bw
  clear bw h g
  go_enter Tryd.func36, Tryd.ntmps36
  go_wp2_with fail
  refine (switchLine_any _ _ _ _ _ _ _ _ _ _ H1.out G1.out hv hk).mono ?_
  rintro e w2 ⟨F, f, rfl, ho2, hb2⟩
  have hs1 := K1.out.size
  have X2 := hide (X1.out.to hb2)
  have H2 := hide (H1.out.to hb2)
  have G2 := hide (G1.out.to hb2)
  have K2 := hide (K1.out.then hb2)
  have O2 := hide (own_mono ho2 hs1)
  clear hb2 X1 H1 G1 K1 ho2
  obtain ⟨c0, c1⟩ := X2.out.two
  go_wp2_with fail
  refine (switchLine_any _ _ _ _ _ _ _ _ _ _ H2.out G2.out hv hk).mono ?_
  rintro e w3 ⟨F3, f3, rfl, ho3, hb3⟩
  have K3 := hide (K2.out.then hb3)
  have O3 := hide (O2.out.keepB hb3)
  clear hb3 ho3
  go_wp2_with fail
  refine bodyPost_ret (v := .tuple #[.slice F os.length f, .slice F3 os.length f3]) (by simp [results, Tryd.results36, go_sem]) rfl ?_
  exact ⟨F, f, _, rfl, O3.out, K3.out⟩

theorem atB_off (os : List Bool) (k j : Nat) : atB (os.set k false) j = true → atB os j = true := by
  unfold atB
  simp only [List.getD_eq_getElem?_getD, List.getElem?_set]
  by_cases h : k = j
  · subst h
    by_cases hl : k < os.length <;> simp [hl]
  · simp [h]
/-- With a line off no border lets through more. -/
theorem cut_off {b : Int} {ls : List (Int × Int × Int)} (hv : netB b ls = true) (os : List Bool) (zs : List Int) (q : Nat) (k : Nat) (hk : k ≤ ls.length) : cutF ls (os.set q false) zs k ≤ cutF ls os zs k := by
  induction k with
  | zero => exact Int.le_refl _
  | succ k ih =>
    have h1 := ih (by omega)
    have hn := net_at hv k (by omega)
    rw [cutF, cutF]
    have : cutS ls (os.set q false) zs k ≤ cutS ls os zs k := by
      unfold cutS
      cases h2 : atB (os.set q false) k
      · simp only [Bool.false_and]
        split <;> (try split) <;> simp_all <;> omega
      · rw [atB_off os q k h2]
        exact Int.le_refl _
    omega
theorem MV.off {b : Int} {ls : List (Int × Int × Int)} {os : List Bool} {from_ to : Int} (he : endsB b ls os.length from_ to = true) {fl : List Int} (h : MF b ls os from_ to fl) (q : Nat) {y : Int} (k : MV b ls (os.set q false) from_ to y) : y ≤ valB b ls os from_ to fl := by
  have hE := ends_true he
  obtain ⟨v, p, hF, hv, _, h1, h2, h3⟩ := h.min he
  obtain ⟨r, hr, rfl⟩ := k
  have he' : endsB b ls (os.set q false).length from_ to = true := by simpa using he
  obtain ⟨v', p', hF', hv', _⟩ := hr.min he'
  have a := hF'.cut hE.net (selL_nodup p b.toNat) h1 h2
  have c := cut_off hE.net os (selL p b.toNat) q ls.length (Nat.le_refl _)
  rw [hv, hv']
  omega
theorem cutB_off {b : Int} {ls : List (Int × Int × Int)} {os : List Bool} {zs : List Int} (h : 0 ≤ cutB b ls os zs) (q : Nat) : cutB b ls (os.set q false) zs ≤ cutB b ls os zs := by
  unfold cutB at h ⊢
  simp only [List.length_set]
  split
  · rename_i hc
    simp only [Bool.and_eq_true] at hc
    exact cut_off (stB_true hc.1).1 os zs q _ (Nat.le_refl _)
  · exact Int.le_refl _

end Go.Proofs.YtijnahflfbjgiaaDoor
