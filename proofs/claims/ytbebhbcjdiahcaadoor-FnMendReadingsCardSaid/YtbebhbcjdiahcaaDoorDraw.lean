/-
  The reference's drawing: a reader of a code, and what it picks. Of what is picked only the range is said.
-/
import Derived.Test.YtbebhbcjdiahcaaDoorLeaf
import Derived.Test.YtbebhbcjdiahcaaDoorOpen
import Derived.Maps.AppendAt
import Derived.Laws.BitsAllLaws
import Derived.Laws.BitsLemmas
import Derived.IntWalk
namespace Go.Proofs.YtbebhbcjdiahcaaDoor
open Go.RowKit
set_option linter.unusedVariables false

/-- A reader in block g, at place p; the code lies below block B. -/
def RdOk (B : Nat) (w : World) (g p : Nat) : Prop :=
  ∃ (A : Option Addr) (c : Nat) (xs : List Int), Blk w g 72 #[.slice A xs.length c, .int .i64 p] ∧ B ≤ g ∧ xs.length ≤ 2000 ∧ (∀ n ∈ xs, 0 ≤ n ∧ n ≤ 255) ∧ Sl w B 1 A xs.length (encU xs)

theorem RdOk.far {B g p : Nat} {w w' : World} (h : RdOk B w g p) (hb : Below (g + 1) w w') : RdOk B w' g p := by
  obtain ⟨A, c, xs, h1, h2, h3, h4, h5⟩ := h
  exact ⟨A, c, xs, h1.below hb (by omega), h2, h3, h4, h5.below (hb.mono (by omega))⟩
theorem RdOk.lt {B g p : Nat} {w : World} (h : RdOk B w g p) : g < w.heap.size := by
  obtain ⟨A, c, xs, h1, _⟩ := h
  exact h1.lt
theorem RdOk.le {B g p : Nat} {w : World} (h : RdOk B w g p) : B ≤ g := by
  obtain ⟨A, c, xs, _, h1, _⟩ := h
  exact h1
theorem byte_at {xs : List Int} (h : ∀ n ∈ xs, 0 ≤ n ∧ n ≤ 255) (k : Nat) (hk : k < xs.length) : 0 ≤ at_ xs k ∧ at_ xs k ≤ 255 := h _ (mem_at k hk)

theorem l20Open_any (A : Option Addr) (c : Nat) (xs : List Int) (w : World) (h : Sl w w.heap.size 1 A xs.length (encU xs)) (hc : xs.length ≤ c) (hm : c ≤ maxLen) (hx : ∀ n ∈ xs, 0 ≤ n ∧ n ≤ 255) :
    Calls Tryd.prog 23 #[.slice A xs.length c] w fun e w' => e = .returned (.pointer (some ⟨w.heap.size, 0, none⟩)) ∧ RdOk w.heap.size w' w.heap.size 0 ∧ Below w.heap.size w w' := by
  unfold maxLen at hm
  by_cases hl : xs.length ≤ 2000
  · go_enter Tryd.func23, Tryd.ntmps23
    go_wp2
    go_ret
    have hb := (Below.refl _ w).alloc (Nat.le_refl _) (.cells #[.slice A xs.length c, .int .i64 0] 72)
    exact ⟨rfl, ⟨A, c, xs, Blk.new _ _ _, Nat.le_refl _, hl, hx, h.below hb⟩, hb⟩
  · obtain ⟨b, off, rfl, hbb, _⟩ := h.byte 0 (by omega)
    go_enter Tryd.func23, Tryd.ntmps23
    go_wp2
    go_ret
    have hb := (Below.refl _ w).alloc (Nat.le_refl _) (.cells #[.slice (some ⟨b, off, none⟩) 2000 c, .int .i64 0] 72)
    have hl2 : (xs.take 2000).length = 2000 := by simp; omega
    refine ⟨rfl, ⟨some ⟨b, off, none⟩, c, xs.take 2000, ?_, Nat.le_refl _, by omega, fun n hn => hx n (List.mem_of_mem_take hn), ?_⟩, ?_⟩
    · rw [hl2]
      exact Blk.new _ _ _
    · refine Sl.below ?_ hb
      refine ⟨by simp [encU], fun hn => ⟨b, off, rfl, hbb, fun j u hu => ?_⟩⟩
      obtain ⟨b', off', he, _, hcc⟩ := h.2 (by omega)
      simp at he
      obtain ⟨rfl, rfl⟩ := he
      have hj : j < 2000 := by
        have := (List.getElem?_eq_some_iff.1 hu).1
        rw [encU_len, hl2] at this
        exact this
      refine hcc j u ?_
      rw [← hu]
      simp [encU, hj]
    · exact hb

theorem ofInt_i64 (a : Nat) (ha : a < 9223372036854775808) : (BitVec.ofInt 64 (a : Int)).toNat = a := by
  rw [BitVec.ofInt_natCast, BitVec.toNat_ofNat]; exact Nat.mod_eq_of_lt (by omega)
theorem i64_xor_nat (a b : Nat) (ha : a < 9223372036854775808) (hb : b < 9223372036854775808) : bits .xor .i64 (a : Int) (b : Int) = ((a ^^^ b : Nat) : Int) := by
  have hx : a ^^^ b < 2 ^ 63 := Nat.xor_lt_two_pow (by omega) (by omega)
  show IntKind.i64.wrap ((BitVec.ofInt 64 (a : Int) ^^^ BitVec.ofInt 64 (b : Int)).toNat : Int) = _
  rw [BitVec.toNat_xor, ofInt_i64 a ha, ofInt_i64 b hb, IntKind.wrap_i64]
  omega
theorem xor_in (x y : Int) (hx : 0 ≤ x ∧ x ≤ 1000000000000) (hy : 0 ≤ y ∧ y ≤ 1000000000000) : 0 ≤ bits .xor .i64 x y ∧ bits .xor .i64 x y ≤ 9223372036854775807 := by
  obtain ⟨a, rfl⟩ := Int.eq_ofNat_of_zero_le hx.1
  obtain ⟨b, rfl⟩ := Int.eq_ofNat_of_zero_le hy.1
  have h1 : a ^^^ b < 2 ^ 63 := Nat.xor_lt_two_pow (by omega) (by omega)
  rw [i64_xor_nat a b (by omega) (by omega)]
  omega

/-- What a pick leaves: a number in its range, and only the reader's place has turned. -/
def Picked (B : Nat) (w : World) (g p : Nat) (n : Int) (e : Ending) (w' : World) : Prop :=
  ∃ v : Int, 0 ≤ v ∧ (1 ≤ n → v < n) ∧ (n < 1 → v = 0) ∧ e = .returned (.int .i64 v) ∧ RdOk B w' g (p + 1) ∧ w.grownBy w' (some g) ∧ w'.heap.size = w.heap.size

theorem rd_step {B g p : Nat} {w : World} (h : RdOk B w g p) (k : Nat) : RdOk B ((w.setCell ⟨g, 1, none⟩ (.int .i64 ((p : Int) + 1))).drewN k) g (p + 1) ∧ w.grownBy ((w.setCell ⟨g, 1, none⟩ (.int .i64 ((p : Int) + 1))).drewN k) (some g) ∧ ((w.setCell ⟨g, 1, none⟩ (.int .i64 ((p : Int) + 1))).drewN k).heap.size = w.heap.size := by
  obtain ⟨A, c, xs, h1, h2, h3, h4, h5⟩ := h
  refine ⟨⟨A, c, xs, ?_, h2, h3, h4, ?_⟩, ?_, ?_⟩
  · have := h1.set_ 1 (.int .i64 ((p : Int) + 1))
    rw [show (#[Value.slice A xs.length c, Value.int .i64 (p : Int)].setIfInBounds 1 (.int .i64 ((p : Int) + 1))) = #[.slice A xs.length c, .int .i64 ((p : Int) + 1)] from rfl] at this
    exact this
  · exact h5.keep fun q hq => World.cell?_setCell_other w ⟨g, 1, none⟩ q _ (fun e => by subst e; simp at hq; omega)
  · exact ⟨rfl, rfl, rfl, by simp [World.setCell], fun i hi hne => Below.heap_setCell w ⟨g, 1, none⟩ _ i (fun e => hne (by rw [e]))⟩
  · simp [World.setCell]

set_option maxHeartbeats 1000000 in
theorem pick_any (B g p : Nat) (n : Int) (w : World) (h : RdOk B w g p) (hp : p ≤ 100000) :
    Calls Tryd.prog 46 #[.pointer (some ⟨g, 0, none⟩), .int .i64 n] w (Picked B w g p n) := by
  have HS := hide (rd_step h)
  have HR := hide h
  obtain ⟨A, c, xs, h1, h2, h3, h4, h5⟩ := h
  have c0 : w.cell? ⟨g, 0, none⟩ = some (.slice A xs.length c) := h1.cell 0
  have c1 : w.cell? ⟨g, 1, none⟩ = some (.int .i64 p) := h1.cell 1
  have f1 := h1.frozen 1
  have HX := hide h4
  clear h1 h4
  by_cases hn : n < 1
  · go_enter Tryd.func46, Tryd.ntmps46
    go_wp2
    go_ret
    have := HS.out 0
    exact ⟨0, by omega, by omega, fun _ => rfl, rfl, this.1, this.2.1, this.2.2⟩
  · by_cases hl : xs.length = 0
    · have hl' : ((xs.length : Int) == 0) = true := by simp [hl]
      have HL := hide hl
      clear hl
      go_enter Tryd.func46, Tryd.ntmps46
      go_wp2
      go_ret
      have := HS.out 0
      exact ⟨0, by omega, by omega, fun _ => rfl, rfl, this.1, this.2.1, this.2.2⟩
    · have hl' : ((xs.length : Int) == 0) = false := by simp; intro h; simp [h] at hl
      have hl0 : 0 < xs.length := by omega
      have HL := hide hl
      clear hl
      by_cases hk : p < xs.length
      · obtain ⟨b, off, rfl, hb, hc⟩ := h5.byte p hk
        obtain ⟨u1, u2⟩ := byte_at HX.out p hk
        have hc' := (World.cell?_setCell_other w ⟨g, 1, none⟩ ⟨b, off + p, none⟩ (.int .i64 ((p : Int) + 1)) (fun e => by injection e; omega)).trans hc
        go_enter Tryd.func46, Tryd.ntmps46
        go_wp2
        go_ret
        have := HS.out 0
        exact ⟨at_ xs p % n, Int.emod_nonneg _ (by omega), fun _ => Int.emod_lt_of_pos _ (by omega), fun _ => by omega, rfl, this.1, this.2.1, this.2.2⟩
      · have l1 : p % xs.length < xs.length := Nat.mod_lt _ hl0
        have l2 : (p * 7 + 3) % xs.length < xs.length := Nat.mod_lt _ hl0
        have e1 : (p : Int).tmod (xs.length : Int) = ((p % xs.length : Nat) : Int) := by rw [Int.tmod_eq_emod_of_nonneg (by omega)]; rfl
        have e2 : ((p : Int) * 7 + 3).tmod (xs.length : Int) = (((p * 7 + 3) % xs.length : Nat) : Int) := by rw [Int.tmod_eq_emod_of_nonneg (by omega)]; rfl
        have e3 : (p : Int).tdiv (xs.length : Int) = ((p / xs.length : Nat) : Int) := by rw [Int.tdiv_eq_ediv_of_nonneg (by omega)]; rfl
        have l3 : p / xs.length ≤ p := Nat.div_le_self _ _
        generalize p % xs.length = q at *
        generalize (p * 7 + 3) % xs.length = r at *
        generalize p / xs.length = t at *
        obtain ⟨b, off, rfl, hb, hc⟩ := h5.byte q l1
        obtain ⟨b', off', hA, _, hd⟩ := h5.byte r l2
        simp at hA
        obtain ⟨rfl, rfl⟩ := hA
        obtain ⟨u1, u2⟩ := byte_at HX.out _ l1
        obtain ⟨v1, v2⟩ := byte_at HX.out _ l2
        have hc' := (World.cell?_setCell_other w ⟨g, 1, none⟩ ⟨b, off + q, none⟩ (.int .i64 ((p : Int) + 1)) (fun e => by injection e; omega)).trans hc
        have hd' := (World.cell?_setCell_other w ⟨g, 1, none⟩ ⟨b, off + r, none⟩ (.int .i64 ((p : Int) + 1)) (fun e => by injection e; omega)).trans hd
        clear hc hd
        have w1 : (1 : Int) ≤ xs.length := by omega
        have w2 : ¬ xs = [] := by intro h; simp [h] at hl0
        have w3 : (0 : Int) ≤ p := by omega
        have w4 : (q : Int) < xs.length := by omega
        have w5 : (r : Int) < xs.length := by omega
        have w6 : (0 : Int) ≤ q := by omega
        have w7 : (0 : Int) ≤ r := by omega
        go_enter Tryd.func46, Tryd.ntmps46
        go_wp2
        go_quiet (fail)
        go_wp2
        go_ret
        obtain ⟨x1, x2⟩ := xor_in (at_ xs q * 131 + at_ xs r * 1117 + p * 29 + t * 53) ((at_ xs q * 131 + at_ xs r * 1117 + p * 29 + t * 53) / 64) (by omega) (by omega)
        have := HS.out nq
        refine ⟨_, ?_, fun _ => ?_, fun _ => by omega, rfl, this.1, this.2.1, this.2.2⟩
        · rw [Int.tmod_eq_emod_of_nonneg x1]
          exact Int.emod_nonneg _ (by omega)
        · rw [Int.tmod_eq_emod_of_nonneg x1]
          exact Int.emod_lt_of_pos _ (by omega)

/-- A reader that has come at most as far as P. -/
def RdU (B : Nat) (w : World) (g P : Nat) : Prop := ∃ p, p ≤ P ∧ RdOk B w g p
theorem RdU.far {B g P : Nat} {w w' : World} (h : RdU B w g P) (hb : Below (g + 1) w w') : RdU B w' g P := by
  obtain ⟨p, hp, h⟩ := h
  exact ⟨p, hp, h.far hb⟩
theorem RdU.lt {B g P : Nat} {w : World} (h : RdU B w g P) : g < w.heap.size := by
  obtain ⟨p, hp, h⟩ := h
  exact h.lt
theorem RdU.le {B g P : Nat} {w : World} (h : RdU B w g P) : B ≤ g := by
  obtain ⟨p, hp, h⟩ := h
  exact h.le
theorem RdU.more {B g P Q : Nat} {w : World} (h : RdU B w g P) (hq : P ≤ Q) : RdU B w g Q := by
  obtain ⟨p, hp, h⟩ := h
  exact ⟨p, by omega, h⟩
/-- Only the reader in block g may have turned. -/
def Only (g : Nat) (w w' : World) : Prop := w.grownBy w' (some g) ∧ w'.heap.size = w.heap.size
theorem Only.below {g B : Nat} {w w' : World} (h : Only g w w') (hb : B ≤ g) : Below B w w' :=
  ⟨h.1.os, h.1.tape, h.1.output, h.1.size, fun k hk => by
    rcases Nat.lt_or_ge k w.heap.size with h1 | h1
    · exact h.1.block k h1 (fun e => by injection e; omega)
    · rw [Array.getElem?_eq_none h1, Array.getElem?_eq_none (by rw [h.2]; exact h1)]⟩
theorem Only.own {g base e size n : Nat} {v : Value} {cs : List Value} {w w' : World} (h : Only g w w') (ho : w.ownsRow base e size v n cs) (hg : g < base) : w'.ownsRow base e size v n cs :=
  ho.kept h.1 (by
    cases hv : v.ownBlock with
    | none => exact .inl rfl
    | some k => exact .inr fun he => by have := (ho.lt k hv).1; injection he; omega)

def PickP (B : Nat) (w : World) (g P : Nat) (n : Int) (e : Ending) (w' : World) : Prop :=
  ∃ v : Int, 0 ≤ v ∧ (1 ≤ n → v < n) ∧ (n < 1 → v = 0) ∧ e = .returned (.int .i64 v) ∧ RdU B w' g (P + 1) ∧ Only g w w'
theorem pick_u (B g P : Nat) (n : Int) (w : World) (h : RdU B w g P) (hp : P ≤ 100000) : Calls Tryd.prog 46 #[.pointer (some ⟨g, 0, none⟩), .int .i64 n] w (PickP B w g P n) := by
  obtain ⟨p, hpp, h⟩ := h
  exact (pick_any B g p n w h (by omega)).mono fun e w' ⟨v, h1, h2, h3, h4, h5, h6, h7⟩ => ⟨v, h1, h2, h3, h4, ⟨p + 1, by omega, h5⟩, h6, h7⟩

def OddP (B : Nat) (w : World) (g P : Nat) (e : Ending) (w' : World) : Prop := ∃ b : Bool, e = .returned (.bool b) ∧ RdU B w' g (P + 1) ∧ Only g w w'
theorem Only.refl (g : Nat) (w : World) : Only g w w := ⟨World.grownBy.refl _ _, rfl⟩
theorem Only.trans {g : Nat} {a b c : World} (h : Only g a b) (k : Only g b c) : Only g a c := ⟨h.1.trans k.1, k.2.trans h.2⟩

theorem odd_u (B g P : Nat) (n : Int) (w : World) (h : RdU B w g P) (hp : P ≤ 100000) (hn : n ≤ 1000000) : Calls Tryd.prog 47 #[.pointer (some ⟨g, 0, none⟩), .int .i64 n] w (OddP B w g P) := by
  by_cases h0 : 0 < n
  · go_enter Tryd.func47, Tryd.ntmps47
    go_wp2_with fail
    refine (pick_u B g P n w h hp).mono ?_
    rintro e w1 ⟨v, h1, h2, h3, rfl, h4, h5⟩
    have H4 := hide h4
    have H5 := hide h5
    clear h4 h5
    go_wp2_with fail
    all_goals
      go_ret
      exact ⟨_, rfl, H4.out, H5.out⟩
  · go_enter Tryd.func47, Tryd.ntmps47
    go_wp2_with fail
    go_ret
    exact ⟨_, rfl, h.more (by omega), Only.refl _ _⟩

end Go.Proofs.YtbebhbcjdiahcaaDoor
