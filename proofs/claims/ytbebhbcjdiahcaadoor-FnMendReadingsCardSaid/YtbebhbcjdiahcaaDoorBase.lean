/-
  What the texts of this seat share: slices that read as lists (nil let in), and how such readings are kept. Plain definitions and lemmas, no function of the program.
-/
import Derived.WalkKit
import Derived.Below
import Derived.Laws.OwnMore
import Derived.Deep.AppendLies
import Derived.Deep.Draws
import Derived.Lib.Hide
import Derived.WalkSmall
import Derived.Laws.MakeOwn
import Derived.Deep.OwnRows
namespace Go.Proofs.YtbebhbcjdiahcaaDoor
open Go.RowKit

/-- lo ≤ n ≤ hi, as a Bool that the walk leaves alone. -/
def inB (n lo hi : Int) : Bool := decide (lo ≤ n) && decide (n ≤ hi)
theorem inB_true {n lo hi : Int} (h : inB n lo hi = true) : lo ≤ n ∧ n ≤ hi := by simpa [inB] using h
theorem inB_mk {n lo hi : Int} (h1 : lo ≤ n) (h2 : n ≤ hi) : inB n lo hi = true := by simp [inB, h1, h2]
theorem inB_false {n lo hi : Int} (h : inB n lo hi = false) : n < lo ∨ hi < n := by
  simp [inB] at h
  omega
theorem inB_no {n lo hi : Int} (h : n < lo ∨ hi < n) : inB n lo hi = false := by
  simp [inB]
  omega

theorem hide {p : Prop} (h : p) : Hid p := h
theorem vint {a b : Int} (h : a = b) : Value.int .i64 a = Value.int .i64 b := by rw [h]
theorem ret_int {k : IntKind} {a b : Int} (h : a = b) : Ending.returned (.int k a) = .returned (.int k b) := by rw [h]
theorem ret_bool {a b : Bool} (h : a = b) : Ending.returned (.bool a) = .returned (.bool b) := by rw [h]

/-- The element at a place, 0 where there is none: the walk leaves it alone. -/
def at_ (xs : List Int) (k : Nat) : Int := xs.getD k 0
theorem at_eq (xs : List Int) (k : Nat) (h : k < xs.length) : at_ xs k = xs[k] := by simp [at_, h]
theorem at_some (xs : List Int) (k : Nat) (h : k < xs.length) : xs[k]? = some (at_ xs k) := by simp [at_, h]

def encI (xs : List Int) : List Value := xs.map (Value.int .i64)
def encB (xs : List Bool) : List Value := xs.map Value.bool
def enc2 (xs : List (Int × Int)) : List Value := xs.flatMap fun p => [.int .i64 p.1, .int .i64 p.2]
def enc3 (xs : List (Int × Int × Int)) : List Value := xs.flatMap fun p => [.int .i64 p.1, .int .i64 p.2.1, .int .i64 p.2.2]

/-- A slice (its address A, its length n) whose cells read as cs, in a block below B. -/
def Sl (w : World) (B size : Nat) (A : Option Addr) (n : Nat) (cs : List Value) : Prop :=
  cs.length = n * size ∧ (0 < n → ∃ b off, A = some ⟨b, off, none⟩ ∧ b < B ∧ ∀ j u, cs[j]? = some u → w.cell? ⟨b, off + j, none⟩ = some u)

section
variable {w w' : World} {B B' size n : Nat} {A : Option Addr} {cs : List Value}
theorem Sl.keep (h : Sl w B size A n cs) (hk : ∀ p : Addr, p.block < B → w'.cell? p = w.cell? p) : Sl w' B size A n cs :=
  ⟨h.1, fun hn => by
    obtain ⟨b, off, e, hb, hc⟩ := h.2 hn
    exact ⟨b, off, e, hb, fun j u hu => (hk _ hb).trans (hc j u hu)⟩⟩
theorem Sl.more (h : Sl w B size A n cs) (hB : B ≤ B') : Sl w B' size A n cs :=
  ⟨h.1, fun hn => by
    obtain ⟨b, off, e, hb, hc⟩ := h.2 hn
    exact ⟨b, off, e, by omega, hc⟩⟩
theorem Sl.below (h : Sl w B size A n cs) (hb : Below B w w') : Sl w' B size A n cs := h.keep fun _ hp => hb.cell hp
theorem Sl.to (h : Sl w w.heap.size size A n cs) (hb : Below w.heap.size w w') : Sl w' w'.heap.size size A n cs := (h.below hb).more hb.size
end

/-! ### what the cells of a list are -/
theorem encI_len (xs : List Int) : (encI xs).length = xs.length := by simp [encI]
theorem encB_len (xs : List Bool) : (encB xs).length = xs.length := by simp [encB]
theorem enc2_len (xs : List (Int × Int)) : (enc2 xs).length = xs.length * 2 := by
  induction xs with
  | nil => rfl
  | cons p t ih => simp only [enc2, List.flatMap_cons, List.length_append, List.length_cons, List.length_nil] at ih ⊢; omega
theorem enc3_len (xs : List (Int × Int × Int)) : (enc3 xs).length = xs.length * 3 := by
  induction xs with
  | nil => rfl
  | cons p t ih => simp only [enc3, List.flatMap_cons, List.length_append, List.length_cons, List.length_nil] at ih ⊢; omega
theorem encI_at (xs : List Int) (k : Nat) (h : k < xs.length) : (encI xs)[k]? = some (.int .i64 (at_ xs k)) := by simp [encI, at_, h]
/-- The element at a place of a list of pairs or triples: the walk leaves it alone. -/
def at2 (xs : List (Int × Int)) (k : Nat) : Int × Int := xs.getD k (0, 0)
def at3 (xs : List (Int × Int × Int)) (k : Nat) : Int × Int × Int := xs.getD k (0, 0, 0)
def atB (xs : List Bool) (k : Nat) : Bool := xs.getD k false
theorem at2_eq (xs : List (Int × Int)) (k : Nat) (h : k < xs.length) : at2 xs k = xs[k] := by simp [at2, h]
theorem at3_eq (xs : List (Int × Int × Int)) (k : Nat) (h : k < xs.length) : at3 xs k = xs[k] := by simp [at3, h]
theorem atB_eq (xs : List Bool) (k : Nat) (h : k < xs.length) : atB xs k = xs[k] := by simp [atB, h]
theorem encB_at (xs : List Bool) (k : Nat) (h : k < xs.length) : (encB xs)[k]? = some (.bool (atB xs k)) := by simp [encB, atB, h]
theorem enc2_at0 (xs : List (Int × Int)) (k : Nat) (h : k < xs.length) : (enc2 xs)[k * 2]? = some (.int .i64 (at2 xs k).1) := by
  induction xs generalizing k with
  | nil => simp at h
  | cons p t ih =>
    cases k with
    | zero => simp [enc2, at2]
    | succ k =>
      have := ih k (by simpa using h)
      rw [show (k + 1) * 2 = k * 2 + 2 from by omega]
      simpa [enc2, at2] using this
theorem enc2_at1 (xs : List (Int × Int)) (k : Nat) (h : k < xs.length) : (enc2 xs)[k * 2 + 1]? = some (.int .i64 (at2 xs k).2) := by
  induction xs generalizing k with
  | nil => simp at h
  | cons p t ih =>
    cases k with
    | zero => simp [enc2, at2]
    | succ k =>
      have := ih k (by simpa using h)
      rw [show (k + 1) * 2 + 1 = k * 2 + 1 + 2 from by omega]
      simpa [enc2, at2] using this
theorem enc3_at0 (xs : List (Int × Int × Int)) (k : Nat) (h : k < xs.length) : (enc3 xs)[k * 3]? = some (.int .i64 (at3 xs k).1) := by
  induction xs generalizing k with
  | nil => simp at h
  | cons p t ih =>
    cases k with
    | zero => simp [enc3, at3]
    | succ k =>
      have := ih k (by simpa using h)
      rw [show (k + 1) * 3 = k * 3 + 3 from by omega]
      simpa [enc3, at3] using this
theorem enc3_at1 (xs : List (Int × Int × Int)) (k : Nat) (h : k < xs.length) : (enc3 xs)[k * 3 + 1]? = some (.int .i64 (at3 xs k).2.1) := by
  induction xs generalizing k with
  | nil => simp at h
  | cons p t ih =>
    cases k with
    | zero => simp [enc3, at3]
    | succ k =>
      have := ih k (by simpa using h)
      rw [show (k + 1) * 3 + 1 = k * 3 + 1 + 3 from by omega]
      simpa [enc3, at3] using this
theorem enc3_at2 (xs : List (Int × Int × Int)) (k : Nat) (h : k < xs.length) : (enc3 xs)[k * 3 + 2]? = some (.int .i64 (at3 xs k).2.2) := by
  induction xs generalizing k with
  | nil => simp at h
  | cons p t ih =>
    cases k with
    | zero => simp [enc3, at3]
    | succ k =>
      have := ih k (by simpa using h)
      rw [show (k + 1) * 3 + 2 = k * 3 + 2 + 3 from by omega]
      simpa [enc3, at3] using this

section
variable {w : World} {B : Nat} {A : Option Addr}
theorem Sl.int {xs : List Int} (h : Sl w B 1 A xs.length (encI xs)) (k : Nat) (hk : k < xs.length) :
    ∃ b off, A = some ⟨b, off, none⟩ ∧ b < B ∧ w.cell? ⟨b, off + k, none⟩ = some (.int .i64 (at_ xs k)) := by
  obtain ⟨b, off, e, hb, hc⟩ := h.2 (by omega)
  exact ⟨b, off, e, hb, hc k _ (encI_at xs k hk)⟩
theorem Sl.bool {xs : List Bool} (h : Sl w B 1 A xs.length (encB xs)) (k : Nat) (hk : k < xs.length) :
    ∃ b off, A = some ⟨b, off, none⟩ ∧ b < B ∧ w.cell? ⟨b, off + k, none⟩ = some (.bool (atB xs k)) := by
  obtain ⟨b, off, e, hb, hc⟩ := h.2 (by omega)
  exact ⟨b, off, e, hb, hc k _ (encB_at xs k hk)⟩
theorem Sl.two {xs : List (Int × Int)} (h : Sl w B 2 A xs.length (enc2 xs)) (k : Nat) (hk : k < xs.length) :
    ∃ b off, A = some ⟨b, off, none⟩ ∧ b < B ∧ w.cell? ⟨b, off + k * 2, none⟩ = some (.int .i64 (at2 xs k).1) ∧ w.cell? ⟨b, off + k * 2 + 1, none⟩ = some (.int .i64 (at2 xs k).2) := by
  obtain ⟨b, off, e, hb, hc⟩ := h.2 (by omega)
  exact ⟨b, off, e, hb, hc _ _ (enc2_at0 xs k hk), hc _ _ (enc2_at1 xs k hk)⟩
theorem Sl.three {xs : List (Int × Int × Int)} (h : Sl w B 3 A xs.length (enc3 xs)) (k : Nat) (hk : k < xs.length) :
    ∃ b off, A = some ⟨b, off, none⟩ ∧ b < B ∧ w.cell? ⟨b, off + k * 3, none⟩ = some (.int .i64 (at3 xs k).1) ∧ w.cell? ⟨b, off + k * 3 + 1, none⟩ = some (.int .i64 (at3 xs k).2.1) ∧ w.cell? ⟨b, off + k * 3 + 2, none⟩ = some (.int .i64 (at3 xs k).2.2) := by
  obtain ⟨b, off, e, hb, hc⟩ := h.2 (by omega)
  exact ⟨b, off, e, hb, hc _ _ (enc3_at0 xs k hk), hc _ _ (enc3_at1 xs k hk), hc _ _ (enc3_at2 xs k hk)⟩
end

/-! ### a row that is made and then filled from its head on -/
/-- m zero numbers: the walk leaves it alone. -/
def zrow (m : Nat) : Array Value := Array.replicate m (.int .i64 0)
theorem madeCells_zero (size m : Nat) (hs : 0 < size) : madeCells (Array.replicate size (.int .i64 0)) m = zrow m := by
  apply Array.ext
  · simp [madeCells, zrow]
  · intro i h1 h2
    simp only [madeCells, Array.getElem_map, zrow, Array.getElem_replicate, Array.size_replicate, Array.getElem_range]
    have : i % size < size := Nat.mod_lt _ hs
    simp [this]
theorem run_make_z {P : Program} (t e : TypeId) (z : Value) (size bytes : Nat) (ht : P.underlying t = some (.slice e)) (hinfo : (P.info? e).map (fun i => (i.zero, i.size, i.bytes)) = some (some z, size, bytes))
    (hz : z.cells = Array.replicate size (.int .i64 0)) (hs : 0 < size) (n c : Nat) (hnc : n ≤ c) (hbytes : bytes * c ≤ 281474976710656) (h63 : c ≤ 9223372036854775807) (w : World) :
    (Instr.makeSlice t (.int .i64 (n : Int)) (.int .i64 (c : Int))).run P w = .ok (.slice (some ⟨w.heap.size, 0, none⟩) n c) (w.alloc (.cells (zrow (c * size)) e)) := by
  obtain ⟨i, hi, hzz⟩ := Option.map_eq_some_iff.1 hinfo
  simp only [Prod.mk.injEq] at hzz
  obtain ⟨hzo, rfl, rfl⟩ := hzz
  have hb' : (i.bytes : Int) * (c : Int) ≤ 281474976710656 := by
    have h : ((i.bytes * c : Nat) : Int) ≤ 281474976710656 := by omega
    rwa [Int.natCast_mul] at h
  have hr := run_make (P := P) w t e i z ht hi hzo .i64 .i64 n c (by omega) (by omega) hb' (by omega)
  simp only [Int.toNat_natCast, hz] at hr
  rw [madeCells_zero _ _ hs] at hr
  exact hr
/-- The first k cells of cs, then zeros. -/
def part (cs : List Value) (k : Nat) : List Value := cs.take k ++ List.replicate (cs.length - k) (.int .i64 0)
theorem part_len (cs : List Value) (k : Nat) (hk : k ≤ cs.length) : (part cs k).length = cs.length := by simp [part]; omega
theorem part_zero (cs : List Value) : part cs 0 = (zrow cs.length).toList := by simp [part, zrow]
theorem part_all (cs : List Value) (k : Nat) (hk : cs.length ≤ k) : part cs k = cs := by simp [part, List.take_of_length_le hk, Nat.sub_eq_zero_of_le hk]
theorem part_set (cs : List Value) (k : Nat) (u : Value) (h : cs[k]? = some u) : (part cs k).set k u = part cs (k + 1) := by
  have hk : k < cs.length := by
    rcases Nat.lt_or_ge k cs.length with h1 | h1
    · exact h1
    · rw [List.getElem?_eq_none h1] at h; cases h
  have hu : cs[k] = u := by rw [List.getElem?_eq_getElem hk] at h; exact Option.some.inj h
  unfold part
  rw [List.set_append]
  have hl : (cs.take k).length = k := by simp; omega
  rw [hl, if_neg (by omega), Nat.sub_self, List.take_succ_eq_append_getElem hk, hu, List.append_assoc]
  congr 1
  rw [show cs.length - k = (cs.length - (k + 1)) + 1 from by omega, List.replicate_succ]
  rfl
theorem own_made {w : World} {e : TypeId} {size n : Nat} {cs : List Value} (hl : cs.length = n * size) (hm : n ≤ maxLen) :
    (w.alloc (.cells (zrow (n * size)) e)).ownsRow w.heap.size e size (.slice (some ⟨w.heap.size, 0, none⟩) n n) n (part cs 0) := by
  rw [part_zero, hl]
  exact World.ownsRow_lit w _ n (Nat.le_refl _) hm (by simp [zrow])
theorem Sl.of_own {w : World} {base : Nat} {e : TypeId} {size n c : Nat} {A : Option Addr} {cs : List Value} (h : w.ownsRow base e size (.slice A n c) n cs) : Sl w w.heap.size size A n cs := by
  refine ⟨h.1, fun hn => ?_⟩
  obtain ⟨g, cap, hv, _, hlt⟩ := h.form hn
  have hA : A = some ⟨g, 0, none⟩ := by injection hv
  subst hA
  refine ⟨g, 0, rfl, hlt, fun j u hu => ?_⟩
  have := h.cells (g := g) rfl j u hu
  unfold Addr.add at this
  by_cases hj : j = 0
  · subst hj; simpa using this
  · simpa [hj] using this
/-- A slice of the call's own, as a value: of every later world it can be read, and while nobody writes there it stays. -/
theorem own_slice {w : World} {base : Nat} {e : TypeId} {size n : Nat} {v : Value} {cs : List Value} (h : w.ownsRow base e size v n cs) : ∃ A c, v = .slice A n c ∧ n ≤ c ∧ c ≤ maxLen := by
  rcases h.2 with ⟨rfl, rfl⟩ | ⟨g, cap, cur, rfl, _, _, h1, h2, _⟩
  · exact ⟨none, 0, rfl, Nat.le_refl _, Nat.zero_le _⟩
  · exact ⟨_, _, rfl, h1, h2⟩

/-! ### two lists held against each other -/
theorem same_of_at {xs ys : List Int} (hl : xs.length = ys.length) (h : ∀ j, j < xs.length → at_ xs j = at_ ys j) : xs = ys :=
  List.ext_getElem hl fun j h1 h2 => by have := h j h1; rwa [at_eq _ _ h1, at_eq _ _ h2] at this
/-- Two lists of numbers that are held against each other. -/
def eqI (xs ys : List Int) : Bool := xs == ys
theorem eqI_ne_at {xs ys : List Int} (k : Nat) (h : at_ xs k ≠ at_ ys k) : eqI xs ys = false := by
  simp [eqI]; rintro rfl; exact h rfl
theorem eqI_self (xs : List Int) : eqI xs xs = true := by simp [eqI]
theorem same_of_at2 {xs ys : List (Int × Int)} (hl : xs.length = ys.length) (h : ∀ j, j < xs.length → at2 xs j = at2 ys j) : xs = ys :=
  List.ext_getElem hl fun j h1 h2 => by have := h j h1; rwa [at2_eq _ _ h1, at2_eq _ _ h2] at this
def eq2 (xs ys : List (Int × Int)) : Bool := xs == ys
theorem eq2_ne_at {xs ys : List (Int × Int)} (k : Nat) (h : at2 xs k ≠ at2 ys k) : eq2 xs ys = false := by
  simp [eq2]; rintro rfl; exact h rfl
theorem eq2_self (xs : List (Int × Int)) : eq2 xs xs = true := by simp [eq2]
theorem same_of_at3 {xs ys : List (Int × Int × Int)} (hl : xs.length = ys.length) (h : ∀ j, j < xs.length → at3 xs j = at3 ys j) : xs = ys :=
  List.ext_getElem hl fun j h1 h2 => by have := h j h1; rwa [at3_eq _ _ h1, at3_eq _ _ h2] at this
def eq3 (xs ys : List (Int × Int × Int)) : Bool := xs == ys
theorem eq3_ne_at {xs ys : List (Int × Int × Int)} (k : Nat) (h : at3 xs k ≠ at3 ys k) : eq3 xs ys = false := by
  simp [eq3]; rintro rfl; exact h rfl
theorem eq3_self (xs : List (Int × Int × Int)) : eq3 xs xs = true := by simp [eq3]
theorem same_of_atB {xs ys : List Bool} (hl : xs.length = ys.length) (h : ∀ j, j < xs.length → atB xs j = atB ys j) : xs = ys :=
  List.ext_getElem hl fun j h1 h2 => by have := h j h1; rwa [atB_eq _ _ h1, atB_eq _ _ h2] at this
def eqB (xs ys : List Bool) : Bool := xs == ys
theorem eqB_ne_at {xs ys : List Bool} (k : Nat) (h : atB xs k ≠ atB ys k) : eqB xs ys = false := by
  simp [eqB]; rintro rfl; exact h rfl
theorem eqB_self (xs : List Bool) : eqB xs xs = true := by simp [eqB]

/-! ### 'all elements are so', as far as a loop has come -/
theorem all_take {α : Type} (p : α → Bool) (xs : List α) (k : Nat) (hk : k < xs.length) (h : (xs.take k).all p = true) (hp : p xs[k] = true) : (xs.take (k+1)).all p = true := by
  rw [List.take_succ_eq_append_getElem hk, List.all_append, h]
  simp [hp]
theorem all_no {α : Type} (p : α → Bool) (xs : List α) (k : Nat) (hk : k < xs.length) (h : p xs[k] = false) : xs.all p = false := by
  rw [List.all_eq_false]
  exact ⟨xs[k], List.getElem_mem hk, by simp [h]⟩
theorem all_end {α : Type} (p : α → Bool) (xs : List α) (k : Nat) (hk : xs.length ≤ k) (h : (xs.take k).all p = true) : xs.all p = true := by
  rwa [List.take_of_length_le hk] at h

/-- All old cells and all old marks read as before: two rules for the walk. -/
theorem bcell {W w1 : World} (hb : Below W.heap.size W w1) : (∀ b o, b < W.heap.size → w1.cell? ⟨b, o, none⟩ = W.cell? ⟨b, o, none⟩) ∧ (∀ b o, b < W.heap.size → w1.frozen? ⟨b, o, none⟩ = W.frozen? ⟨b, o, none⟩) :=
  ⟨fun b o h => hb.cell (p := ⟨b, o, none⟩) h, fun b o h => hb.frozen (p := ⟨b, o, none⟩) h⟩

/-! ### a block that is known whole -/
def Blk (w : World) (g : Nat) (t : TypeId) (cs : Array Value) : Prop := w.heap[g]? = some (.cells cs t (0, 0))
section
variable {w w' : World} {g : Nat} {t : TypeId} {cs : Array Value}
theorem Blk.lt (h : Blk w g t cs) : g < w.heap.size := by
  rcases Nat.lt_or_ge g w.heap.size with hlt | hge
  · exact hlt
  · unfold Blk at h; rw [Array.getElem?_eq_none hge] at h; cases h
theorem Blk.cell (h : Blk w g t cs) (i : Nat) : w.cell? ⟨g, i, none⟩ = cs[i]? := cell_of_row w g i cs t (0, 0) h
theorem Blk.frozen (h : Blk w g t cs) (i : Nat) : w.frozen? ⟨g, i, none⟩ = false := by
  unfold Blk at h
  simp [World.frozen?, h]
theorem Blk.new (w : World) (t : TypeId) (cs : Array Value) : Blk (w.alloc (.cells cs t)) w.heap.size t cs := heap_alloc_new w _
theorem Blk.drewN (h : Blk w g t cs) (n : Nat) : Blk (w.drewN n) g t cs := h
theorem Blk.alloc (h : Blk w g t cs) (o : Obj) : Blk (w.alloc o) g t cs := (Below.heap_alloc w o g h.lt).trans h
theorem Blk.set_ (h : Blk w g t cs) (i : Nat) (u : Value) : Blk (w.setCell ⟨g, i, none⟩ u) g t (cs.setIfInBounds i u) := by
  unfold Blk at h ⊢
  simp [World.setCell, Array.getElem?_modify, h]
theorem Blk.far (h : Blk w g t cs) {p : Addr} (hp : g ≠ p.block) (u : Value) : Blk (w.setCell p u) g t cs := (Below.heap_setCell w p u g hp).trans h
theorem Blk.below {B : Nat} (h : Blk w g t cs) (hb : Below B w w') (hg : g < B) : Blk w' g t cs := (hb.block g hg).trans h
theorem Blk.to (h : Blk w g t cs) (hb : Below w.heap.size w w') : Blk w' g t cs := h.below hb h.lt
theorem Blk.grown {row : Option Nat} (h : Blk w g t cs) (hb : w.grownBy w' row) (hg : some g ≠ row) : Blk w' g t cs := (hb.block g h.lt hg).trans h
theorem Blk.two {a b : Value} (h : Blk w g t #[a, b]) : w.cell? ⟨g, 0, none⟩ = some a ∧ w.cell? ⟨g, 1, none⟩ = some b := ⟨h.cell 0, h.cell 1⟩
theorem Blk.three {a b c : Value} (h : Blk w g t #[a, b, c]) : w.cell? ⟨g, 0, none⟩ = some a ∧ w.cell? ⟨g, 1, none⟩ = some b ∧ w.cell? ⟨g, 2, none⟩ = some c := ⟨h.cell 0, h.cell 1, h.cell 2⟩
end

theorem cell_lt {w : World} {a : Addr} {v : Value} (h : w.cell? a = some v) : a.block < w.heap.size := by
  rcases Nat.lt_or_ge a.block w.heap.size with h1 | h1
  · exact h1
  · exfalso
    unfold World.cell? at h
    rw [Array.getElem?_eq_none h1] at h
    simp at h
/-- A cell that was there reads as before. -/
theorem cellk {W w1 : World} (hb : Below W.heap.size W w1) {a : Addr} {v : Value} (h : W.cell? a = some v) : w1.cell? a = some v := (hb.cell (cell_lt h)).trans h

/-- A row of the call's own stays, while nothing that was there is written. -/
theorem _root_.Go.World.ownsRow.keepB {w w' : World} {base e size n : Nat} {v : Value} {cs : List Value} (h : w.ownsRow base e size v n cs) (hb : Below w.heap.size w w') : w'.ownsRow base e size v n cs := by
  obtain ⟨h1, h2⟩ := h
  refine ⟨h1, ?_⟩
  rcases h2 with h2 | ⟨g, cap, cur, hv, hg, hh, r⟩
  · exact Or.inl h2
  · refine Or.inr ⟨g, cap, cur, hv, hg, ?_, r⟩
    rw [hb.block g (Blk.lt (w := w) (t := e) (cs := cur) hh)]
    exact hh

/-! ### quiet calls, behind whatever draws -/
theorem quiet_left {P : Program} {f : FuncId} {args : Array Value} {w : World} {n : Nat} {v : Value}
    (h : Calls P f args (w.drewN n) fun e w' => e = .returned v ∧ w.drewN n = w') : Calls P f args (w.drewN n) fun e w'' => e = .returned v ∧ ∃ m, w'' = w.drewN m :=
  h.mono fun _ _ ⟨he, hm⟩ => ⟨he, n, hm.symm⟩
theorem quiet_add_left {P : Program} {f : FuncId} {args : Array Value} {w : World} {a n : Nat} {v : Value}
    (h : Calls P f args (w.drewN (a + n)) fun e w' => e = .returned v ∧ w.drewN (a + n) = w') :
    Calls P f args (w.drewN (a + n)) fun e w'' => e = .returned v ∧ ∃ m, w'' = w.drewN (a + m) :=
  h.mono fun _ _ ⟨he, hm⟩ => ⟨he, n, hm.symm⟩

theorem _root_.Go.RowKit.Below.then {a b c : World} (h : Below a.heap.size a b) (k : Below b.heap.size b c) : Below a.heap.size a c := h.trans (k.mono h.size)

theorem own_mono {w : World} {base base' e size n : Nat} {v : Value} {cs : List Value} (h : w.ownsRow base e size v n cs) (hb : base' ≤ base) : w.ownsRow base' e size v n cs := by
  obtain ⟨h1, h2⟩ := h
  refine ⟨h1, ?_⟩
  rcases h2 with h2 | ⟨g, cap, cur, hv, hg, r⟩
  · exact Or.inl h2
  · exact Or.inr ⟨g, cap, cur, hv, Nat.le_trans hb hg, r⟩

/-! ### whether a list has a number, and where -/
def hasB (xs : List Int) (x : Int) : Bool := decide (x ∈ xs)
theorem hasB_yes {xs : List Int} {x : Int} (k : Nat) (hk : k < xs.length) (h : at_ xs k = x) : hasB xs x = true := by
  apply decide_eq_true
  rw [← h, at_eq xs k hk]
  exact List.getElem_mem hk
theorem hasB_no {xs : List Int} {x : Int} (h : ∀ j, j < xs.length → at_ xs j ≠ x) : hasB xs x = false := by
  apply decide_eq_false
  intro hm
  obtain ⟨j, hj, rfl⟩ := List.getElem_of_mem hm
  exact h j hj (at_eq xs j hj)
theorem mem_at {xs : List Int} (k : Nat) (hk : k < xs.length) : at_ xs k ∈ xs := by rw [at_eq xs k hk]; exact List.getElem_mem hk
/-- The first place of a number, -1 if there is none. -/
def idxF (xs : List Int) (x : Int) : Int := match xs with
  | [] => -1
  | a :: t => if a = x then 0 else if idxF t x < 0 then -1 else idxF t x + 1
theorem idxF_ge (xs : List Int) (x : Int) : -1 ≤ idxF xs x := by
  induction xs with
  | nil => simp [idxF]
  | cons a t ih =>
    unfold idxF
    split
    · omega
    · split <;> omega
theorem idxF_none {xs : List Int} {x : Int} (h : ∀ j, j < xs.length → at_ xs j ≠ x) : idxF xs x = -1 := by
  induction xs with
  | nil => rfl
  | cons a t ih =>
    have h0 := h 0 (by simp)
    have ht := ih (fun j hj => by have := h (j + 1) (by simpa using hj); simpa [at_] using this)
    unfold idxF
    rw [if_neg (by simpa [at_] using h0), if_pos (by omega)]
theorem idxF_at {xs : List Int} {x : Int} (k : Nat) (hk : k < xs.length) (he : at_ xs k = x) (h : ∀ j, j < k → at_ xs j ≠ x) : idxF xs x = k := by
  induction xs generalizing k with
  | nil => simp at hk
  | cons a t ih =>
    cases k with
    | zero =>
      unfold idxF
      rw [if_pos (by simpa [at_] using he)]
      rfl
    | succ k =>
      have h0 := h 0 (by omega)
      have ht := ih k (by simpa using hk) (by simpa [at_] using he) (fun j hj => by have := h (j + 1) (by omega); simpa [at_] using this)
      unfold idxF
      rw [if_neg (by simpa [at_] using h0), if_neg (by omega), ht]
      omega
theorem idxF_has (xs : List Int) (x : Int) : (idxF xs x < 0 ∧ hasB xs x = false) ∨ (0 ≤ idxF xs x ∧ hasB xs x = true) := by
  induction xs with
  | nil => left; simp [idxF, hasB]
  | cons a t ih =>
    unfold idxF
    by_cases h : a = x
    · right
      rw [if_pos h]
      exact ⟨by omega, by simp [hasB, h]⟩
    · rw [if_neg h]
      have hh : hasB (a :: t) x = hasB t x := by
        unfold hasB
        rw [decide_eq_decide]
        simp [Ne.symm h]
      rw [hh]
      rcases ih with ⟨h1, h2⟩ | ⟨h1, h2⟩
      · left
        rw [if_pos h1]
        exact ⟨by omega, h2⟩
      · right
        rw [if_neg (by omega)]
        exact ⟨by omega, h2⟩
theorem Sl.take {w : World} {B : Nat} {A : Option Addr} {xs : List Int} (h : Sl w B 1 A xs.length (encI xs)) (k : Nat) (hk : k ≤ xs.length) : Sl w B 1 A (xs.take k).length (encI (xs.take k)) := by
  refine ⟨by simp [encI], fun hn => ?_⟩
  have hl : (xs.take k).length = k := by simp; omega
  obtain ⟨b, off, e, hb, hc⟩ := h.2 (by omega)
  refine ⟨b, off, e, hb, fun j u hu => hc j u ?_⟩
  have hj : j < k := by
    have := (List.getElem?_eq_some_iff.1 hu).1
    rw [encI_len, hl] at this
    exact this
  rw [← hu]
  simp [encI, hj]
theorem at_take (xs : List Int) (k j : Nat) (h : j < k) : at_ (xs.take k) j = at_ xs j := by
  simp [at_, h]

theorem own_ne {wA wB : World} {b1 b2 e1 e2 s1 s2 n1 n2 : Nat} {v1 v2 : Value} {c1 c2 : List Value} (h1 : wA.ownsRow b1 e1 s1 v1 n1 c1) (h2 : wB.ownsRow b2 e2 s2 v2 n2 c2) (h : wA.heap.size ≤ b2) : v1.ownBlock = none ∨ v1.ownBlock ≠ v2.ownBlock := by
  cases hv : v1.ownBlock with
  | none => exact .inl rfl
  | some g =>
    refine .inr fun he => ?_
    have := (h1.lt g hv).2
    have := (h2.lt g he.symm).1
    omega
theorem own_ne' {wA wB : World} {b1 b2 e1 e2 s1 s2 n1 n2 : Nat} {v1 v2 : Value} {c1 c2 : List Value} (h1 : wA.ownsRow b1 e1 s1 v1 n1 c1) (h2 : wB.ownsRow b2 e2 s2 v2 n2 c2) (h : wA.heap.size ≤ b2) : v2.ownBlock = none ∨ v2.ownBlock ≠ v1.ownBlock := by
  cases hv : v2.ownBlock with
  | none => exact .inl rfl
  | some g =>
    refine .inr fun he => ?_
    have := (h2.lt g hv).1
    have := (h1.lt g he.symm).2
    omega

/-! ### bytes -/
def encU (xs : List Int) : List Value := xs.map (Value.int .u8)
theorem encU_len (xs : List Int) : (encU xs).length = xs.length := by simp [encU]
theorem encU_at (xs : List Int) (k : Nat) (h : k < xs.length) : (encU xs)[k]? = some (.int .u8 (at_ xs k)) := by simp [encU, at_, h]
theorem Sl.byte {w : World} {B : Nat} {A : Option Addr} {xs : List Int} (h : Sl w B 1 A xs.length (encU xs)) (k : Nat) (hk : k < xs.length) :
    ∃ b off, A = some ⟨b, off, none⟩ ∧ b < B ∧ w.cell? ⟨b, off + k, none⟩ = some (.int .u8 (at_ xs k)) := by
  obtain ⟨b, off, e, hb, hc⟩ := h.2 (by omega)
  exact ⟨b, off, e, hb, hc k _ (encU_at xs k hk)⟩

end Go.Proofs.YtbebhbcjdiahcaaDoor
