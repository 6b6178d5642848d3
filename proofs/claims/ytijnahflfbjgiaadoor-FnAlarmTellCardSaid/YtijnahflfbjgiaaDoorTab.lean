/-
  The table of the states of alarms, a variable of the package: how it is read, and that it stays.
-/
import Derived.Test.YtijnahflfbjgiaaDoorRows
import Derived.Test.YtijnahflfbjgiaaDoorBase
import Derived.ChangeSame
import Derived.ChangeVars
import Derived.LaidMore
import Derived.LaidHandle
namespace Go.Proofs.YtijnahflfbjgiaaDoor
open Go.ChangeShapes Go.WideShapes Go.RowKit
set_option linter.unusedVariables false

def stCells : Array Value := #[.int .i64 1, .int .i64 0, .int .i64 0, .int .i64 1, .int .i64 3, .int .i64 2, .int .i64 2, .int .i64 0, .int .i64 2, .int .i64 1, .int .i64 3, .int .i64 0]
/-- The table is as the program's text lays it. -/
def Tab (w : World) : Prop := w.var? Tryd.prog "loop.example/powercontrol/impl.alarmStates" = some stCells
theorem tabName : Tryd.prog.globalNamed "loop.example/powercontrol/impl.alarmStates" = some 0 := by kernel_rfl
theorem Tab.cell {w : World} (h : Tab w) (i : Nat) (v : Value) (hv : stCells[i]? = some v) : w.cell? ⟨0, i, none⟩ = some v := (World.var?_cell tabName h i).trans hv
theorem Tab.block {w w' : World} (h : Tab w) (hb : w'.heap[0]? = w.heap[0]?) : Tab w' := by
  unfold Tab World.var? at h ⊢
  rw [tabName] at h ⊢
  simp only [Option.bind_some] at h ⊢
  rw [hb]
  exact h
theorem Tab.lt {w : World} (h : Tab w) : 0 < w.heap.size := cell_lt (h.cell 0 _ rfl)
theorem Tab.to {w w' : World} (h : Tab w) (hb : Below w.heap.size w w') : Tab w' := h.block (hb.block _ h.lt)
theorem Tab.drewN {w : World} (h : Tab w) (n : Nat) : Tab (w.drewN n) := h

theorem int_of_trod {H : Type} {enc : TypeId × Value → H} {P : Program} {w : World} {base : Nat} {sp : Nat → Bool} {held : Bool} {fuel : Nat} {t : TypeId} {k : IntKind} {c : Value} {y : DataW H × List MemPlace}
    (ht : P.underlying t = some (.int k)) (h : DataW.trod enc P w base sp held fuel t [c] = some y) : ∃ n, c = .int k n ∧ y = (.lit (.int k n), []) := by
  cases fuel with
  | zero => simp [DataW.trod] at h
  | succ fuel =>
    cases c <;> simp [DataW.trod, ht] at h
    rename_i k' n
    obtain ⟨⟨rfl, _⟩, rfl⟩ := h
    exact ⟨n, rfl, rfl⟩

theorem cellsRow : Tryd.prog.cellsOf 78 = 3 := by kernel_rfl
theorem cellsTab : Tryd.prog.cellsOf 79 = 12 := by kernel_rfl
theorem cellsInt : Tryd.prog.cellsOf 3 = 1 := by kernel_rfl
theorem tabType : (Tryd.prog.globals[0]?).map (·.type) = some 79 := by kernel_rfl
theorem arr3_of_trod {H : Type} {enc : TypeId × Value → H} {w : World} {base : Nat} {sp : Nat → Bool} {held : Bool} {fuel : Nat} {c0 c1 c2 : Value} {y : DataW H × List MemPlace}
    (h : DataW.trod enc Tryd.prog w base sp held fuel 78 [c0, c1, c2] = some y) : ∃ n0 n1 n2, c0 = .int .i64 n0 ∧ c1 = .int .i64 n1 ∧ c2 = .int .i64 n2 ∧ y = (.agg [.lit (.int .i64 n0), .lit (.int .i64 n1), .lit (.int .i64 n2)], []) := by
  cases fuel with
  | zero => simp [DataW.trod] at h
  | succ fuel =>
    simp only [DataW.trod, Tryd.underlying78, cellsRow, cellsInt] at h
    have e : List.range 3 = [0, 1, 2] := rfl
    rw [e] at h
    simp only [List.length_cons, List.length_nil, if_true, Option.map_eq_some_iff, List.mapM_cons, List.mapM_nil, Option.bind_eq_bind, Option.bind_eq_some_iff, Option.pure_def, Option.some.injEq] at h
    obtain ⟨xs, ⟨y0, h0, _, ⟨y1, h1, _, ⟨y2, h2, _, rfl, rfl⟩, rfl⟩, rfl⟩, hx⟩ := h
    obtain ⟨n0, rfl, rfl⟩ := int_of_trod Tryd.underlying3 h0
    obtain ⟨n1, rfl, rfl⟩ := int_of_trod Tryd.underlying3 h1
    obtain ⟨n2, rfl, rfl⟩ := int_of_trod Tryd.underlying3 h2
    exact ⟨n0, n1, n2, rfl, rfl, rfl, by simpa using hx.symm⟩
theorem cells_of_tab {w : World} {fuel : Nat} {cs : Array Value} {p : List MemPlace} (hd : DataW.trod (fun _ => ()) Tryd.prog w 0 (fun _ => true) false fuel 79 cs.toList = some (Rows.laid_loop_example_powercontrol_impl_alarmStates, p)) : cs = stCells := by
  obtain ⟨l⟩ := cs
  cases fuel with
  | zero => simp [DataW.trod] at hd
  | succ fuel =>
    simp only [DataW.trod, Tryd.underlying79, cellsTab, cellsRow] at hd
    split at hd
    · rename_i hl
      obtain ⟨c0, c1, c2, c3, c4, c5, c6, c7, c8, c9, c10, c11, rfl⟩ : ∃ c0 c1 c2 c3 c4 c5 c6 c7 c8 c9 c10 c11, l = [c0, c1, c2, c3, c4, c5, c6, c7, c8, c9, c10, c11] := by
        match l, hl with
        | [a, b, c, d, e, f, g, h, i, j, k, m], _ => exact ⟨a, b, c, d, e, f, g, h, i, j, k, m, rfl⟩
      have e : List.range 4 = [0, 1, 2, 3] := rfl
      rw [e] at hd
      simp only [Option.map_eq_some_iff, List.mapM_cons, List.mapM_nil, Option.bind_eq_bind, Option.bind_eq_some_iff, Option.pure_def, Option.some.injEq] at hd
      obtain ⟨xs, ⟨y0, h0, _, ⟨y1, h1, _, ⟨y2, h2, _, ⟨y3, h3, _, rfl, rfl⟩, rfl⟩, rfl⟩, rfl⟩, hx⟩ := hd
      obtain ⟨n0, n1, n2, rfl, rfl, rfl, rfl⟩ := arr3_of_trod h0
      obtain ⟨n3, n4, n5, rfl, rfl, rfl, rfl⟩ := arr3_of_trod h1
      obtain ⟨n6, n7, n8, rfl, rfl, rfl, rfl⟩ := arr3_of_trod h2
      obtain ⟨n9, n10, n11, rfl, rfl, rfl, rfl⟩ := arr3_of_trod h3
      simp [Rows.laid_loop_example_powercontrol_impl_alarmStates] at hx
      obtain ⟨⟨⟨rfl, rfl, rfl⟩, ⟨rfl, rfl, rfl⟩, ⟨rfl, rfl, rfl⟩, rfl, rfl, rfl⟩, _⟩ := hx
      rfl
    · cases hd

theorem tab_AlarmTell {W : World} (h : laidMetH Tryd.prog Rows.fnAlarmTellRow.laid W) : Tab W := by
  have h2 : laidMet Tryd.prog Rows.fnAlarmTellRow.laid W := h
  obtain ⟨ps, ⟨g1, t1, k1, f1, p1, q1, _, _, _, _, ⟨g2, t2, k2, f2, p2, q2, _, _, _, _, ⟨g3, t3, k3, f3, p3, q3, _, _, _, _, ⟨g, t, cs, fuel, p, q, hg, ht, hvar, hd, _, _⟩, _⟩, _⟩, _⟩, _⟩ := h2
  obtain rfl := Option.some.inj (tabType.symm.trans (by rw [← Option.some.inj (tabName.symm.trans hg)] at ht; exact ht))
  unfold Tab
  rw [hvar, cells_of_tab hd]

theorem tab_AckOrder {W : World} (h : laidMetH Tryd.prog Rows.fnAckOrderRow.laid W) : Tab W := by
  have h2 : laidMet Tryd.prog Rows.fnAckOrderRow.laid W := h
  obtain ⟨ps, ⟨g1, t1, k1, f1, p1, q1, _, _, _, _, ⟨g2, t2, k2, f2, p2, q2, _, _, _, _, ⟨g3, t3, k3, f3, p3, q3, _, _, _, _, ⟨g, t, cs, fuel, p, q, hg, ht, hvar, hd, _, _⟩, _⟩, _⟩, _⟩, _⟩ := h2
  obtain rfl := Option.some.inj (tabType.symm.trans (by rw [← Option.some.inj (tabName.symm.trans hg)] at ht; exact ht))
  unfold Tab
  rw [hvar, cells_of_tab hd]

/-- What the table reads as. -/
def tabH {H : Type} : DataW H := .agg [.agg [.lit (.int .i64 1), .lit (.int .i64 0), .lit (.int .i64 0)], .agg [.lit (.int .i64 1), .lit (.int .i64 3), .lit (.int .i64 2)], .agg [.lit (.int .i64 2), .lit (.int .i64 0), .lit (.int .i64 2)], .agg [.lit (.int .i64 1), .lit (.int .i64 3), .lit (.int .i64 0)]]
theorem reads_tab {H : Type} (enc : TypeId × Value → H) (W : World) (base : Nat) (sp : Nat → Bool) : DataW.trod enc Tryd.prog W base sp true 4 79 stCells.toList = some (tabH, []) := by kernel_rfl

end Go.Proofs.YtijnahflfbjgiaaDoor
