/-
  Chapter 34: how much more a line can carry; what the program's function and its closures compute.
-/
import Derived.Test.YtijnahflfbjgiaaDoorFlow
import Derived.Test.YtijnahflfbjgiaaDoorPairs
import Derived.Test.YtijnahflfbjgiaaDoorBut
namespace Go.Proofs.YtijnahflfbjgiaaDoor
open Go.RowKit
set_option linter.unusedVariables false

theorem room_in_range {b : Int} {ls : List (Int × Int × Int)} {os : List Bool} {fl : List Int} (hv : netB b ls = true) (h : FlOk ls os fl) (k : Nat) (hk : k < ls.length) (bus : Int) : 0 ≤ roomF ls os fl k bus ∧ roomF ls os fl k bus ≤ 1998 := by
  have h1 := net_at hv k hk
  have h2 := (h.2 k hk).1
  unfold roomF
  split
  · split <;> omega
  · omega
theorem room_cases (ls : List (Int × Int × Int)) (os : List Bool) (fl : List Int) (k : Nat) (bus : Int) : (atB os k = false ∧ roomF ls os fl k bus = 0) ∨ (atB os k = true ∧ (bus == (at3 ls k).1) = true ∧ roomF ls os fl k bus = (at3 ls k).2.2 - at_ fl k) ∨ (atB os k = true ∧ (bus == (at3 ls k).1) = false ∧ roomF ls os fl k bus = (at3 ls k).2.2 + at_ fl k) := by
  unfold roomF
  cases h : atB os k
  · exact .inl ⟨rfl, by simp⟩
  · by_cases h2 : bus = (at3 ls k).1
    · exact .inr (.inl ⟨rfl, by simp [h2], by simp [h2]⟩)
    · exact .inr (.inr ⟨rfl, by simp [h2], by simp [h2]⟩)

theorem room_any (b : Int) (A D F : Option Addr) (c d f : Nat) (ls : List (Int × Int × Int)) (os : List Bool) (fl : List Int) (k : Nat) (bus : Int) (w : World) (h : Sl w w.heap.size 3 A ls.length (enc3 ls)) (g : Sl w w.heap.size 1 D os.length (encB os)) (s : Sl w w.heap.size 1 F fl.length (encI fl))
    (hv : netB b ls = true) (ho : os.length = ls.length) (hf : FlOk ls os fl) (hk : k < ls.length) :
    Calls Tryd.prog 89 #[.agg #[.int .i64 b, .slice A ls.length c, .slice D os.length d, .slice F fl.length f], .int .i64 k, .int .i64 bus] w fun e w' => e = .returned (.int .i64 (roomF ls os fl k bus)) ∧ Below w.heap.size w w' := by
  have bw := (Below.refl _ w).alloc (Nat.le_refl _) (.cells #[.int .i64 b, .slice A ls.length c, .slice D os.length d, .slice F fl.length f] 96)
  obtain ⟨m1, m2, m3, m4, m5⟩ := net_at hv k hk
  obtain ⟨⟨m6, m7⟩, _⟩ := hf.2 k hk
  have hfl := hf.1
  obtain ⟨b0, off, rfl, hb, hc0, hc1, hc2⟩ := h.three k hk
  obtain ⟨b1, off1, rfl, hbb, he⟩ := g.bool k (by omega)
  obtain ⟨b2, off2, rfl, hbc, hs⟩ := s.int k (by omega)
  have i0 : (0 : Int) ≤ k := by omega
  have i1 : (k : Int) < os.length := by omega
  have i2 : (k : Int) < fl.length := by omega
  have i3 : (k : Int) < ls.length := by omega
  have HB := hide (bw.alloc (by simp) (.cells #[.int .i64 (at3 ls k).1, .int .i64 (at3 ls k).2.1, .int .i64 (at3 ls k).2.2] 76))
  clear bw h g s hf hfl ho hv m1 m2 m3
  rcases room_cases ls os fl k bus with ⟨q1, q⟩ | ⟨q1, q2, q⟩ | ⟨q1, q2, q⟩
  all_goals
    have Q := hide q
    clear q
    rw [q1] at he
    go_enter Tryd.func89, Tryd.ntmps89
    go_wp2_with fail
    all_goals (try go_quiet (fail))
    all_goals go_wp2_with fail
    go_ret
    first
      | exact ⟨ret_int Q.out.symm, HB.out⟩
      | exact ⟨ret_int Q.out.symm, below_drewN HB.out _⟩

/-- What the box of a state with its flows holds. -/
def FBox (b : Int) (A D F : Option Addr) (n c m d p f : Nat) : Array Value := #[.int .i64 b, .slice A n c, .slice D m d, .slice F p f]

theorem augMay_any (b : Int) (A D F : Option Addr) (c d f q : Nat) (ls : List (Int × Int × Int)) (os : List Bool) (fl : List Int) (k : Nat) (bus : Int) (w : World) (h : Sl w w.heap.size 3 A ls.length (enc3 ls)) (g : Sl w w.heap.size 1 D os.length (encB os)) (s : Sl w w.heap.size 1 F fl.length (encI fl))
    (hv : netB b ls = true) (ho : os.length = ls.length) (hf : FlOk ls os fl) (hk : k < ls.length) (hq : Blk w q 96 #[.int .i64 b, .slice A ls.length c, .slice D os.length d, .slice F fl.length f]) :
    Calls Tryd.prog 106 #[.int .i64 k, .int .i64 bus, .pointer (some ⟨q, 0, none⟩)] w fun e w' => e = .returned (.bool (decide (0 < roomF ls os fl k (otherF (at3 ls k) bus)))) ∧ Below w.heap.size w w' := by
  obtain ⟨b0, off, rfl, hb, hc0, hc1, hc2⟩ := h.three k hk
  have q0 : w.cell? ⟨q, 0, none⟩ = some (.int .i64 b) := hq.cell 0
  have q1 : w.cell? ⟨q, 1, none⟩ = some (.slice (some ⟨b0, off, none⟩) ls.length c) := hq.cell 1
  have q2 : w.cell? ⟨q, 2, none⟩ = some (.slice D os.length d) := hq.cell 2
  have q3 : w.cell? ⟨q, 3, none⟩ = some (.slice F fl.length f) := hq.cell 3
  have i0 : (0 : Int) ≤ k := by omega
  have i3 : (k : Int) < ls.length := by omega
  have HH := hide h
  have HG := hide g
  have HS := hide s
  have HV := hide hv
  have HF := hide hf
  have HL := hide ho
  clear hf h g s hv hq ho
  go_enter Tryd.func106, Tryd.ntmps106
  go_wp2_with fail
  go_region_held3 (fun w' => w'.cell? ⟨q, 0, none⟩ = some (.int .i64 b) ∧ w'.cell? ⟨q, 1, none⟩ = some (.slice (some ⟨b0, off, none⟩) ls.length c) ∧ w'.cell? ⟨q, 2, none⟩ = some (.slice D os.length d) ∧ w'.cell? ⟨q, 3, none⟩ = some (.slice F fl.length f) ∧ w'.cell? ⟨b0, off + k * 3, none⟩ = some (.int .i64 (at3 ls k).1) ∧ w'.cell? ⟨b0, off + k * 3 + 1, none⟩ = some (.int .i64 (at3 ls k).2.1) ∧ w'.cell? ⟨b0, off + k * 3 + 2, none⟩ = some (.int .i64 (at3 ls k).2.2))
    (first | go_keep | (refine ⟨cellk hb2 ?_, cellk hb2 ?_, cellk hb2 ?_, cellk hb2 ?_, cellk hb2 ?_, cellk hb2 ?_, cellk hb2 ?_⟩ <;> go_keep) | (refine ⟨cellk hb3 ?_, cellk hb3 ?_, cellk hb3 ?_, cellk hb3 ?_, cellk hb3 ?_, cellk hb3 ?_, cellk hb3 ?_⟩ <;> go_keep))
    (first | (go_at_call 92; refine (other_any _ _ _).mono ?_; rintro e w2 ⟨rfl, hb2⟩) | (go_at_call 89; refine (room_any _ _ _ _ _ _ _ _ _ _ _ _ _ ?_ ?_ ?_ HV.out HL.out HF.out hk).mono ?_; exact (show Sl w.drew w.drew.heap.size _ _ _ _ from HH.out).to hb2; exact (show Sl w.drew w.drew.heap.size _ _ _ _ from HG.out).to hb2; exact (show Sl w.drew w.drew.heap.size _ _ _ _ from HS.out).to hb2; rintro e w3 ⟨rfl, hb3⟩))
  go_wp2_with fail
  go_ret
  refine ⟨rfl, ?_⟩
  exact (Below.refl _ w).drew.trans ((hb2.mono (by simp)).trans (hb3.mono (by have := hb2.size; simp at this; omega)))

theorem weakMay_any (b : Int) (A D F : Option Addr) (c d f q : Nat) (ls : List (Int × Int × Int)) (os : List Bool) (fl : List Int) (k : Nat) (bus : Int) (w : World) (h : Sl w w.heap.size 3 A ls.length (enc3 ls)) (g : Sl w w.heap.size 1 D os.length (encB os)) (s : Sl w w.heap.size 1 F fl.length (encI fl))
    (hv : netB b ls = true) (ho : os.length = ls.length) (hf : FlOk ls os fl) (hk : k < ls.length) (hq : Blk w q 96 #[.int .i64 b, .slice A ls.length c, .slice D os.length d, .slice F fl.length f]) :
    Calls Tryd.prog 88 #[.int .i64 k, .int .i64 bus, .pointer (some ⟨q, 0, none⟩)] w fun e w' => e = .returned (.bool (decide (0 < roomF ls os fl k bus))) ∧ Below w.heap.size w w' := by
  have q0 : w.cell? ⟨q, 0, none⟩ = some (.int .i64 b) := hq.cell 0
  have q1 : w.cell? ⟨q, 1, none⟩ = some (.slice A ls.length c) := hq.cell 1
  have q2 : w.cell? ⟨q, 2, none⟩ = some (.slice D os.length d) := hq.cell 2
  have q3 : w.cell? ⟨q, 3, none⟩ = some (.slice F fl.length f) := hq.cell 3
  have HF := hide hf
  have HV := hide hv
  have HL := hide ho
  clear hf hv ho
  go_enter Tryd.func88, Tryd.ntmps88
  go_wp2_with fail
  refine (room_any _ _ _ _ _ _ _ _ _ _ _ _ _ h g s HV.out HL.out HF.out hk).mono ?_
  rintro e w3 ⟨rfl, hb3⟩
  go_wp2_with fail
  go_ret
  exact ⟨rfl, hb3⟩

end Go.Proofs.YtijnahflfbjgiaaDoor
