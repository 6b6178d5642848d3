/-
  Residuals, BadLine and MendReadings: the contracts in the form in which the laws take them.
-/
import Derived.Test.YtbebhbcjdiahcaaDoorBadS
namespace Go.Proofs.YtbebhbcjdiahcaaDoor
open Go.RowKit
set_option linter.unusedVariables false

theorem ResR.len {b : Int} {ls : List (Int × Int × Int)} {on : List Bool} {bs : List (Int × Int)} {rs r : List Int} (h : ResR b ls on bs rs r) : r.length ≤ 8 := by
  rcases h with ⟨_, rfl⟩ | ⟨h, ps, _, rfl⟩
  · simp
  · obtain ⟨hf, _⟩ := (radB_iff _ _ _ _).1 (okB_true h).1
    obtain ⟨hv, _, hbl, _⟩ := fedB_true hf
    have := (net_len hv).1
    rw [resL_len]
    omega
theorem MendR.len {b : Int} {ls : List (Int × Int × Int)} {on : List Bool} {bs : List (Int × Int)} {rs r : List Int} {t : Bool} (h : MendR b ls on bs rs r t) : r.length ≤ rs.length := by
  rcases h with ⟨_, rfl, _⟩ | ⟨h, ps, _, ⟨_, rfl, _⟩ | ⟨_, x, _, ⟨_, rfl, _⟩ | ⟨_, rfl, _⟩⟩⟩
  · simp
  · exact Nat.le_refl _
  · simp
  · rw [tryL_len]; exact Nat.le_refl _

theorem implResiduals_ex (b : Int) (A D B R : Option Addr) (c d f rc : Nat) (ls : List (Int × Int × Int)) (on : List Bool) (bs : List (Int × Int)) (rs : List Int) (w : World) (h : Sl w w.heap.size 3 A ls.length (enc3 ls)) (g : Sl w w.heap.size 1 D on.length (encB on)) (s : Sl w w.heap.size 2 B bs.length (enc2 bs)) (r : Sl w w.heap.size 1 R rs.length (encI rs)) (hm : ls.length ≤ 1048576) (ho : on.length ≤ 1048576) (hn : bs.length ≤ 1048576) (hrn : rs.length ≤ 1048576) :
    Calls Tryd.prog 7 #[.agg #[.int .i64 b, .slice A ls.length c], .slice D on.length d, .slice B bs.length f, .slice R rs.length rc] w (MadeInts (ResR b ls on bs rs) w) :=
  implResiduals_any b A D B R c d f on.length rc ls on bs rs w h g rfl s r hm hn hrn

theorem specResiduals_ex (b : Int) (A D B R : Option Addr) (c d f rc : Nat) (ls : List (Int × Int × Int)) (on : List Bool) (bs : List (Int × Int)) (rs : List Int) (w : World) (h : Sl w w.heap.size 3 A ls.length (enc3 ls)) (g : Sl w w.heap.size 1 D on.length (encB on)) (s : Sl w w.heap.size 2 B bs.length (enc2 bs)) (r : Sl w w.heap.size 1 R rs.length (encI rs)) (hm : ls.length ≤ 1048576) (ho : on.length ≤ 1048576) (hn : bs.length ≤ 1048576) (hrn : rs.length ≤ 1048576) :
    Calls Tryd.prog 9 #[.agg #[.int .i64 b, .slice A ls.length c], .slice D on.length d, .slice B bs.length f, .slice R rs.length rc] w (MadeInts (ResR b ls on bs rs) w) :=
  specResiduals_any b A D B R c d f on.length rc ls on bs rs w h g rfl s r hm hn hrn

theorem implBadLine_ex (b : Int) (A D B R : Option Addr) (c d f rc : Nat) (ls : List (Int × Int × Int)) (on : List Bool) (bs : List (Int × Int)) (rs : List Int) (w : World) (h : Sl w w.heap.size 3 A ls.length (enc3 ls)) (g : Sl w w.heap.size 1 D on.length (encB on)) (s : Sl w w.heap.size 2 B bs.length (enc2 bs)) (r : Sl w w.heap.size 1 R rs.length (encI rs)) (hm : ls.length ≤ 1048576) (ho : on.length ≤ 1048576) (hn : bs.length ≤ 1048576) (hrn : rs.length ≤ 1048576) :
    Calls Tryd.prog 16 #[.agg #[.int .i64 b, .slice A ls.length c], .slice D on.length d, .slice B bs.length f, .slice R rs.length rc] w (fun e w' => ∃ x, BadR b ls on bs rs x ∧ e = .returned (.int .i64 x) ∧ Below w.heap.size w w') :=
  implBadLine_any b A D B R c d f on.length rc ls on bs rs w h g rfl s r hm hn hrn

theorem specBadLine_ex (b : Int) (A D B R : Option Addr) (c d f rc : Nat) (ls : List (Int × Int × Int)) (on : List Bool) (bs : List (Int × Int)) (rs : List Int) (w : World) (h : Sl w w.heap.size 3 A ls.length (enc3 ls)) (g : Sl w w.heap.size 1 D on.length (encB on)) (s : Sl w w.heap.size 2 B bs.length (enc2 bs)) (r : Sl w w.heap.size 1 R rs.length (encI rs)) (hm : ls.length ≤ 1048576) (ho : on.length ≤ 1048576) (hn : bs.length ≤ 1048576) (hrn : rs.length ≤ 1048576) :
    Calls Tryd.prog 17 #[.agg #[.int .i64 b, .slice A ls.length c], .slice D on.length d, .slice B bs.length f, .slice R rs.length rc] w (fun e w' => ∃ x, BadR b ls on bs rs x ∧ e = .returned (.int .i64 x) ∧ Below w.heap.size w w') :=
  specBadLine_any b A D B R c d f on.length rc ls on bs rs w h g rfl s r hm hn hrn

theorem implMendReadings_ex (b : Int) (A D B R : Option Addr) (c d f rc : Nat) (ls : List (Int × Int × Int)) (on : List Bool) (bs : List (Int × Int)) (rs : List Int) (w : World) (h : Sl w w.heap.size 3 A ls.length (enc3 ls)) (g : Sl w w.heap.size 1 D on.length (encB on)) (s : Sl w w.heap.size 2 B bs.length (enc2 bs)) (r : Sl w w.heap.size 1 R rs.length (encI rs)) (hm : ls.length ≤ 1048576) (ho : on.length ≤ 1048576) (hn : bs.length ≤ 1048576) (hrn : rs.length ≤ 1048576) :
    Calls Tryd.prog 19 #[.agg #[.int .i64 b, .slice A ls.length c], .slice D on.length d, .slice B bs.length f, .slice R rs.length rc] w (fun e w' => ∃ l t M m, MendR b ls on bs rs l t ∧ e = .returned (.tuple #[.slice M l.length m, .bool t]) ∧ w'.ownsRow w.heap.size 3 1 (.slice M l.length m) l.length (encI l) ∧ Below w.heap.size w w') :=
  implMend_any b A D B R c d f on.length rc ls on bs rs w h g rfl s r hm hn hrn

theorem specMendReadings_ex (b : Int) (A D B R : Option Addr) (c d f rc : Nat) (ls : List (Int × Int × Int)) (on : List Bool) (bs : List (Int × Int)) (rs : List Int) (w : World) (h : Sl w w.heap.size 3 A ls.length (enc3 ls)) (g : Sl w w.heap.size 1 D on.length (encB on)) (s : Sl w w.heap.size 2 B bs.length (enc2 bs)) (r : Sl w w.heap.size 1 R rs.length (encI rs)) (hm : ls.length ≤ 1048576) (ho : on.length ≤ 1048576) (hn : bs.length ≤ 1048576) (hrn : rs.length ≤ 1048576) :
    Calls Tryd.prog 20 #[.agg #[.int .i64 b, .slice A ls.length c], .slice D on.length d, .slice B bs.length f, .slice R rs.length rc] w (fun e w' => ∃ l t M m, MendR b ls on bs rs l t ∧ e = .returned (.tuple #[.slice M l.length m, .bool t]) ∧ w'.ownsRow w.heap.size 3 1 (.slice M l.length m) l.length (encI l) ∧ Below w.heap.size w w') :=
  specMend_any b A D B R c d f on.length rc ls on bs rs w h g rfl s r hm hn hrn

end Go.Proofs.YtbebhbcjdiahcaaDoor
