/-
  The program's sets of buses: what its functions compute.
-/
import Derived.Test.YtbebhbcjdiahcaaDoorUnion
import Derived.Test.YtbebhbcjdiahcaaDoorNet
namespace Go.Proofs.YtbebhbcjdiahcaaDoor
open Go.RowKit
set_option linter.unusedVariables false

theorem encI_setU (xs : List Int) (k : Nat) (v : Int) : encI (xs.set k v) = (encI xs).set k (.int .i64 v) := by simp [encI, List.map_set]
theorem own_int {w : World} {base e q n c : Nat} {us : List Int} (ho : w.ownsRow base e 1 (.slice (some ⟨q, 0, none⟩) n c) n (encI us)) (hl : us.length = n) {k : Nat} (hk : k < n) : w.cell? ⟨q, k, none⟩ = some (.int .i64 (at_ us k)) := by
  have := ho.cellAt k (by omega)
  rw [encI_at us k (by omega)] at this
  exact this

theorem root_up {us : List Int} (h : UF us) {x : Nat} (hx : x < us.length) : root us x = root us (at_ us x).toNat := by
  by_cases he : at_ us x = x
  · rw [he, Int.toNat_natCast]
  · exact root_step h hx he
/-- Sets that are kept in block q of one's own. -/
structure US (base q n c : Nat) (us : List Int) (wr : World) : Prop where
  own : wr.ownsRow base 3 1 (.slice (some ⟨q, 0, none⟩) n c) n (encI us)
  len : us.length = n
  uf : UF us
/-- The same sets, perhaps with shorter ways. -/
def Kept (base q n c : Nat) (us : List Int) (w w' : World) : Prop := ∃ vs, US base q n c vs w' ∧ (∀ y, y < n → root vs y = root us y) ∧ w.grownBy w' (some q)
section
variable {base q n c : Nat} {us : List Int} {w w' w'' : World}
theorem Kept.refl (h : US base q n c us w) : Kept base q n c us w w := ⟨us, h, fun _ _ => rfl, World.grownBy.refl _ _⟩
end

theorem newUnion_any (n : Nat) (w : World) (hn : n ≤ 1048576) :
    Calls Tryd.prog 72 #[.int .i64 n] w fun e w' => e = .returned (.slice (some ⟨w.heap.size, 0, none⟩) n n) ∧ w'.ownsRow w.heap.size 3 1 (.slice (some ⟨w.heap.size, 0, none⟩) n n) n (encI (singles n)) ∧ Below w.heap.size w w' := by
  have hmk := run_make_z (P := Tryd.prog) 92 3 _ 1 8 Tryd.underlying92 infoI rfl (by omega) n n (Nat.le_refl _) (by omega) (by omega) w
  have hl : (singles n).length = n := by simp [singles]
  have HO := hide (own_made (w := w) (e := 3) (size := 1) (n := n) (cs := encI (singles n)) (by simp [encI, hl]) (by unfold maxLen; omega))
  have HK := hide ((Below.refl w.heap.size w).alloc (Nat.le_refl _) (.cells (zrow (n * 1)) 3))
  simp only [Nat.mul_one] at HO HK
  go_enter Tryd.func72, Tryd.ntmps72
  go_wp2_with fail
  go_loopw [4, 9] (fun _ x wr => ∃ i : Nat, i ≤ n ∧ x = .int .i64 i ∧ wr.ownsRow w.heap.size 3 1 (.slice (some ⟨w.heap.size, 0, none⟩) n n) n (part (encI (singles n)) i) ∧ Below w.heap.size w wr) (fun _ x _ => n - (intOf x).toNat)
  case atStart => exact ⟨0, Nat.zero_le _, rfl, HO.out, HK.out⟩
  case round =>
    obtain ⟨i, hi, rfl, ho, hk⟩ := hrel
    have HO1 := hide ho
    have HK1 := hide hk
    clear ho hk
    by_cases hlt : i < n
    · obtain ⟨u, hu⟩ : ∃ u, (part (encI (singles n)) i)[i]? = some u := by
        have hpl : i < (part (encI (singles n)) i).length := by rw [part_len _ _ (by simp [encI, hl]; omega)]; simp [encI, hl]; omega
        exact ⟨_, List.getElem?_eq_getElem hpl⟩
      have x1 := (HO1.out.cellAt i (by omega)).trans hu
      have x2 := HO1.out.frozenAt i
      have H3 := hide (HO1.out.stored i (.int .i64 i))
      rw [part_set _ i (.int .i64 i) (by rw [encI_at _ i (by omega), singles_at n i hlt])] at H3
      clear hu
      go_wp2_with fail
      exact ⟨⟨i + 1, by omega, by go_num, H3.out.1, HK1.out.setCell (p := ⟨w.heap.size, i, none⟩) (by simp) _⟩, by simp [intOf]; omega⟩
    · obtain rfl : i = n := by omega
      rw [part_all _ _ (by simp [encI, hl])] at HO1
      go_wp2_with fail
      go_ret
      exact ⟨rfl, HO1.out, HK1.out⟩

set_option maxHeartbeats 2000000 in
theorem find_any (base q n c : Nat) (us : List Int) (x : Nat) (w : World) (h : US base q n c us w) (hx : x < n) (hm : n ≤ 1048576) :
    Calls Tryd.prog 84 #[.slice (some ⟨q, 0, none⟩) n c, .int .i64 x] w fun e w' => e = .returned (.int .i64 (root us x)) ∧ Kept base q n c us w w' := by
  have HH := hide h
  clear h
  go_enter Tryd.func84, Tryd.ntmps84
  go_wp2_with fail
  go_loopw [1] (fun b wr => ∃ (y : Nat) (vs : List Int), b = .int .i64 y ∧ y < n ∧ root vs y = root us x ∧ US base q n c vs wr ∧ (∀ z, z < n → root vs z = root us z) ∧ w.grownBy wr (some q)) (fun b _ => (intOf b).toNat)
  case atStart => exact ⟨x, us, rfl, hx, rfl, HH.out, fun _ _ => rfl, World.grownBy.refl _ _⟩
  case round =>
    clear HH
    obtain ⟨y, vs, rfl, hy, hr, hst, hz, hg⟩ := hrel
    have ST := hide hst
    have HR := hide hr
    have HZ := hide hz
    have HG := hide hg
    have hl := hst.len
    have hy1 := hst.uf y (by omega)
    have x1 := own_int hst.own hl hy
    clear hst hr hz hg
    have i0 : (0 : Int) ≤ y := by omega
    have i1 : (y : Int) < n := by omega
    obtain ⟨p, hp⟩ := Int.eq_ofNat_of_zero_le hy1.1
    by_cases he : at_ vs y = y
    · have heb : (at_ vs y != (y : Int)) = false := by simp [he]
      have HE := hide he
      clear he
      go_wp2_with fail
      go_ret
      exact ⟨ret_int (by rw [← HR.out, root_fix HE.out]), vs, ST.out, HZ.out, HG.out⟩
    · have hpy : p < y := by omega
      have hpn : p < n := by omega
      have x2 := own_int ST.out.own hl hpn
      have f1 := ST.out.own.frozenAt y
      have i2 : (p : Int) < n := by omega
      have i3 : (0 : Int) ≤ p := by omega
      have HP := hide hp
      have heb : ((p : Int) != (y : Int)) = true := by simp; omega
      have H2 := hide (halve ST.out.uf (by omega : y < vs.length) hp)
      have H3 := hide (ST.out.own.stored y (.int .i64 (at_ vs p)))
      have hq2 := ST.out.uf p (by omega)
      obtain ⟨r, hr⟩ := Int.eq_ofNat_of_zero_le hq2.1
      have hrp : r ≤ p := by omega
      rw [hp] at x1
      rw [hr] at x2
      rw [hr] at H2 H3
      have x3 := (World.cell?_setCell_same wr ⟨q, y, none⟩ (.int .i64 r) (by rw [x1]))
      clear he
      have hru : root vs r = root us x := by
        rw [← HR.out, root_up ST.out.uf (by omega : y < vs.length), HP.out, Int.toNat_natCast, root_up ST.out.uf (by omega : p < vs.length), hr, Int.toNat_natCast]
      have HRU := hide hru
      clear hru
      go_wp2_with fail
      exact ⟨⟨r, vs.set y r, rfl, by omega, (H2.out.2 r (by omega)).trans HRU.out, ⟨by rw [encI_setU]; exact H3.out.1, by simpa using hl, H2.out.1⟩, fun z hz => (H2.out.2 z (by omega)).trans (HZ.out z hz), HG.out.trans H3.out.2⟩, by simp [intOf]; omega⟩

theorem same_any (base q n c : Nat) (us : List Int) (x y : Nat) (w : World) (h : US base q n c us w) (hx : x < n) (hy : y < n) (hm : n ≤ 1048576) :
    Calls Tryd.prog 73 #[.slice (some ⟨q, 0, none⟩) n c, .int .i64 x, .int .i64 y] w fun e w' => e = .returned (.bool (decide (root us x = root us y))) ∧ Kept base q n c us w w' := by
  have HH := hide h
  clear h
  go_enter Tryd.func73, Tryd.ntmps73
  go_wp2_with fail
  refine (find_any base q n c us x w HH.out hx hm).mono ?_
  rintro e w1 ⟨rfl, vs, hst, hr, hg⟩
  have ST := hide hst
  have HR := hide hr
  have HG := hide hg
  clear hst hr hg
  go_wp2_with fail
  refine (find_any base q n c vs y w1 ST.out hy hm).mono ?_
  rintro e w2 ⟨rfl, vs2, hst2, hr2, hg2⟩
  have K2 : Hid (Kept base q n c us w w2) := hide ⟨vs2, hst2, fun z hz => (hr2 z hz).trans (HR.out z hz), HG.out.trans hg2⟩
  rw [HR.out y hy]
  clear hst2 hr2 hg2
  by_cases he : root us x = root us y
  · have heb : (((root us x : Nat) : Int) == (root us y : Nat)) = true := by simp [he]
    have HE := hide he
    clear he
    go_wp2_with fail
    go_ret
    exact ⟨ret_bool (by simp [HE.out]), K2.out⟩
  · have heb : (((root us x : Nat) : Int) == (root us y : Nat)) = false := by simp; omega
    have HE := hide he
    clear he
    go_wp2_with fail
    go_ret
    exact ⟨ret_bool (by simp [HE.out]), K2.out⟩

/-- The sets of two buses joined. -/
def Joined (base q n c : Nat) (us : List Int) (x y : Nat) (w w' : World) : Prop := ∃ vs, US base q n c vs w' ∧ (∀ z, z < n → root vs z = if root us z = max (root us x) (root us y) then min (root us x) (root us y) else root us z) ∧ w.grownBy w' (some q)
theorem join_any (base q n c : Nat) (us : List Int) (x y : Nat) (w : World) (h : US base q n c us w) (hx : x < n) (hy : y < n) (hm : n ≤ 1048576) :
    Calls Tryd.prog 74 #[.slice (some ⟨q, 0, none⟩) n c, .int .i64 x, .int .i64 y] w fun e w' => e = .returned (.tuple #[]) ∧ Joined base q n c us x y w w' := by
  have HH := hide h
  clear h
  go_enter Tryd.func74, Tryd.ntmps74
  go_wp2_with fail
  refine (find_any base q n c us x w HH.out hx hm).mono ?_
  rintro e w1 ⟨rfl, vs, hst, hr, hg⟩
  have ST := hide hst
  have HR := hide hr
  have HG := hide hg
  clear hst hr hg
  go_wp2_with fail
  refine (find_any base q n c vs y w1 ST.out hy hm).mono ?_
  rintro e w2 ⟨rfl, vs2, hst2, hr2, hg2⟩
  have ST2 := hide hst2
  have HR2 : Hid (∀ z, z < n → root vs2 z = root us z) := hide fun z hz => (hr2 z hz).trans (HR.out z hz)
  have HG2 := hide (HG.out.trans hg2)
  rw [HR.out y hy]
  have hl := hst2.len
  have rx := root_is hst2.uf x (by omega)
  have ry := root_is hst2.uf y (by omega)
  rw [HR2.out x hx] at rx
  rw [HR2.out y hy] at ry
  clear hst2 hr2 hg2
  generalize hrx : root us x = a at *
  generalize hry : root us y = b at *
  have HRX := hide hrx
  have HRY := hide hry
  clear hrx hry
  have i0 : (0 : Int) ≤ a := by omega
  have i1 : (a : Int) < n := by omega
  have j0 : (0 : Int) ≤ b := by omega
  have j1 : (b : Int) < n := by omega
  rcases Nat.lt_trichotomy a b with hlt | rfl | hlt
  · have x1 := own_int ST2.out.own hl (show b < n by omega)
    have f1 := ST2.out.own.frozenAt b
    have H2 := hide (joined ST2.out.uf (by omega : b < vs2.length) (Nat.le_of_lt hlt) rx.2 ry.2)
    have H3 := hide (ST2.out.own.stored b (.int .i64 a))
    go_wp2_with fail
    refine bodyPost_end (v := .tuple #[]) (by simp [results, Tryd.results74, go_sem]) rfl ⟨rfl, vs2.set b (a : Int), ⟨by rw [encI_setU]; exact H3.out.1, by simpa using hl, H2.out.1⟩, fun z hz => ?_, HG2.out.trans H3.out.2⟩
    rw [H2.out.2 z (by omega), HR2.out z hz, HRX.out, HRY.out]
    rw [show max a b = b by omega, show min a b = a by omega]
  · have x1 := own_int ST2.out.own hl (show a < n by omega)
    have f1 := ST2.out.own.frozenAt a
    have H2 := hide (joined ST2.out.uf (by omega : a < vs2.length) (Nat.le_refl _) rx.2 ry.2)
    have H3 := hide (ST2.out.own.stored a (.int .i64 a))
    go_wp2_with fail
    refine bodyPost_end (v := .tuple #[]) (by simp [results, Tryd.results74, go_sem]) rfl ⟨rfl, vs2.set a (a : Int), ⟨by rw [encI_setU]; exact H3.out.1, by simpa using hl, H2.out.1⟩, fun z hz => ?_, HG2.out.trans H3.out.2⟩
    rw [H2.out.2 z (by omega), HR2.out z hz, HRX.out, HRY.out]
    rw [show max a a = a by omega, show min a a = a by omega]
  · have hnl : ¬ a < b := by omega
    have x1 := own_int ST2.out.own hl (show a < n by omega)
    have f1 := ST2.out.own.frozenAt a
    have H2 := hide (joined ST2.out.uf (by omega : a < vs2.length) (Nat.le_of_lt hlt) ry.2 rx.2)
    have H3 := hide (ST2.out.own.stored a (.int .i64 b))
    go_wp2_with fail
    refine bodyPost_end (v := .tuple #[]) (by simp [results, Tryd.results74, go_sem]) rfl ⟨rfl, vs2.set a (b : Int), ⟨by rw [encI_setU]; exact H3.out.1, by simpa using hl, H2.out.1⟩, fun z hz => ?_, HG2.out.trans H3.out.2⟩
    rw [H2.out.2 z (by omega), HR2.out z hz, HRX.out, HRY.out]
    rw [show max a b = a by omega, show min a b = b by omega]

end Go.Proofs.YtbebhbcjdiahcaaDoor
