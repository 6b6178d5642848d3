/-
  The law FnMostFlow over drawn networks: the walk.
-/
import Derived.Test.YtijnahflfbjgiaaDoorOff
import Derived.Test.YtijnahflfbjgiaaDoorFnWeakCut
namespace Go.Proofs.YtijnahflfbjgiaaDoor
open Go.RowKit
set_option linter.unusedVariables false

/-- The number that tells chosen places. -/
def numOf (p : Nat → Bool) : Nat → Nat
  | 0 => 0
  | n + 1 => numOf p n + if p n then 2 ^ n else 0
theorem numOf_lt (p : Nat → Bool) (n : Nat) : numOf p n < 2 ^ n := by
  induction n with
  | zero => simp [numOf]
  | succ n ih =>
    rw [numOf, Nat.pow_succ]
    split <;> omega
theorem numOf_bit (p : Nat → Bool) (n i : Nat) (h : i < n) : bitB (numOf p n) i = p i := by
  induction n with
  | zero => omega
  | succ n ih =>
    rw [numOf]
    by_cases hi : i = n
    · subst hi
      have hl := numOf_lt p i
      unfold bitB
      cases hp : p i
      · simp only [Bool.false_eq_true, if_false, Nat.add_zero]
        rw [Nat.div_eq_of_lt hl]
        simp
      · simp only [if_true]
        rw [Nat.add_div_right _ (Nat.two_pow_pos i), Nat.div_eq_of_lt hl]
        simp
    · have hin : i < n := by omega
      rw [← ih hin]
      unfold bitB
      cases hp : p n
      · simp
      · simp only [if_true]
        obtain ⟨m, hm⟩ : ∃ m, n = i + 1 + m := ⟨n - i - 1, by omega⟩
        have e : 2 ^ n = 2 ^ i * (2 * 2 ^ m) := by rw [hm, Nat.pow_add, Nat.pow_succ, Nat.mul_assoc]
        rw [e, Nat.add_mul_div_left _ _ (Nat.two_pow_pos i)]
        have : (numOf p n / 2 ^ i + 2 * 2 ^ m) % 2 = numOf p n / 2 ^ i % 2 := by omega
        rw [this]
theorem pow_in2 (n : Nat) (h : n ≤ 8) : ∃ M : Nat, IntKind.i64.wrap (2 ^ n) = (M : Int) ∧ IntKind.i64.wrap (1 * 2 ^ n) = (M : Int) ∧ M ≤ 256 ∧ Hid (M = 2 ^ n) := by
  refine ⟨2 ^ n, ?_, ?_, ?_, hide rfl⟩ <;> rcases (by omega : n = 0 ∨ n = 1 ∨ n = 2 ∨ n = 3 ∨ n = 4 ∨ n = 5 ∨ n = 6 ∨ n = 7 ∨ n = 8) with rfl | rfl | rfl | rfl | rfl | rfl | rfl | rfl | rfl <;> decide
theorem own_drew {w : World} {base e size n : Nat} {v : Value} {cs : List Value} (h : w.ownsRow base e size v n cs) : w.drew.ownsRow base e size v n cs := h

/-- A number that tells a side with the first bus and without the second one, of so little capacity. -/
def Good (nb nf nt : Nat) (ls : List (Int × Int × Int)) (os : List Bool) (v : Int) (N : Nat) : Prop := bitB N nf = true ∧ bitB N nt = false ∧ cutB (nb : Int) ls os (sideL N nb) = v
/-- What is known of the most that can flow. -/
structure MostP (nb nf nt : Nat) (ls : List (Int × Int × Int)) (os : List Bool) (v : Int) : Prop where
  pos : 0 ≤ v
  cut : ∀ N, bitB N nf = true → bitB N nt = false → v ≤ cutB (nb : Int) ls os (sideL N nb)
  some : ∃ N, N < 2 ^ nb ∧ Good nb nf nt ls os v N
  off : ∀ q y, MV (nb : Int) ls (os.set q false) nf nt y → y ≤ v
theorem MV.mostP {nb nf nt : Nat} {ls : List (Int × Int × Int)} {os : List Bool} {v : Int} (he : endsB (nb : Int) ls os.length nf nt = true) (h : MV (nb : Int) ls os nf nt v) : MostP nb nf nt ls os v := by
  obtain ⟨r, hr, rfl⟩ := h
  obtain ⟨v, p, hF, hv, _, h1, h2, h3⟩ := hr.min he
  have hE := ends_true he
  have hf := hE.f1
  have ht := hE.t1
  rw [hv]
  refine ⟨hF.pos, fun N a c => ?_, ⟨numOf p nb, numOf_lt p nb, ?_, ?_, ?_⟩, fun q y hy => hv ▸ MV.off he hr q hy⟩
  · rw [show cutB (nb : Int) ls os (sideL N nb) = _ from cut_sel he (bitB N)]
    exact hF.cut hE.net (selL_nodup (bitB N) _) ((side_has hE.f0 (by omega)).2 (by simpa using a)) (fun hm => by have h9 := (side_has hE.t0 (by omega)).1 hm; rw [Int.toNat_natCast] at h9; rw [h9] at c; cases c)
  · rw [numOf_bit p nb nf (by omega)]
    obtain ⟨u, _, hp, e⟩ := (selL_mem _ _ _).1 h1
    have : nf = u := by omega
    rw [this]; exact hp
  · rw [numOf_bit p nb nt (by omega)]
    cases hp : p nt
    · rfl
    · exact absurd ((selL_mem _ _ _).2 ⟨nt, by omega, hp, rfl⟩) h2
  · have e : sideL (numOf p nb) nb = selL p nb := selL_congr fun u hu => numOf_bit p nb u hu
    rw [e]
    exact (cut_sel he p).trans h3
theorem Good.step {nb nf nt : Nat} {ls : List (Int × Int × Int)} {os : List Bool} {v : Int} {N : Nat} {s s' : Bool} (h : ∀ n, n < N → Good nb nf nt ls os v n → s = true) (h1 : s = true → s' = true) (h2 : Good nb nf nt ls os v N → s' = true) : ∀ n, n < N + 1 → Good nb nf nt ls os v n → s' = true := fun n hn hg => by
  by_cases hnN : n = N
  · subst hnN; exact h2 hg
  · exact h1 (h n (by omega) hg)

set_option maxRecDepth 8000 in
set_option maxHeartbeats 2000000 in
theorem fnMostFlow_walk (A0 : Option Addr) (c0 : Nat) (x0 : List Int) (w : World) (l0 : x0.length ≤ c0) (m0 : c0 ≤ maxLen) (s0 : Sl w w.heap.size 1 A0 x0.length (encU x0)) (i0 : ∀ n ∈ x0, 0 ≤ n ∧ n ≤ 255) :
    Calls Tryd.prog 10 #[.slice A0 x0.length c0] w fun e w' => e = .returned (.bool true) ∧ Below w.heap.size w w' := by
  have hm2 := m0
  unfold maxLen at m0
  by_cases hm : x0.length ≤ 1048576
  · have HC := hide (DrawMostFlow_any A0 c0 x0 w s0 l0 hm2 i0)
    clear i0 s0
    go_enter Tryd.func10, Tryd.ntmps10
    go_wp2_with fail
    refine HC.out.mono ?_
    rintro e w1 ⟨b, ls, D, d, os, E, f, fr, to, hb, hl, hol, rfl, h1, h2, hb1⟩
    have bw := (Below.refl _ w1).alloc (Nat.le_refl _) (.cells #[.int .i64 b, .slice D ls.length d] 50)
    have L1 := hide (h1.keepB bw)
    have O1 := hide (h2.keepB bw)
    have X1 := hide (Blk.new w1 50 #[.int .i64 b, .slice D ls.length d])
    have K1 := hide (hb1.then bw)
    have hs1 := hb1.size
    clear h1 h2 hb1 bw HC hb
    go_wp2_with fail
    refine (implMostFlow_any _ _ _ _ _ _ _ _ _ _ (Sl.of_own L1.out) (Sl.of_own O1.out) (by omega) (by omega)).mono ?_
    rintro e w2 ⟨x, hx, rfl, hb2⟩
    have L2 := hide (L1.out.keepB hb2)
    have O2 := hide (O1.out.keepB hb2)
    have X2 := hide (X1.out.to hb2)
    have K2 := hide (K1.out.then hb2)
    clear L1 O1 X1 K1
    obtain ⟨x0', x1'⟩ := X2.out.two
    have HX := hide hx
    clear hb2 hx
    go_wp2_with fail
    refine (specMostFlow_any _ _ _ _ _ _ _ _ _ _ (Sl.of_own L2.out) (Sl.of_own O2.out) (by omega) (by omega)).mono ?_
    rintro e w3 ⟨x', hx', rfl, hb3⟩
    obtain rfl := HX.out.unique hx'
    clear hx' x0' x1'
    have L4 := hide (L2.out.keepB hb3)
    have O4 := hide (O2.out.keepB hb3)
    have X4 := hide (X2.out.to hb3)
    have K4 := hide (K2.out.then hb3)
    clear L2 O2 X2 K2
    clear hb3
    obtain ⟨y0', y1'⟩ := X4.out.two
    cases he : endsB b ls os.length fr to
    · obtain rfl := HX.out.unique (MV.none he)
      clear he
      go_wp2_with fail
      refine (alive_any _).mono ?_
      rintro e w7 ⟨rfl, hb7⟩
      have K7 := hide (K4.out.then hb7)
      clear hb7
      go_wp2_with fail
      go_ret
      exact ⟨rfl, K7.out⟩
    · have hE := ends_true he
      have hbn := (net_len hE.net).1
      obtain ⟨nb, rfl⟩ := Int.eq_ofNat_of_zero_le (show 0 ≤ b by omega)
      obtain ⟨nf, rfl⟩ := Int.eq_ofNat_of_zero_le hE.f0
      obtain ⟨nt, rfl⟩ := Int.eq_ofNat_of_zero_le hE.t0
      have hf8 : nf ≤ 8 := by have := hE.f1; omega
      have ht8 : nt ≤ 8 := by have := hE.t1; omega
      have HSB : Hid (stB (nb : Int) ls os.length = true) := hide (by simp [stB, hE.net, hE.len])
      have HM := hide (HX.out.mostP he)
      have hpos := HM.out.pos
      have HE := hide he
      clear hE he
      obtain ⟨M, hM1, hM2, hM, HMP⟩ := pow_in2 nb (by omega)
      have nb0 : (0 : Int) ≤ nb := by omega
      have nb1 : (nb : Int) ≤ 64 := by omega
      go_wp2_with fail
      go_loopw [8, 9, 10] (fun sm q _ wr => ∃ (N : Nat) (s : Bool), N ≤ M ∧ q = .int .i64 N ∧ sm = .bool s ∧ Hid (∀ n, n < N → Good nb nf nt ls os x n → s = true) ∧ Hid (Below w3.heap.size w3 wr)) (fun _ q _ _ => M - (intOf q).toNat)
      case atStart => exact ⟨0, false, Nat.zero_le _, rfl, rfl, hide (fun n hn => absurd hn (by omega)), hide (Below.refl _ _)⟩
      case round =>
        obtain ⟨N, s, hN, rfl, rfl, HG, HB⟩ := hrel
        have L6 := hide (L4.out.keepB HB.out)
        have O6 := hide (O4.out.keepB HB.out)
        have X6 := hide (X4.out.to HB.out)
        obtain ⟨z0', z1'⟩ := X6.out.two
        by_cases hlt : N < M
        · obtain ⟨f1, f2, f3, f4⟩ := bit_facts N nf
          obtain ⟨t1, t2, t3, t4⟩ := bit_facts N nt
          have i0 : (0 : Int) ≤ nf := by omega
          have i1 : (nf : Int) ≤ 64 := by omega
          have i2 : (0 : Int) ≤ nt := by omega
          have i3 : (nt : Int) ≤ 64 := by omega
          have HZL : Hid ((sideL N nb).length ≤ nb) := hide (selL_len (bitB N) nb)
          cases hbf : bitB N nf
          · have HBF := hide hbf
            rw [hbf] at f1 f2 f3 f4
            clear hbf
            go_wp2_with fail
            go_roundw
            case rel => exact ⟨N + 1, s, by omega, by go_num, rfl, hide (Good.step HG.out (fun h => h) (fun h => absurd (HBF.out.symm.trans h.1) (by simp))), HB⟩
            case measure => simp [intOf]; omega
          · have HBF := hide hbf
            rw [hbf] at f1 f2 f3 f4
            clear hbf
            cases hbt : bitB N nt
            · have HBT := hide hbt
              rw [hbt] at t1 t2 t3 t4
              clear hbt
              have HLE := hide (HM.out.cut N HBF.out HBT.out)
              have HBd := hide (HB.out.drew)
              go_wp2_with fail
              go_region_held3 (fun w' => w'.cell? ⟨w1.heap.size, 0, none⟩ = some (.int .i64 nb) ∧ w'.cell? ⟨w1.heap.size, 1, none⟩ = some (.slice D ls.length d))
                (refine ⟨?_, ?_⟩ <;> first | assumption | go_keep)
                (first | (go_at_call 40; refine (sideOf_any N nb ?_ ?_ _).mono ?_; omega; omega; rintro _ w7 ⟨zs, H, hc, rfl, rfl, ho7, hb7⟩; have HB7 := hide (HBd.out.then hb7); have L7 := hide ((own_drew L6.out).keepB hb7); have O7 := hide ((own_drew O6.out).keepB hb7); have X7 := hide (X6.out.drew.to hb7); have Z7 := hide ho7; obtain ⟨v0, v1⟩ := X7.out.two; clear ho7 hb7) | (go_at_call 33; refine (implCutCapacity_any _ _ _ _ _ _ _ _ _ _ _ (Sl.of_own L7.out) (Sl.of_own O7.out) (Sl.of_own Z7.out) ?_ ?_ ?_).mono ?_; omega; omega; (have := HZL.out; omega); rintro _ w8 ⟨rfl, hb8⟩; have HB8 := hide (HB7.out.then hb8); have X8 := hide (X7.out.to hb8); obtain ⟨v2, v3⟩ := X8.out.two; clear hb8))
              have hge := HLE.out
              generalize hcv : cutB (nb : Int) ls os (sideL N nb) = y at hge ⊢
              have HCV := hide hcv
              have hnl : ¬ y < x := by omega
              clear hcv
              cases s
              · by_cases hy : y = x
                · have hyx : (y == x) = true := by simp [hy]
                  have HY := hide hy
                  clear hy
                  go_wp2_with fail
                  go_roundw
                  case rel => exact ⟨N + 1, true, by omega, by go_num, rfl, hide (Good.step HG.out (fun _ => rfl) (fun _ => rfl)), HB8⟩
                  case measure => simp [intOf]; omega
                · have hyx : (y == x) = false := by simp [hy]
                  have HY := hide hy
                  clear hy
                  go_wp2_with fail
                  go_roundw
                  case rel => exact ⟨N + 1, false, by omega, by go_num, rfl, hide (Good.step HG.out (fun h => h) (fun h => absurd (HCV.out.symm.trans h.2.2) HY.out)), HB8⟩
                  case measure => simp [intOf]; omega
              · go_wp2_with fail
                go_roundw
                case rel => exact ⟨N + 1, true, by omega, by go_num, rfl, hide (Good.step HG.out (fun _ => rfl) (fun _ => rfl)), HB8⟩
                case measure => simp [intOf]; omega
            · have HBT := hide hbt
              rw [hbt] at t1 t2 t3 t4
              clear hbt
              go_wp2_with fail
              go_roundw
              case rel => exact ⟨N + 1, s, by omega, by go_num, rfl, hide (Good.step HG.out (fun h => h) (fun h => absurd (HBT.out.symm.trans h.2.1) (by simp))), HB⟩
              case measure => simp [intOf]; omega
        · obtain rfl : N = M := by omega
          obtain rfl : s = true := by
            obtain ⟨n0, hn0, hg0⟩ := HM.out.some
            exact HG.out n0 (by rw [HMP.out]; exact hn0) hg0
          go_wp2_with fail
          go_loopw [11, 12, 13] (fun i _ _ wx => ∃ k : Nat, k ≤ os.length ∧ i = .int .i64 k ∧ Hid (Below wr.heap.size wr wx)) (fun i _ _ _ => os.length - (intOf i).toNat)
          case atStart => exact ⟨0, Nat.zero_le _, rfl, hide (Below.refl _ _)⟩
          case round =>
            obtain ⟨k, hk, rfl, HC⟩ := hrel
            have L7 := hide (L6.out.keepB HC.out)
            have O7 := hide (O6.out.keepB HC.out)
            have X7 := hide (X6.out.to HC.out)
            clear z0' z1'
            obtain ⟨z0', z1'⟩ := X7.out.two
            by_cases hlk : k < os.length
            · go_wp2_with fail
              refine (offOn_any _ _ _ _ _ _ _ k _ (Sl.of_own L7.out) (Sl.of_own O7.out) HSB.out hlk).mono ?_
              rintro e w8 ⟨F, g8, u8, rfl, ho8, hb8⟩
              have L8 := hide (L7.out.keepB hb8)
              have X8 := hide (X7.out.to hb8)
              have HC8 := hide (HC.out.then hb8)
              have O8 := hide ho8
              clear ho8 hb8 z0' z1'
              obtain ⟨z0', z1'⟩ := X8.out.two
              have hsl : (os.set k false).length = os.length := by simp
              have O9 := O8.out
              rw [← hsl] at O9
              have O9 := hide O9
              have HSL := hide hsl
              clear hsl
              go_wp2_with fail
              rw [← HSL.out]
              refine (implMostFlow_any _ _ _ _ _ _ _ _ _ _ (Sl.of_own L8.out) (Sl.of_own O9.out) (by omega) (by have := HSL.out; omega)).mono ?_
              rintro e w9 ⟨y, hy, rfl, hb9⟩
              have hyle := HM.out.off k y hy
              have hng : ¬ x < y := by omega
              have HC9 := hide (HC8.out.then hb9)
              clear hy hb9
              go_wp2_with fail
              go_roundw
              case rel => exact ⟨k + 1, by omega, by go_num, HC9⟩
              case measure => simp [intOf]; omega
            · have K9 := hide ((K4.out.then HB.out).then HC.out)
              go_wp2_with fail
              go_ret
              exact ⟨rfl, K9.out⟩
  · go_enter Tryd.func10, Tryd.ntmps10
    go_wp2_with fail
    go_ret
    exact ⟨rfl, Below.refl _ _⟩

end Go.Proofs.YtijnahflfbjgiaaDoor
