/-
  The walk of BignatOrder.
-/
import Derived.Test.YthndffacpijnoaaPow
namespace Go.Proofs.Ythndffacpijnoaa.bignatOrder
open Go.ChangeShapes Go.WideShapes Go.ChangeAt Go.RowKit B Nt
set_option linter.unusedVariables false

theorem blen_two (b : Nat) : blen (2 ^ b) = b + 1 := by
  have := two_pos b
  refine blen_of (by omega) (Int.le_refl _) ?_
  rw [Int.pow_succ]; omega
theorem pw (b : Nat) (h : b ≤ 300) : powE 2 (b : Int) = 0 ∧ powX 2 (b : Int) = 2 ^ b := pow_done (x := 2) (n := b) (by rw [blen_two]; omega)
theorem pb (b : Nat) (h : b ≤ 300) : (2 : Int) ^ b < Bp 10 := by
  rw [Bp_pow]
  have := two_mono (show b + 1 ≤ 32 * 10 by omega)
  rw [Int.pow_succ] at this
  have := two_pos b
  omega
theorem cmp_neg (x y : Int) : cmpI x y = -cmpI y x := by
  unfold cmpI
  by_cases h1 : x < y
  · rw [if_pos h1, if_neg (by omega), if_neg (by omega)]
  · by_cases h2 : x = y
    · subst h2; simp
    · rw [if_neg h1, if_neg h2, if_pos (by omega)]; rfl
theorem cmp_ge (x y : Int) : (0 ≤ cmpI x y) ↔ (y ≤ x) := by
  unfold cmpI; split
  · omega
  · split <;> omega
theorem cmp_bd (x y : Int) : -1 ≤ cmpI x y ∧ cmpI x y ≤ 1 := by
  unfold cmpI; split
  · omega
  · split <;> omega
theorem cmp_lt {x y : Int} (h : x < y) : cmpI x y = -1 := by rw [cmpI, if_pos h]

theorem spec_all {n : Int} (h : 0 ≤ n) : n < 2 ^ blen n ∧ (blen n ≠ 0 → (2 : Int) ^ (blen n - 1) ≤ n) := by
  rcases Int.lt_or_eq_of_le h with h1 | h1
  · have := blen_spec h1
    exact ⟨this.2.1, fun _ => this.1⟩
  · subst h1; exact ⟨by decide, fun h => absurd rfl h⟩
theorem max2 (n : Nat) (ts : Array TypeId) (t : TypeId) (w : World) : (Builtin.max_ ts t #[.int .i64 ((n : Int) - 1), .int .i64 0]).run Try.prog w = .ok (.int .i64 ((n - 1 : Nat) : Int)) w := by
  simp [Builtin.max_, Builtin.max2]
  congr 1
  split <;> omega

set_option maxHeartbeats 2000000 in
theorem walk (a0 : Option Addr) (len0 cap0 : Nat) (z0 : List Int) (a1 : Option Addr) (len1 cap1 : Nat) (z1 : List Int) (w : World) (w0 : IsRow .u32 w a0 len0 cap0 z0) (w1 : IsRow .u32 w a1 len1 cap1 z1) :
    Calls Try.prog 11 #[.slice a0 len0 cap0, .slice a1 len1 cap1] w fun e w' => e = .returned (.bool true) ∧ Below w.heap.size w w' := by
  have X0 := Lib.hid (Row.of w0)
  have X1 := Lib.hid (Row.of w1)
  clear w0 w1
  generalize z0.take len0 = l0 at *
  generalize z1.take len1 = l1 at *
  go_enter Try.func11, Try.ntmps11
  go_wp2_with fail
  refine (baseNat _ l0 _ X0.out).mono ?_
  rintro e wn1 ⟨vn1, rfl, rn2, hbn1⟩
  have Hn3 : Hid (Num wn1 vn1 8 (N (bnat l0))) := ⟨_, rn2, bnat_len _, rfl⟩
  have Rn4 := Lib.hid rn2
  clear rn2
  go_wp2_with fail
  refine (baseNat _ l1 _ (X1.out.keep hbn1)).mono ?_
  rintro e wn2 ⟨vn5, rfl, rn6, hbn2⟩
  have Hn7 : Hid (Num wn2 vn5 8 (N (bnat l1))) := ⟨_, rn6, bnat_len _, rfl⟩
  have Rn8 := Lib.hid rn6
  clear rn6
  by_cases hle : N (bnat l1) ≤ N (bnat l0)
  · have HLE := Lib.hid hle
    clear hle
    go_wp2_with fail
    refine (Nt.sub _ _ 8 (N (bnat l0)) (N (bnat l1)) _ (Hn3.out.keep hbn2) Hn7.out (by omega)).mono ?_
    rintro e wn3 ⟨vn9, rfl, rn10, hbn3⟩
    rw [decide_eq_true (HLE.out)]
    rw [if_pos (HLE.out)] at rn10
    have Hn11 := Lib.hid rn10
    clear rn10
    go_wp2_with fail
    refine (Nt.add _ _ 8 (N (bnat l0)) (N (bnat l1)) _ ((Hn3.out.keep hbn2).keep hbn3) (Hn7.out.keep hbn3) (by omega)).mono ?_
    rintro e wn4 ⟨vn12, rfl, rn13, hbn4⟩
    have Hn14 := Lib.hid rn13
    clear rn13
    go_wp2_with fail
    refine (Nt.sub _ _ 17 ((N (bnat l0)) + (N (bnat l1))) (N (bnat l1)) _ (IsNew.num Hn14.out 17 (Int.lt_of_lt_of_le (bp_add (Hn3.out.lt) (Hn7.out.lt)) (Bp_mono (by omega)))) (Num.mono ((Hn7.out.keep hbn3).keep hbn4) (by omega)) (by omega)).mono ?_
    rintro e wn5 ⟨vn15, rfl, rn16, hbn5⟩
    rw [decide_eq_true (by have := Hn3.out.nonneg; omega)]
    rw [if_pos (by have := Hn3.out.nonneg; omega)] at rn16
    have Hn17 := Lib.hid rn16
    clear rn16
    go_wp2_with fail
    refine (Nt.bitLen _ 8 (N (bnat l0)) _ ((((Hn3.out.keep hbn2).keep hbn3).keep hbn4).keep hbn5) (by omega)).mono ?_
    rintro e w' ⟨rfl, hw'⟩
    obtain rfl := hw'
    have hbl : blen (N (bnat l0)) ≤ 256 := blen_lt (Hn3.out.nonneg) 256 (by have := Hn3.out.lt; rw [Bp_pow] at this; exact this)
    have HSP : Hid (N (bnat l0) < 2 ^ blen (N (bnat l0)) ∧ (blen (N (bnat l0)) ≠ 0 → (2 : Int) ^ (blen (N (bnat l0)) - 1) ≤ N (bnat l0))) := spec_all (Hn3.out.nonneg)
    generalize hn : blen (N (bnat l0)) = n at *
    have HNB := Lib.hid hn
    clear hn
    go_wp2_with fail
    refine (fromUint64 2 _ (by decide) (by decide)).mono ?_
    rintro e wn6 ⟨vn18, rfl, rn19, hbn6⟩
    have Hn20 := Lib.hid rn19
    clear rn19
    go_wp2_with fail
    refine (Nt.pow _ 2 ((2 : Int)) ((n : Int)) _ (IsNew.num Hn20.out 2 (Int.lt_of_lt_of_le (bp_lit (by decide)) (Bp_mono (by omega)))) (by omega) (by omega) (by omega)).mono ?_
    rintro e wn7 ⟨vn21, rfl, rn22, hbn7⟩
    rw [(pw n (by omega)).1]
    rw [(pw n (by omega)).2] at rn22
    have Hn23 := Lib.hid rn22
    clear rn22
    go_wp2_with fail
    refine (fromUint64 2 _ (by decide) (by decide)).mono ?_
    rintro e wn8 ⟨vn24, rfl, rn25, hbn8⟩
    have Hn26 := Lib.hid rn25
    clear rn25
    have hmx : ∀ (ts : Array TypeId) (t : TypeId) (w : World), (Builtin.max_ ts t #[.int .i64 ((n : Int) - 1), .int .i64 0]).run Try.prog w = .ok (.int .i64 ((n - 1 : Nat) : Int)) w := max2 n
    go_wp2_with fail
    refine (Nt.pow _ 2 ((2 : Int)) (((n - 1 : Nat) : Int)) _ (IsNew.num Hn26.out 2 (Int.lt_of_lt_of_le (bp_lit (by decide)) (Bp_mono (by omega)))) (by omega) (by omega) (by omega)).mono ?_
    rintro e wn9 ⟨vn27, rfl, rn28, hbn9⟩
    rw [(pw (n - 1) (by omega)).1]
    rw [(pw (n - 1) (by omega)).2] at rn28
    have Hn29 := Lib.hid rn28
    clear rn28
    clear hmx
    go_wp2_with fail
    refine (Nt.cmp _ _ 8 (N (bnat l0)) (N (bnat l1)) _ ((((((((Hn3.out.keep hbn2).keep hbn3).keep hbn4).keep hbn5).keep hbn6).keep hbn7).keep hbn8).keep hbn9) (((((((Hn7.out.keep hbn3).keep hbn4).keep hbn5).keep hbn6).keep hbn7).keep hbn8).keep hbn9) (by omega)).mono ?_
    rintro e wn10 ⟨rfl, hbn10⟩
    have hc1 : 0 ≤ cmpI (N (bnat l0)) (N (bnat l1)) := (cmp_ge _ _).2 HLE.out
    have hdc : decide (0 ≤ cmpI (N (bnat l0)) (N (bnat l1))) = true := by simp; omega
    go_wp2_with fail
    refine (Nt.cmp _ _ 8 (N (bnat l0)) (N (bnat l1)) _ (((((((((Hn3.out.keep hbn2).keep hbn3).keep hbn4).keep hbn5).keep hbn6).keep hbn7).keep hbn8).keep hbn9).keep hbn10) ((((((((Hn7.out.keep hbn3).keep hbn4).keep hbn5).keep hbn6).keep hbn7).keep hbn8).keep hbn9).keep hbn10) (by omega)).mono ?_
    rintro e wn11 ⟨rfl, hbn11⟩
    go_wp2_with fail
    refine (Nt.cmp _ _ 8 (N (bnat l1)) (N (bnat l0)) _ (((((((((Hn7.out.keep hbn3).keep hbn4).keep hbn5).keep hbn6).keep hbn7).keep hbn8).keep hbn9).keep hbn10).keep hbn11) ((((((((((Hn3.out.keep hbn2).keep hbn3).keep hbn4).keep hbn5).keep hbn6).keep hbn7).keep hbn8).keep hbn9).keep hbn10).keep hbn11) (by omega)).mono ?_
    rintro e wn12 ⟨rfl, hbn12⟩
    have HNEG := Lib.hid (cmp_neg (N (bnat l0)) (N (bnat l1)))
    have hcb := cmp_bd (N (bnat l1)) (N (bnat l0))
    rw [HNEG.out] at hc1 hdc ⊢
    generalize cmpI (N (bnat l1)) (N (bnat l0)) = cba at *
    go_wp2_with fail
    refine (normalize _ 8 (N (bnat l0)) _ (((((((((((Hn3.out.keep hbn2).keep hbn3).keep hbn4).keep hbn5).keep hbn6).keep hbn7).keep hbn8).keep hbn9).keep hbn10).keep hbn11).keep hbn12) (by omega)).mono ?_
    rintro e wn13 ⟨vn30, rfl, rn31, hbn13⟩
    have Hn32 := Lib.hid rn31
    clear rn31
    clear hc1 hdc hcb
    go_wp2_with fail
    refine (sameN ((((((((Hn17.out.keep hbn6).keep hbn7).keep hbn8).keep hbn9).keep hbn10).keep hbn11).keep hbn12).keep hbn13) Hn32.out).mono ?_
    rintro e wn14 ⟨rfl, hbn14⟩
    rw [decide_eq_true (by omega)]
    go_wp2_with fail
    refine (Nt.cmp _ _ 10 (N (bnat l0)) ((2 : Int) ^ n) _ (Num.mono (((((((((((((Hn3.out.keep hbn2).keep hbn3).keep hbn4).keep hbn5).keep hbn6).keep hbn7).keep hbn8).keep hbn9).keep hbn10).keep hbn11).keep hbn12).keep hbn13).keep hbn14) (by omega)) (IsNew.num (((((((Hn23.out.keep hbn8).keep hbn9).keep hbn10).keep hbn11).keep hbn12).keep hbn13).keep hbn14) 10 (Int.lt_of_lt_of_le (pb n (by omega)) (Bp_mono (by omega)))) (by omega)).mono ?_
    rintro e wn15 ⟨rfl, hbn15⟩
    rw [cmp_lt HSP.out.1]
    by_cases hn0 : n = 0
    · have hz : ((n : Int) == 0) = true := by rw [hn0]; rfl
      go_wp2_with fail
      refine (Nt.known _).mono ?_
      rintro e wn16 ⟨rfl, hbn16⟩
      go_wp2_with fail
      have hbn1_s := hbn1.size
      have hbn2_s := hbn2.size
      have hbn3_s := hbn3.size
      have hbn4_s := hbn4.size
      have hbn5_s := hbn5.size
      have hbn6_s := hbn6.size
      have hbn7_s := hbn7.size
      have hbn8_s := hbn8.size
      have hbn9_s := hbn9.size
      have hbn10_s := hbn10.size
      have hbn11_s := hbn11.size
      have hbn12_s := hbn12.size
      have hbn13_s := hbn13.size
      have hbn14_s := hbn14.size
      have hbn15_s := hbn15.size
      go_ret
      exact ⟨rfl, (((((((((((((((hbn1.trans (hbn2.mono (by omega))).trans (hbn3.mono (by omega))).trans (hbn4.mono (by omega))).trans (hbn5.mono (by omega))).trans (hbn6.mono (by omega))).trans (hbn7.mono (by omega))).trans (hbn8.mono (by omega))).trans (hbn9.mono (by omega))).trans (hbn10.mono (by omega))).trans (hbn11.mono (by omega))).trans (hbn12.mono (by omega))).trans (hbn13.mono (by omega))).trans (hbn14.mono (by omega))).trans (hbn15.mono (by omega))).trans (hbn16.mono (by omega)))⟩
    · have hz : ((n : Int) == 0) = false := by rw [beq_eq_false_iff_ne]; omega
      go_wp2_with fail
      refine (Nt.cmp _ _ 10 (N (bnat l0)) ((2 : Int) ^ (n - 1)) _ (Num.mono ((((((((((((((Hn3.out.keep hbn2).keep hbn3).keep hbn4).keep hbn5).keep hbn6).keep hbn7).keep hbn8).keep hbn9).keep hbn10).keep hbn11).keep hbn12).keep hbn13).keep hbn14).keep hbn15) (by omega)) (IsNew.num ((((((Hn29.out.keep hbn10).keep hbn11).keep hbn12).keep hbn13).keep hbn14).keep hbn15) 10 (Int.lt_of_lt_of_le (pb (n - 1) (by omega)) (Bp_mono (by omega)))) (by omega)).mono ?_
      rintro e wn16 ⟨rfl, hbn16⟩
      have hc2 : 0 ≤ cmpI (N (bnat l0)) (2 ^ (n - 1)) := (cmp_ge _ _).2 (HSP.out.2 hn0)
      generalize cmpI (N (bnat l0)) (2 ^ (n - 1)) = cal at *
      go_wp2_with fail
      refine (Nt.known _).mono ?_
      rintro e wn17 ⟨rfl, hbn17⟩
      go_wp2_with fail
      have hbn1_s := hbn1.size
      have hbn2_s := hbn2.size
      have hbn3_s := hbn3.size
      have hbn4_s := hbn4.size
      have hbn5_s := hbn5.size
      have hbn6_s := hbn6.size
      have hbn7_s := hbn7.size
      have hbn8_s := hbn8.size
      have hbn9_s := hbn9.size
      have hbn10_s := hbn10.size
      have hbn11_s := hbn11.size
      have hbn12_s := hbn12.size
      have hbn13_s := hbn13.size
      have hbn14_s := hbn14.size
      have hbn15_s := hbn15.size
      have hbn16_s := hbn16.size
      go_ret
      exact ⟨rfl, ((((((((((((((((hbn1.trans (hbn2.mono (by omega))).trans (hbn3.mono (by omega))).trans (hbn4.mono (by omega))).trans (hbn5.mono (by omega))).trans (hbn6.mono (by omega))).trans (hbn7.mono (by omega))).trans (hbn8.mono (by omega))).trans (hbn9.mono (by omega))).trans (hbn10.mono (by omega))).trans (hbn11.mono (by omega))).trans (hbn12.mono (by omega))).trans (hbn13.mono (by omega))).trans (hbn14.mono (by omega))).trans (hbn15.mono (by omega))).trans (hbn16.mono (by omega))).trans (hbn17.mono (by omega)))⟩
  · have HLE := Lib.hid hle
    clear hle
    go_wp2_with fail
    refine (Nt.sub _ _ 8 (N (bnat l0)) (N (bnat l1)) _ (Hn3.out.keep hbn2) Hn7.out (by omega)).mono ?_
    rintro e wn3 ⟨vn9, rfl, rn10, hbn3⟩
    rw [decide_eq_false (by have := HLE.out; omega)]
    rw [if_neg (by have := HLE.out; omega)] at rn10
    have Hn11 := Lib.hid rn10
    clear rn10
    go_wp2_with fail
    refine (Nt.add _ _ 8 (N (bnat l0)) (N (bnat l1)) _ ((Hn3.out.keep hbn2).keep hbn3) (Hn7.out.keep hbn3) (by omega)).mono ?_
    rintro e wn4 ⟨vn12, rfl, rn13, hbn4⟩
    have Hn14 := Lib.hid rn13
    clear rn13
    go_wp2_with fail
    refine (Nt.sub _ _ 17 ((N (bnat l0)) + (N (bnat l1))) (N (bnat l1)) _ (IsNew.num Hn14.out 17 (Int.lt_of_lt_of_le (bp_add (Hn3.out.lt) (Hn7.out.lt)) (Bp_mono (by omega)))) (Num.mono ((Hn7.out.keep hbn3).keep hbn4) (by omega)) (by omega)).mono ?_
    rintro e wn5 ⟨vn15, rfl, rn16, hbn5⟩
    rw [decide_eq_true (by have := Hn3.out.nonneg; omega)]
    rw [if_pos (by have := Hn3.out.nonneg; omega)] at rn16
    have Hn17 := Lib.hid rn16
    clear rn16
    go_wp2_with fail
    refine (Nt.bitLen _ 8 (N (bnat l0)) _ ((((Hn3.out.keep hbn2).keep hbn3).keep hbn4).keep hbn5) (by omega)).mono ?_
    rintro e w' ⟨rfl, hw'⟩
    obtain rfl := hw'
    have hbl : blen (N (bnat l0)) ≤ 256 := blen_lt (Hn3.out.nonneg) 256 (by have := Hn3.out.lt; rw [Bp_pow] at this; exact this)
    have HSP : Hid (N (bnat l0) < 2 ^ blen (N (bnat l0)) ∧ (blen (N (bnat l0)) ≠ 0 → (2 : Int) ^ (blen (N (bnat l0)) - 1) ≤ N (bnat l0))) := spec_all (Hn3.out.nonneg)
    generalize hn : blen (N (bnat l0)) = n at *
    have HNB := Lib.hid hn
    clear hn
    go_wp2_with fail
    refine (fromUint64 2 _ (by decide) (by decide)).mono ?_
    rintro e wn6 ⟨vn18, rfl, rn19, hbn6⟩
    have Hn20 := Lib.hid rn19
    clear rn19
    go_wp2_with fail
    refine (Nt.pow _ 2 ((2 : Int)) ((n : Int)) _ (IsNew.num Hn20.out 2 (Int.lt_of_lt_of_le (bp_lit (by decide)) (Bp_mono (by omega)))) (by omega) (by omega) (by omega)).mono ?_
    rintro e wn7 ⟨vn21, rfl, rn22, hbn7⟩
    rw [(pw n (by omega)).1]
    rw [(pw n (by omega)).2] at rn22
    have Hn23 := Lib.hid rn22
    clear rn22
    go_wp2_with fail
    refine (fromUint64 2 _ (by decide) (by decide)).mono ?_
    rintro e wn8 ⟨vn24, rfl, rn25, hbn8⟩
    have Hn26 := Lib.hid rn25
    clear rn25
    have hmx : ∀ (ts : Array TypeId) (t : TypeId) (w : World), (Builtin.max_ ts t #[.int .i64 ((n : Int) - 1), .int .i64 0]).run Try.prog w = .ok (.int .i64 ((n - 1 : Nat) : Int)) w := max2 n
    go_wp2_with fail
    refine (Nt.pow _ 2 ((2 : Int)) (((n - 1 : Nat) : Int)) _ (IsNew.num Hn26.out 2 (Int.lt_of_lt_of_le (bp_lit (by decide)) (Bp_mono (by omega)))) (by omega) (by omega) (by omega)).mono ?_
    rintro e wn9 ⟨vn27, rfl, rn28, hbn9⟩
    rw [(pw (n - 1) (by omega)).1]
    rw [(pw (n - 1) (by omega)).2] at rn28
    have Hn29 := Lib.hid rn28
    clear rn28
    clear hmx
    go_wp2_with fail
    refine (Nt.cmp _ _ 8 (N (bnat l0)) (N (bnat l1)) _ ((((((((Hn3.out.keep hbn2).keep hbn3).keep hbn4).keep hbn5).keep hbn6).keep hbn7).keep hbn8).keep hbn9) (((((((Hn7.out.keep hbn3).keep hbn4).keep hbn5).keep hbn6).keep hbn7).keep hbn8).keep hbn9) (by omega)).mono ?_
    rintro e wn10 ⟨rfl, hbn10⟩
    have hc1 : ¬ 0 ≤ cmpI (N (bnat l0)) (N (bnat l1)) := fun h => by have h1 := (cmp_ge _ _).1 h; have := HLE.out; omega
    have hdc : decide (0 ≤ cmpI (N (bnat l0)) (N (bnat l1))) = false := by simp; omega
    go_wp2_with fail
    refine (Nt.cmp _ _ 8 (N (bnat l0)) (N (bnat l1)) _ (((((((((Hn3.out.keep hbn2).keep hbn3).keep hbn4).keep hbn5).keep hbn6).keep hbn7).keep hbn8).keep hbn9).keep hbn10) ((((((((Hn7.out.keep hbn3).keep hbn4).keep hbn5).keep hbn6).keep hbn7).keep hbn8).keep hbn9).keep hbn10) (by omega)).mono ?_
    rintro e wn11 ⟨rfl, hbn11⟩
    go_wp2_with fail
    refine (Nt.cmp _ _ 8 (N (bnat l1)) (N (bnat l0)) _ (((((((((Hn7.out.keep hbn3).keep hbn4).keep hbn5).keep hbn6).keep hbn7).keep hbn8).keep hbn9).keep hbn10).keep hbn11) ((((((((((Hn3.out.keep hbn2).keep hbn3).keep hbn4).keep hbn5).keep hbn6).keep hbn7).keep hbn8).keep hbn9).keep hbn10).keep hbn11) (by omega)).mono ?_
    rintro e wn12 ⟨rfl, hbn12⟩
    have HNEG := Lib.hid (cmp_neg (N (bnat l0)) (N (bnat l1)))
    have hcb := cmp_bd (N (bnat l1)) (N (bnat l0))
    rw [HNEG.out] at hc1 hdc ⊢
    generalize cmpI (N (bnat l1)) (N (bnat l0)) = cba at *
    go_wp2_with fail
    refine (normalize _ 8 (N (bnat l0)) _ (((((((((((Hn3.out.keep hbn2).keep hbn3).keep hbn4).keep hbn5).keep hbn6).keep hbn7).keep hbn8).keep hbn9).keep hbn10).keep hbn11).keep hbn12) (by omega)).mono ?_
    rintro e wn13 ⟨vn30, rfl, rn31, hbn13⟩
    have Hn32 := Lib.hid rn31
    clear rn31
    clear hc1 hdc hcb
    go_wp2_with fail
    refine (sameN ((((((((Hn17.out.keep hbn6).keep hbn7).keep hbn8).keep hbn9).keep hbn10).keep hbn11).keep hbn12).keep hbn13) Hn32.out).mono ?_
    rintro e wn14 ⟨rfl, hbn14⟩
    rw [decide_eq_true (by omega)]
    go_wp2_with fail
    refine (Nt.cmp _ _ 10 (N (bnat l0)) ((2 : Int) ^ n) _ (Num.mono (((((((((((((Hn3.out.keep hbn2).keep hbn3).keep hbn4).keep hbn5).keep hbn6).keep hbn7).keep hbn8).keep hbn9).keep hbn10).keep hbn11).keep hbn12).keep hbn13).keep hbn14) (by omega)) (IsNew.num (((((((Hn23.out.keep hbn8).keep hbn9).keep hbn10).keep hbn11).keep hbn12).keep hbn13).keep hbn14) 10 (Int.lt_of_lt_of_le (pb n (by omega)) (Bp_mono (by omega)))) (by omega)).mono ?_
    rintro e wn15 ⟨rfl, hbn15⟩
    rw [cmp_lt HSP.out.1]
    by_cases hn0 : n = 0
    · have hz : ((n : Int) == 0) = true := by rw [hn0]; rfl
      go_wp2_with fail
      refine (Nt.known _).mono ?_
      rintro e wn16 ⟨rfl, hbn16⟩
      go_wp2_with fail
      have hbn1_s := hbn1.size
      have hbn2_s := hbn2.size
      have hbn3_s := hbn3.size
      have hbn4_s := hbn4.size
      have hbn5_s := hbn5.size
      have hbn6_s := hbn6.size
      have hbn7_s := hbn7.size
      have hbn8_s := hbn8.size
      have hbn9_s := hbn9.size
      have hbn10_s := hbn10.size
      have hbn11_s := hbn11.size
      have hbn12_s := hbn12.size
      have hbn13_s := hbn13.size
      have hbn14_s := hbn14.size
      have hbn15_s := hbn15.size
      go_ret
      exact ⟨rfl, (((((((((((((((hbn1.trans (hbn2.mono (by omega))).trans (hbn3.mono (by omega))).trans (hbn4.mono (by omega))).trans (hbn5.mono (by omega))).trans (hbn6.mono (by omega))).trans (hbn7.mono (by omega))).trans (hbn8.mono (by omega))).trans (hbn9.mono (by omega))).trans (hbn10.mono (by omega))).trans (hbn11.mono (by omega))).trans (hbn12.mono (by omega))).trans (hbn13.mono (by omega))).trans (hbn14.mono (by omega))).trans (hbn15.mono (by omega))).trans (hbn16.mono (by omega)))⟩
    · have hz : ((n : Int) == 0) = false := by rw [beq_eq_false_iff_ne]; omega
      go_wp2_with fail
      refine (Nt.cmp _ _ 10 (N (bnat l0)) ((2 : Int) ^ (n - 1)) _ (Num.mono ((((((((((((((Hn3.out.keep hbn2).keep hbn3).keep hbn4).keep hbn5).keep hbn6).keep hbn7).keep hbn8).keep hbn9).keep hbn10).keep hbn11).keep hbn12).keep hbn13).keep hbn14).keep hbn15) (by omega)) (IsNew.num ((((((Hn29.out.keep hbn10).keep hbn11).keep hbn12).keep hbn13).keep hbn14).keep hbn15) 10 (Int.lt_of_lt_of_le (pb (n - 1) (by omega)) (Bp_mono (by omega)))) (by omega)).mono ?_
      rintro e wn16 ⟨rfl, hbn16⟩
      have hc2 : 0 ≤ cmpI (N (bnat l0)) (2 ^ (n - 1)) := (cmp_ge _ _).2 (HSP.out.2 hn0)
      generalize cmpI (N (bnat l0)) (2 ^ (n - 1)) = cal at *
      go_wp2_with fail
      refine (Nt.known _).mono ?_
      rintro e wn17 ⟨rfl, hbn17⟩
      go_wp2_with fail
      have hbn1_s := hbn1.size
      have hbn2_s := hbn2.size
      have hbn3_s := hbn3.size
      have hbn4_s := hbn4.size
      have hbn5_s := hbn5.size
      have hbn6_s := hbn6.size
      have hbn7_s := hbn7.size
      have hbn8_s := hbn8.size
      have hbn9_s := hbn9.size
      have hbn10_s := hbn10.size
      have hbn11_s := hbn11.size
      have hbn12_s := hbn12.size
      have hbn13_s := hbn13.size
      have hbn14_s := hbn14.size
      have hbn15_s := hbn15.size
      have hbn16_s := hbn16.size
      go_ret
      exact ⟨rfl, ((((((((((((((((hbn1.trans (hbn2.mono (by omega))).trans (hbn3.mono (by omega))).trans (hbn4.mono (by omega))).trans (hbn5.mono (by omega))).trans (hbn6.mono (by omega))).trans (hbn7.mono (by omega))).trans (hbn8.mono (by omega))).trans (hbn9.mono (by omega))).trans (hbn10.mono (by omega))).trans (hbn11.mono (by omega))).trans (hbn12.mono (by omega))).trans (hbn13.mono (by omega))).trans (hbn14.mono (by omega))).trans (hbn15.mono (by omega))).trans (hbn16.mono (by omega))).trans (hbn17.mono (by omega)))⟩
end Go.Proofs.Ythndffacpijnoaa.bignatOrder
