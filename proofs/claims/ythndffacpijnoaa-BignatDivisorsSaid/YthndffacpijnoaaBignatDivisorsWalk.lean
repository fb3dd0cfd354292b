/-
  The walk of BignatDivisors.
-/
import Derived.Test.YthndffacpijnoaaLawKit
namespace Go.Proofs.Ythndffacpijnoaa.bignatDivisors
open Go.ChangeShapes Go.WideShapes Go.ChangeAt Go.RowKit B Nt
set_option linter.unusedVariables false

theorem gcd_facts {x y : Int} (hx : 0 < x) (hy : 0 < y) : 0 < gcdI x y ∧ x % gcdI x y = 0 ∧ y % gcdI x y = 0 ∧ gcdI (x / gcdI x y) (y / gcdI x y) = 1 := by
  obtain ⟨a, rfl⟩ := Int.eq_ofNat_of_zero_le (show 0 ≤ x by omega)
  obtain ⟨b, rfl⟩ := Int.eq_ofNat_of_zero_le (show 0 ≤ y by omega)
  unfold gcdI
  rw [Int.toNat_natCast, Int.toNat_natCast]
  have hp : 0 < Nat.gcd a b := Nat.gcd_pos_of_pos_left b (by omega)
  refine ⟨by omega, ?_, ?_, ?_⟩
  · have := Nat.mod_eq_zero_of_dvd (Nat.gcd_dvd_left a b); omega
  · have := Nat.mod_eq_zero_of_dvd (Nat.gcd_dvd_right a b); omega
  · have e1 : ((a : Int) / ((Nat.gcd a b : Nat) : Int)).toNat = a / Nat.gcd a b := by rw [← Int.natCast_ediv, Int.toNat_natCast]
    have e2 : ((b : Int) / ((Nat.gcd a b : Nat) : Int)).toNat = b / Nat.gcd a b := by rw [← Int.natCast_ediv, Int.toNat_natCast]
    rw [e1, e2]
    have e3 := Nat.gcd_mul_left (Nat.gcd a b) (a / Nat.gcd a b) (b / Nat.gcd a b)
    rw [Nat.mul_div_cancel' (Nat.gcd_dvd_left a b), Nat.mul_div_cancel' (Nat.gcd_dvd_right a b)] at e3
    have e4 : Nat.gcd (a / Nat.gcd a b) (b / Nat.gcd a b) = 1 := Nat.eq_of_mul_eq_mul_left hp (by omega)
    rw [e4]; rfl
theorem gcd_mul {x y z : Int} (hx : 0 ≤ x) (hy : 0 ≤ y) (hz : 0 ≤ z) : gcdI (x * z) (y * z) = gcdI x y * z := by
  obtain ⟨a, rfl⟩ := Int.eq_ofNat_of_zero_le hx
  obtain ⟨b, rfl⟩ := Int.eq_ofNat_of_zero_le hy
  obtain ⟨c, rfl⟩ := Int.eq_ofNat_of_zero_le hz
  unfold gcdI
  rw [← Int.natCast_mul, ← Int.natCast_mul, Int.toNat_natCast, Int.toNat_natCast, Int.toNat_natCast, Int.toNat_natCast, Nat.gcd_mul_right, Int.natCast_mul]
theorem gcd_zero_left {y : Int} (hy : 0 ≤ y) : gcdI 0 y = 0 + y := by
  obtain ⟨b, rfl⟩ := Int.eq_ofNat_of_zero_le hy
  simp [gcdI]

set_option maxHeartbeats 2000000 in
theorem walk (a0 : Option Addr) (len0 cap0 : Nat) (z0 : List Int) (a1 : Option Addr) (len1 cap1 : Nat) (z1 : List Int) (a2 : Option Addr) (len2 cap2 : Nat) (z2 : List Int) (w : World) (w0 : IsRow .u32 w a0 len0 cap0 z0) (w1 : IsRow .u32 w a1 len1 cap1 z1) (w2 : IsRow .u32 w a2 len2 cap2 z2) :
    Calls Try.prog 6 #[.slice a0 len0 cap0, .slice a1 len1 cap1, .slice a2 len2 cap2] w fun e w' => e = .returned (.bool true) ∧ Below w.heap.size w w' := by
  have X0 := Lib.hid (Row.of w0)
  have X1 := Lib.hid (Row.of w1)
  have X2 := Lib.hid (Row.of w2)
  clear w0 w1 w2
  generalize z0.take len0 = l0 at *
  generalize z1.take len1 = l1 at *
  generalize z2.take len2 = l2 at *
  go_enter Try.func6, Try.ntmps6
  go_wp2_with fail
  refine (baseNat _ l0 _ X0.out).mono ?_
  rintro e wn1 ⟨vn1, rfl, rn2, hbn1⟩
  have Hn3 : Hid (Num wn1 vn1 8 (N (bnat l0))) := ⟨_, rn2, bnat_len _, rfl⟩
  have Rn4 := Lib.hid rn2
  clear rn2
  go_wp2_with fail
  refine (baseNat _ l1 _ (X1.out.keep hbn1)).mono ?_
  rintro e wn2 ⟨vn5, rfl, rn6, hbn2⟩
  have Hn7 : Hid (Num wn2 vn5 8 (N (bnat l1))) := ⟨_, rn6, bnat_len _, rfl⟩
  have Rn8 := Lib.hid rn6
  clear rn6
  go_wp2_with fail
  refine (baseNat _ l2 _ ((X2.out.keep hbn1).keep hbn2)).mono ?_
  rintro e wn3 ⟨vn9, rfl, rn10, hbn3⟩
  have Hn11 : Hid (Num wn3 vn9 8 (N (bnat l2))) := ⟨_, rn10, bnat_len _, rfl⟩
  have Rn12 := Lib.hid rn10
  clear rn10
  go_wp2_with fail
  refine (Nt.gcd _ _ 8 (N (bnat l0)) (N (bnat l1)) _ ((Hn3.out.keep hbn2).keep hbn3) (Hn7.out.keep hbn3) (by omega)).mono ?_
  rintro e wn4 ⟨vn13, rfl, rn14, hbn4⟩
  have Hn15 := Lib.hid rn14
  clear rn14
  have hz0 := blen_zero (Hn3.out.nonneg)
  have hz1 := blen_zero (Hn7.out.nonneg)
  by_cases hz : N (bnat l0) = 0
  · rw [decide_eq_true hz] at hz0
    have HZ := Lib.hid hz
    clear hz hz1
    go_wp2_with fail
    refine (Nt.bitLen _ 8 (N (bnat l0)) _ (((Hn3.out.keep hbn2).keep hbn3).keep hbn4) (by omega)).mono ?_
    rintro e w' ⟨rfl, hw'⟩
    obtain rfl := hw'
    go_wp2_with fail
    refine (Nt.add _ _ 8 (N (bnat l0)) (N (bnat l1)) _ (((Hn3.out.keep hbn2).keep hbn3).keep hbn4) ((Hn7.out.keep hbn3).keep hbn4) (by omega)).mono ?_
    rintro e wn5 ⟨vn16, rfl, rn17, hbn5⟩
    have Hn18 := Lib.hid rn17
    clear rn17
    go_wp2_with fail
    refine (sameN (Hn15.out.keep hbn5) Hn18.out).mono ?_
    rintro e wn6 ⟨rfl, hbn6⟩
    rw [decide_eq_true (by rw [HZ.out]; exact gcd_zero_left (Hn7.out.nonneg))]
    go_wp2_with fail
    refine (Nt.known _).mono ?_
    rintro e wn7 ⟨rfl, hbn7⟩
    go_wp2_with fail
    have hbn1_s := hbn1.size
    have hbn2_s := hbn2.size
    have hbn3_s := hbn3.size
    have hbn4_s := hbn4.size
    have hbn5_s := hbn5.size
    have hbn6_s := hbn6.size
    go_ret
    exact ⟨rfl, ((((((hbn1.trans (hbn2.mono (by omega))).trans (hbn3.mono (by omega))).trans (hbn4.mono (by omega))).trans (hbn5.mono (by omega))).trans (hbn6.mono (by omega))).trans (hbn7.mono (by omega)))⟩
  · rw [decide_eq_false hz] at hz0
    by_cases hy : N (bnat l1) = 0
    · rw [decide_eq_true hy] at hz1
      have HZ := Lib.hid hy
      clear hz hy
      go_wp2_with fail
      refine (Nt.bitLen _ 8 (N (bnat l0)) _ (((Hn3.out.keep hbn2).keep hbn3).keep hbn4) (by omega)).mono ?_
      rintro e w' ⟨rfl, hw'⟩
      obtain rfl := hw'
      go_wp2_with fail
      refine (Nt.bitLen _ 8 (N (bnat l1)) _ ((Hn7.out.keep hbn3).keep hbn4) (by omega)).mono ?_
      rintro e w' ⟨rfl, hw'⟩
      obtain rfl := hw'
      go_wp2_with fail
      refine (Nt.add _ _ 8 (N (bnat l0)) (N (bnat l1)) _ (((Hn3.out.keep hbn2).keep hbn3).keep hbn4) ((Hn7.out.keep hbn3).keep hbn4) (by omega)).mono ?_
      rintro e wn5 ⟨vn16, rfl, rn17, hbn5⟩
      have Hn18 := Lib.hid rn17
      clear rn17
      go_wp2_with fail
      refine (sameN (Hn15.out.keep hbn5) Hn18.out).mono ?_
      rintro e wn6 ⟨rfl, hbn6⟩
      rw [decide_eq_true (by rw [HZ.out, gcdI_zero (Hn3.out.nonneg), Int.add_zero])]
      go_wp2_with fail
      refine (Nt.known _).mono ?_
      rintro e wn7 ⟨rfl, hbn7⟩
      go_wp2_with fail
      have hbn1_s := hbn1.size
      have hbn2_s := hbn2.size
      have hbn3_s := hbn3.size
      have hbn4_s := hbn4.size
      have hbn5_s := hbn5.size
      have hbn6_s := hbn6.size
      go_ret
      exact ⟨rfl, ((((((hbn1.trans (hbn2.mono (by omega))).trans (hbn3.mono (by omega))).trans (hbn4.mono (by omega))).trans (hbn5.mono (by omega))).trans (hbn6.mono (by omega))).trans (hbn7.mono (by omega)))⟩
    · rw [decide_eq_false hy] at hz1
      have HF := Lib.hid (gcd_facts (x := N (bnat l0)) (y := N (bnat l1)) (by have := Hn3.out.nonneg; omega) (by have := Hn7.out.nonneg; omega))
      have HNZ : Hid (gcdI (N (bnat l0)) (N (bnat l1)) ≠ 0) := by have := HF.out.1; show _ ≠ _; omega
      clear hz hy
      go_wp2_with fail
      refine (Nt.bitLen _ 8 (N (bnat l0)) _ (((Hn3.out.keep hbn2).keep hbn3).keep hbn4) (by omega)).mono ?_
      rintro e w' ⟨rfl, hw'⟩
      obtain rfl := hw'
      go_wp2_with fail
      refine (Nt.bitLen _ 8 (N (bnat l1)) _ ((Hn7.out.keep hbn3).keep hbn4) (by omega)).mono ?_
      rintro e w' ⟨rfl, hw'⟩
      obtain rfl := hw'
      go_wp2_with fail
      refine (Nt.divMod _ _ 17 (N (bnat l0)) (gcdI (N (bnat l0)) (N (bnat l1))) _ (Num.mono (((Hn3.out.keep hbn2).keep hbn3).keep hbn4) (by omega)) (IsNew.num Hn15.out 17 (Int.lt_of_lt_of_le (bp_gcd (Hn3.out.nonneg) (Hn3.out.lt) (Hn7.out.nonneg) (Hn7.out.lt)) (Bp_mono (by omega)))) (by omega)).mono ?_
      rintro e wn5 ⟨vqn16, vrn17, rfl, rqn18, rrn19, hbn5⟩
      rw [if_neg (HNZ.out)] at rrn19
      rw [decide_eq_true (HNZ.out)]
      have HQn20 := Lib.hid rqn18
      have HRn21 := Lib.hid rrn19
      clear rqn18 rrn19
      clear hz0 hz1
      go_wp2_with fail
      refine (Nt.divMod _ _ 17 (N (bnat l1)) (gcdI (N (bnat l0)) (N (bnat l1))) _ (Num.mono (((Hn7.out.keep hbn3).keep hbn4).keep hbn5) (by omega)) (IsNew.num (Hn15.out.keep hbn5) 17 (Int.lt_of_lt_of_le (bp_gcd (Hn3.out.nonneg) (Hn3.out.lt) (Hn7.out.nonneg) (Hn7.out.lt)) (Bp_mono (by omega)))) (by omega)).mono ?_
      rintro e wn6 ⟨vqn22, vrn23, rfl, rqn24, rrn25, hbn6⟩
      rw [if_neg (HNZ.out)] at rrn25
      rw [decide_eq_true (HNZ.out)]
      have HQn26 := Lib.hid rqn24
      have HRn27 := Lib.hid rrn25
      clear rqn24 rrn25
      obtain ⟨azn28, czn29, rfl⟩ := IsNew.zero (HRn21.out) (HF.out.2.1)
      obtain ⟨azn30, czn31, rfl⟩ := IsNew.zero (HRn27.out) (HF.out.2.2.1)
      go_wp2_with fail
      refine (Nt.gcd _ _ 8 ((N (bnat l0)) / (gcdI (N (bnat l0)) (N (bnat l1)))) ((N (bnat l1)) / (gcdI (N (bnat l0)) (N (bnat l1)))) _ (IsNew.num (HQn20.out.keep hbn6) 8 (Int.lt_of_lt_of_le (bp_div (Hn3.out.nonneg) (Hn3.out.lt) (IsNew.nonneg Hn15.out)) (Bp_mono (by omega)))) (IsNew.num HQn26.out 8 (Int.lt_of_lt_of_le (bp_div (Hn7.out.nonneg) (Hn7.out.lt) (IsNew.nonneg Hn15.out)) (Bp_mono (by omega)))) (by omega)).mono ?_
      rintro e wn7 ⟨vn32, rfl, rn33, hbn7⟩
      have Hn34 := Lib.hid rn33
      clear rn33
      go_wp2_with fail
      refine (fromUint64 1 _ (by decide) (by decide)).mono ?_
      rintro e wn8 ⟨vn35, rfl, rn36, hbn8⟩
      have Hn37 := Lib.hid rn36
      clear rn36
      go_wp2_with fail
      refine (sameN (Hn34.out.keep hbn8) Hn37.out).mono ?_
      rintro e wn9 ⟨rfl, hbn9⟩
      rw [decide_eq_true (HF.out.2.2.2)]
      go_wp2_with fail
      refine (Nt.mul _ _ 8 (N (bnat l0)) (N (bnat l2)) _ ((((((((Hn3.out.keep hbn2).keep hbn3).keep hbn4).keep hbn5).keep hbn6).keep hbn7).keep hbn8).keep hbn9) ((((((Hn11.out.keep hbn4).keep hbn5).keep hbn6).keep hbn7).keep hbn8).keep hbn9) (by omega)).mono ?_
      rintro e wn10 ⟨vn38, rfl, rn39, hbn10⟩
      have Hn40 := Lib.hid rn39
      clear rn39
      go_wp2_with fail
      refine (Nt.mul _ _ 8 (N (bnat l1)) (N (bnat l2)) _ ((((((((Hn7.out.keep hbn3).keep hbn4).keep hbn5).keep hbn6).keep hbn7).keep hbn8).keep hbn9).keep hbn10) (((((((Hn11.out.keep hbn4).keep hbn5).keep hbn6).keep hbn7).keep hbn8).keep hbn9).keep hbn10) (by omega)).mono ?_
      rintro e wn11 ⟨vn41, rfl, rn42, hbn11⟩
      have Hn43 := Lib.hid rn42
      clear rn42
      go_wp2_with fail
      refine (Nt.gcd _ _ 16 ((N (bnat l0)) * (N (bnat l2))) ((N (bnat l1)) * (N (bnat l2))) _ (IsNew.num (Hn40.out.keep hbn11) 16 (Int.lt_of_lt_of_le (bp_mul (Hn3.out.nonneg) (Hn3.out.lt) (Hn11.out.nonneg) (Hn11.out.lt)) (Bp_mono (by omega)))) (IsNew.num Hn43.out 16 (Int.lt_of_lt_of_le (bp_mul (Hn7.out.nonneg) (Hn7.out.lt) (Hn11.out.nonneg) (Hn11.out.lt)) (Bp_mono (by omega)))) (by omega)).mono ?_
      rintro e wn12 ⟨vn44, rfl, rn45, hbn12⟩
      have Hn46 := Lib.hid rn45
      clear rn45
      go_wp2_with fail
      refine (Nt.mul _ _ 17 (gcdI (N (bnat l0)) (N (bnat l1))) (N (bnat l2)) _ (IsNew.num ((((((((Hn15.out.keep hbn5).keep hbn6).keep hbn7).keep hbn8).keep hbn9).keep hbn10).keep hbn11).keep hbn12) 17 (Int.lt_of_lt_of_le (bp_gcd (Hn3.out.nonneg) (Hn3.out.lt) (Hn7.out.nonneg) (Hn7.out.lt)) (Bp_mono (by omega)))) (Num.mono (((((((((Hn11.out.keep hbn4).keep hbn5).keep hbn6).keep hbn7).keep hbn8).keep hbn9).keep hbn10).keep hbn11).keep hbn12) (by omega)) (by omega)).mono ?_
      rintro e wn13 ⟨vn47, rfl, rn48, hbn13⟩
      have Hn49 := Lib.hid rn48
      clear rn48
      go_wp2_with fail
      refine (sameN (Hn46.out.keep hbn13) Hn49.out).mono ?_
      rintro e wn14 ⟨rfl, hbn14⟩
      rw [decide_eq_true (gcd_mul (Hn3.out.nonneg) (Hn7.out.nonneg) (Hn11.out.nonneg))]
      go_wp2_with fail
      refine (Nt.known _).mono ?_
      rintro e wn15 ⟨rfl, hbn15⟩
      go_wp2_with fail
      have hbn1_s := hbn1.size
      have hbn2_s := hbn2.size
      have hbn3_s := hbn3.size
      have hbn4_s := hbn4.size
      have hbn5_s := hbn5.size
      have hbn6_s := hbn6.size
      have hbn7_s := hbn7.size
      have hbn8_s := hbn8.size
      have hbn9_s := hbn9.size
      have hbn10_s := hbn10.size
      have hbn11_s := hbn11.size
      have hbn12_s := hbn12.size
      have hbn13_s := hbn13.size
      have hbn14_s := hbn14.size
      go_ret
      exact ⟨rfl, ((((((((((((((hbn1.trans (hbn2.mono (by omega))).trans (hbn3.mono (by omega))).trans (hbn4.mono (by omega))).trans (hbn5.mono (by omega))).trans (hbn6.mono (by omega))).trans (hbn7.mono (by omega))).trans (hbn8.mono (by omega))).trans (hbn9.mono (by omega))).trans (hbn10.mono (by omega))).trans (hbn11.mono (by omega))).trans (hbn12.mono (by omega))).trans (hbn13.mono (by omega))).trans (hbn14.mono (by omega))).trans (hbn15.mono (by omega)))⟩
end Go.Proofs.Ythndffacpijnoaa.bignatDivisors
