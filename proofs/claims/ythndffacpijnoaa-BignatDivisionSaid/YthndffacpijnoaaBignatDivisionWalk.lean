/-
  The walk of BignatDivision.
-/
import Derived.Test.YthndffacpijnoaaLawKit
namespace Go.Proofs.Ythndffacpijnoaa.bignatDivision
open Go.ChangeShapes Go.WideShapes Go.ChangeAt Go.RowKit B Nt
set_option linter.unusedVariables false

set_option maxHeartbeats 2000000 in
theorem walk (a0 : Option Addr) (len0 cap0 : Nat) (z0 : List Int) (a1 : Option Addr) (len1 cap1 : Nat) (z1 : List Int) (w : World) (w0 : IsRow .u32 w a0 len0 cap0 z0) (w1 : IsRow .u32 w a1 len1 cap1 z1) :
    Calls Try.prog 5 #[.slice a0 len0 cap0, .slice a1 len1 cap1] w fun e w' => e = .returned (.bool true) ∧ Below w.heap.size w w' := by
  have X0 := Lib.hid (Row.of w0)
  have X1 := Lib.hid (Row.of w1)
  clear w0 w1
  generalize z0.take len0 = l0 at *
  generalize z1.take len1 = l1 at *
  go_enter Try.func5, Try.ntmps5
  go_wp2_with fail
  refine (baseNat _ l0 _ X0.out).mono ?_
  rintro e wn1 ⟨vn1, rfl, rn2, hbn1⟩
  have Hn3 : Hid (Num wn1 vn1 8 (N (bnat l0))) := ⟨_, rn2, bnat_len _, rfl⟩
  have Rn4 := Lib.hid rn2
  clear rn2
  go_wp2_with fail
  refine (baseNat _ l1 _ (X1.out.keep hbn1)).mono ?_
  rintro e wn2 ⟨vn5, rfl, rn6, hbn2⟩
  have Hn7 : Hid (Num wn2 vn5 8 (N (bnat l1))) := ⟨_, rn6, bnat_len _, rfl⟩
  have Rn8 := Lib.hid rn6
  clear rn6
  by_cases hz : N (bnat l1) = 0
  · have HZ := Lib.hid hz
    clear hz
    go_wp2_with fail
    refine (Nt.divMod _ _ 8 (N (bnat l0)) (N (bnat l1)) _ (Hn3.out.keep hbn2) Hn7.out (by omega)).mono ?_
    rintro e wn3 ⟨vqn9, vrn10, rfl, rqn11, rrn12, hbn3⟩
    have HQn13 := Lib.hid rqn11
    have HRn14 := Lib.hid rrn12
    clear rqn11 rrn12
    rw [decide_eq_false (by simpa using HZ.out)]
    obtain ⟨azn15, czn16, rfl⟩ := IsNew.zero (HQn13.out) (by rw [HZ.out, Int.ediv_zero])
    obtain ⟨azn17, czn18, rfl⟩ := IsNew.zero (HRn14.out) (by rw [if_pos HZ.out])
    go_wp2_with fail
    refine (Nt.bitLen _ 8 (N (bnat l1)) _ (Hn7.out.keep hbn3) (by omega)).mono ?_
    rintro e w' ⟨rfl, hw'⟩
    obtain rfl := hw'
    rw [show blen (N (bnat l1)) = 0 by rw [HZ.out]; rfl]
    go_wp2_with fail
    refine (Nt.known _).mono ?_
    rintro e wn4 ⟨rfl, hbn4⟩
    go_wp2_with fail
    have hbn1_s := hbn1.size
    have hbn2_s := hbn2.size
    have hbn3_s := hbn3.size
    go_ret
    exact ⟨rfl, (((hbn1.trans (hbn2.mono (by omega))).trans (hbn3.mono (by omega))).trans (hbn4.mono (by omega)))⟩
  · have HZ := Lib.hid hz
    clear hz
    have HPB : Hid (0 < N (bnat l1)) := by
      have := Hn7.out.nonneg
      have := HZ.out
      show 0 < N (bnat l1)
      omega
    go_wp2_with fail
    refine (Nt.divMod _ _ 8 (N (bnat l0)) (N (bnat l1)) _ (Hn3.out.keep hbn2) Hn7.out (by omega)).mono ?_
    rintro e wn3 ⟨vqn9, vrn10, rfl, rqn11, rrn12, hbn3⟩
    rw [if_neg (HZ.out)] at rrn12
    rw [decide_eq_true (HZ.out)]
    have HQn13 := Lib.hid rqn11
    have HRn14 := Lib.hid rrn12
    clear rqn11 rrn12
    go_wp2_with fail
    refine (Nt.bitLen _ 8 (N (bnat l1)) _ (Hn7.out.keep hbn3) (by omega)).mono ?_
    rintro e w' ⟨rfl, hw'⟩
    obtain rfl := hw'
    have hbz := blen_zero (Hn7.out.nonneg)
    rw [decide_eq_false HZ.out] at hbz
    go_wp2_with fail
    refine (Nt.mul _ _ 8 (N (bnat l0)) (N (bnat l1)) _ ((Hn3.out.keep hbn2).keep hbn3) (Hn7.out.keep hbn3) (by omega)).mono ?_
    rintro e wn4 ⟨vn15, rfl, rn16, hbn4⟩
    have Hn17 := Lib.hid rn16
    clear rn16
    clear hbz
    go_wp2_with fail
    refine (Nt.divMod _ _ 16 ((N (bnat l0)) * (N (bnat l1))) (N (bnat l1)) _ (IsNew.num Hn17.out 16 (bp_mul (Hn3.out.nonneg) (Hn3.out.lt) (Hn7.out.nonneg) (Hn7.out.lt))) (Num.mono ((Hn7.out.keep hbn3).keep hbn4) (by omega)) (by omega)).mono ?_
    rintro e wn5 ⟨vqn18, vrn19, rfl, rqn20, rrn21, hbn5⟩
    rw [if_neg (HZ.out)] at rrn21
    rw [decide_eq_true (HZ.out)]
    have HQn22 := Lib.hid rqn20
    have HRn23 := Lib.hid rrn21
    clear rqn20 rrn21
    obtain ⟨azn24, czn25, rfl⟩ := IsNew.zero (HRn23.out) (Int.mul_emod_left ..)
    go_wp2_with fail
    refine (Nt.cmp _ _ 8 ((N (bnat l0)) % (N (bnat l1))) (N (bnat l1)) _ (IsNew.num ((HRn14.out.keep hbn4).keep hbn5) 8 (Int.lt_of_le_of_lt (emod_le (Hn3.out.nonneg) (Hn7.out.nonneg)) (Hn3.out.lt))) (((Hn7.out.keep hbn3).keep hbn4).keep hbn5) (by omega)).mono ?_
    rintro e wn6 ⟨rfl, hbn6⟩
    rw [show cmpI (N (bnat l0) % N (bnat l1)) (N (bnat l1)) = -1 by rw [cmpI, if_pos (Int.emod_lt_of_pos _ HPB.out)]]
    go_wp2_with fail
    refine (Nt.mul _ _ 8 ((N (bnat l0)) / (N (bnat l1))) (N (bnat l1)) _ (IsNew.num (((HQn13.out.keep hbn4).keep hbn5).keep hbn6) 8 (bp_div (Hn3.out.nonneg) (Hn3.out.lt) (Hn7.out.nonneg))) ((((Hn7.out.keep hbn3).keep hbn4).keep hbn5).keep hbn6) (by omega)).mono ?_
    rintro e wn7 ⟨vn26, rfl, rn27, hbn7⟩
    have Hn28 := Lib.hid rn27
    clear rn27
    go_wp2_with fail
    refine (Nt.add _ _ 16 (((N (bnat l0)) / (N (bnat l1))) * (N (bnat l1))) ((N (bnat l0)) % (N (bnat l1))) _ (IsNew.num Hn28.out 16 (bp_mul (IsNew.nonneg HQn13.out) (bp_div (Hn3.out.nonneg) (Hn3.out.lt) (Hn7.out.nonneg)) (Hn7.out.nonneg) (Hn7.out.lt))) (IsNew.num ((((HRn14.out.keep hbn4).keep hbn5).keep hbn6).keep hbn7) 16 (Int.lt_of_lt_of_le (Int.lt_of_le_of_lt (emod_le (Hn3.out.nonneg) (Hn7.out.nonneg)) (Hn3.out.lt)) (Bp_mono (by omega)))) (by omega)).mono ?_
    rintro e wn8 ⟨vn29, rfl, rn30, hbn8⟩
    have Hn31 := Lib.hid rn30
    clear rn30
    go_wp2_with fail
    refine (normalize _ 8 (N (bnat l0)) _ (((((((Hn3.out.keep hbn2).keep hbn3).keep hbn4).keep hbn5).keep hbn6).keep hbn7).keep hbn8) (by omega)).mono ?_
    rintro e wn9 ⟨vn32, rfl, rn33, hbn9⟩
    have Hn34 := Lib.hid rn33
    clear rn33
    go_wp2_with fail
    refine (sameN (Hn31.out.keep hbn9) Hn34.out).mono ?_
    rintro e wn10 ⟨rfl, hbn10⟩
    rw [decide_eq_true (Int.ediv_mul_add_emod ..)]
    go_wp2_with fail
    refine (normalize _ 8 (N (bnat l0)) _ (((((((((Hn3.out.keep hbn2).keep hbn3).keep hbn4).keep hbn5).keep hbn6).keep hbn7).keep hbn8).keep hbn9).keep hbn10) (by omega)).mono ?_
    rintro e wn11 ⟨vn35, rfl, rn36, hbn11⟩
    have Hn37 := Lib.hid rn36
    clear rn36
    go_wp2_with fail
    refine (sameN ((((((HQn22.out.keep hbn6).keep hbn7).keep hbn8).keep hbn9).keep hbn10).keep hbn11) Hn37.out).mono ?_
    rintro e wn12 ⟨rfl, hbn12⟩
    rw [decide_eq_true (Int.mul_ediv_cancel _ HZ.out)]
    go_wp2_with fail
    refine (Nt.known _).mono ?_
    rintro e wn13 ⟨rfl, hbn13⟩
    go_wp2_with fail
    have hbn1_s := hbn1.size
    have hbn2_s := hbn2.size
    have hbn3_s := hbn3.size
    have hbn4_s := hbn4.size
    have hbn5_s := hbn5.size
    have hbn6_s := hbn6.size
    have hbn7_s := hbn7.size
    have hbn8_s := hbn8.size
    have hbn9_s := hbn9.size
    have hbn10_s := hbn10.size
    have hbn11_s := hbn11.size
    have hbn12_s := hbn12.size
    go_ret
    exact ⟨rfl, ((((((((((((hbn1.trans (hbn2.mono (by omega))).trans (hbn3.mono (by omega))).trans (hbn4.mono (by omega))).trans (hbn5.mono (by omega))).trans (hbn6.mono (by omega))).trans (hbn7.mono (by omega))).trans (hbn8.mono (by omega))).trans (hbn9.mono (by omega))).trans (hbn10.mono (by omega))).trans (hbn11.mono (by omega))).trans (hbn12.mono (by omega))).trans (hbn13.mono (by omega)))⟩
end Go.Proofs.Ythndffacpijnoaa.bignatDivision
