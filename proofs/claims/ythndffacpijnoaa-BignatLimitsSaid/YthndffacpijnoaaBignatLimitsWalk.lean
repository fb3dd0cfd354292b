/-
  The walk of BignatLimits.
-/
import Derived.Test.YthndffacpijnoaaPow
namespace Go.Proofs.Ythndffacpijnoaa.bignatLimits
open Go.ChangeShapes Go.WideShapes Go.ChangeAt Go.RowKit B Nt
set_option linter.unusedVariables false

theorem blen_two (b : Nat) : blen (2 ^ b) = b + 1 := by
  have := two_pos b
  refine blen_of (by omega) (Int.le_refl _) ?_
  rw [Int.pow_succ]; omega
theorem e1 : powE 2 65535 = 0 ∧ powX 2 65535 = 2 ^ 65535 := pow_done (x := 2) (n := 65535) (by rw [blen_two]; decide)
theorem e2 : powE 2 65536 = 4 ∧ powX 2 65536 = 0 := pow_over (x := 2) (n := 65536) (by rw [blen_two]; decide)
theorem e3 : powE 1 1099511627776 = 0 ∧ powX 1 1099511627776 = 1 := by
  have := pow_done (x := 1) (n := 1099511627776) (by rw [one_pow]; decide)
  rw [one_pow] at this; exact this
theorem e4 : powE 0 1099511627776 = 0 ∧ powX 0 1099511627776 = 0 := by
  have := pow_done (x := 0) (n := 1099511627776) (by rw [zero_pow (by decide)]; decide)
  rw [zero_pow (by decide)] at this; exact this
theorem e5 : powE 0 0 = 0 ∧ powX 0 0 = 1 := by
  have := pow_done (x := 0) (n := 0) (by rw [Int.pow_zero]; decide)
  rw [Int.pow_zero] at this; exact this
theorem b1 : (2 : Int) ^ 65535 < Bp 2048 := by
  rw [Bp_pow]
  have := two_mono (show 65535 + 1 ≤ 32 * 2048 by omega)
  rw [Int.pow_succ] at this
  have := two_pos 65535
  omega
theorem num0 (w : World) : Num w (.slice none 0 0) 2 0 := ⟨[], Row.nil _ _, by simp, rfl⟩

set_option maxHeartbeats 2000000 in
theorem walk (w : World) :
    Calls Try.prog 9 #[] w fun e w' => e = .returned (.bool true) ∧ Below w.heap.size w w' := by
  go_enter Try.func9, Try.ntmps9
  go_wp2_with fail
  refine (fromUint64 2 _ (by decide) (by decide)).mono ?_
  rintro e wn1 ⟨vn1, rfl, rn2, hbn1⟩
  have Hn3 := Lib.hid rn2
  clear rn2
  go_wp2_with fail
  refine (Nt.pow _ 2 ((2 : Int)) (65535) _ (IsNew.num Hn3.out 2 (Int.lt_of_lt_of_le (bp_lit (by decide)) (Bp_mono (by omega)))) (by omega) (by omega) (by omega)).mono ?_
  rintro e wn2 ⟨vn4, rfl, rn5, hbn2⟩
  rw [e1.1]
  rw [e1.2] at rn5
  have Hn6 := Lib.hid rn5
  clear rn5
  go_wp2_with fail
  refine (Nt.pow _ 2 ((2 : Int)) (65536) _ (IsNew.num (Hn3.out.keep hbn2) 2 (Int.lt_of_lt_of_le (bp_lit (by decide)) (Bp_mono (by omega)))) (by omega) (by omega) (by omega)).mono ?_
  rintro e wn3 ⟨vn7, rfl, rn8, hbn3⟩
  rw [e2.1]
  rw [e2.2] at rn8
  have Hn9 := Lib.hid rn8
  clear rn8
  go_wp2_with fail
  refine (fromUint64 1 _ (by decide) (by decide)).mono ?_
  rintro e wn4 ⟨vn10, rfl, rn11, hbn4⟩
  have Hn12 := Lib.hid rn11
  clear rn11
  go_wp2_with fail
  refine (Nt.pow _ 2 ((1 : Int)) (1099511627776) _ (IsNew.num Hn12.out 2 (Int.lt_of_lt_of_le (bp_lit (by decide)) (Bp_mono (by omega)))) (by omega) (by omega) (by omega)).mono ?_
  rintro e wn5 ⟨vn13, rfl, rn14, hbn5⟩
  rw [e3.1]
  rw [e3.2] at rn14
  have Hn15 := Lib.hid rn14
  clear rn14
  go_wp2_with fail
  refine (Nt.pow _ 2 (0) (1099511627776) _ (num0 _) (by omega) (by omega) (by omega)).mono ?_
  rintro e wn6 ⟨vn16, rfl, rn17, hbn6⟩
  rw [e4.1]
  rw [e4.2] at rn17
  have Hn18 := Lib.hid rn17
  clear rn17
  go_wp2_with fail
  refine (Nt.pow _ 2 (0) (0) _ (num0 _) (by omega) (by omega) (by omega)).mono ?_
  rintro e wn7 ⟨vn19, rfl, rn20, hbn7⟩
  rw [e5.1]
  rw [e5.2] at rn20
  have Hn21 := Lib.hid rn20
  clear rn20
  obtain ⟨azn22, czn23, rfl⟩ := IsNew.zero (Hn18.out) (rfl)
  go_wp2_with fail
  refine (Nt.bitLen _ 2048 ((2 : Int) ^ 65535) _ (IsNew.num (((((Hn6.out.keep hbn3).keep hbn4).keep hbn5).keep hbn6).keep hbn7) 2048 (Int.lt_of_lt_of_le (b1) (Bp_mono (by omega)))) (by omega)).mono ?_
  rintro e w' ⟨rfl, hw'⟩
  obtain rfl := hw'
  rw [blen_two]
  go_wp2_with fail
  refine (fromUint64 1 _ (by decide) (by decide)).mono ?_
  rintro e wn8 ⟨vn24, rfl, rn25, hbn8⟩
  have Hn26 := Lib.hid rn25
  clear rn25
  go_wp2_with fail
  refine (sameN (((Hn15.out.keep hbn6).keep hbn7).keep hbn8) Hn26.out).mono ?_
  rintro e wn9 ⟨rfl, hbn9⟩
  rw [decide_eq_true (rfl)]
  go_wp2_with fail
  refine (fromUint64 1 _ (by decide) (by decide)).mono ?_
  rintro e wn10 ⟨vn27, rfl, rn28, hbn10⟩
  have Hn29 := Lib.hid rn28
  clear rn28
  go_wp2_with fail
  refine (sameN (((Hn21.out.keep hbn8).keep hbn9).keep hbn10) Hn29.out).mono ?_
  rintro e wn11 ⟨rfl, hbn11⟩
  rw [decide_eq_true (rfl)]
  go_wp2_with fail
  refine (Nt.known _).mono ?_
  rintro e wn12 ⟨rfl, hbn12⟩
  go_wp2_with fail
  have hbn1_s := hbn1.size
  have hbn2_s := hbn2.size
  have hbn3_s := hbn3.size
  have hbn4_s := hbn4.size
  have hbn5_s := hbn5.size
  have hbn6_s := hbn6.size
  have hbn7_s := hbn7.size
  have hbn8_s := hbn8.size
  have hbn9_s := hbn9.size
  have hbn10_s := hbn10.size
  have hbn11_s := hbn11.size
  go_ret
  exact ⟨rfl, (((((((((((hbn1.trans (hbn2.mono (by omega))).trans (hbn3.mono (by omega))).trans (hbn4.mono (by omega))).trans (hbn5.mono (by omega))).trans (hbn6.mono (by omega))).trans (hbn7.mono (by omega))).trans (hbn8.mono (by omega))).trans (hbn9.mono (by omega))).trans (hbn10.mono (by omega))).trans (hbn11.mono (by omega))).trans (hbn12.mono (by omega)))⟩
end Go.Proofs.Ythndffacpijnoaa.bignatLimits
