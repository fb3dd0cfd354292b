/-
  The walk of BignatRing.
-/
import Derived.Test.YthndffacpijnoaaLawKit
namespace Go.Proofs.Ythndffacpijnoaa.bignatRing
open Go.ChangeShapes Go.WideShapes Go.ChangeAt Go.RowKit B Nt
set_option linter.unusedVariables false

set_option maxHeartbeats 2000000 in
theorem walk (a0 : Option Addr) (len0 cap0 : Nat) (z0 : List Int) (a1 : Option Addr) (len1 cap1 : Nat) (z1 : List Int) (a2 : Option Addr) (len2 cap2 : Nat) (z2 : List Int) (w : World) (w0 : IsRow .u32 w a0 len0 cap0 z0) (w1 : IsRow .u32 w a1 len1 cap1 z1) (w2 : IsRow .u32 w a2 len2 cap2 z2) :
    Calls Try.prog 4 #[.slice a0 len0 cap0, .slice a1 len1 cap1, .slice a2 len2 cap2] w fun e w' => e = .returned (.bool true) ∧ Below w.heap.size w w' := by
  have X0 := Lib.hid (Row.of w0)
  have X1 := Lib.hid (Row.of w1)
  have X2 := Lib.hid (Row.of w2)
  clear w0 w1 w2
  generalize z0.take len0 = l0 at *
  generalize z1.take len1 = l1 at *
  generalize z2.take len2 = l2 at *
  go_enter Try.func4, Try.ntmps4
  go_wp2_with fail
  refine (baseNat _ l0 _ X0.out).mono ?_
  rintro e wn1 ⟨vn1, rfl, rn2, hbn1⟩
  have Hn3 : Hid (Num wn1 vn1 8 (N (bnat l0))) := ⟨_, rn2, bnat_len _, rfl⟩
  have Rn4 := Lib.hid rn2
  clear rn2
  go_wp2_with fail
  refine (baseNat _ l1 _ (X1.out.keep hbn1)).mono ?_
  rintro e wn2 ⟨vn5, rfl, rn6, hbn2⟩
  have Hn7 : Hid (Num wn2 vn5 8 (N (bnat l1))) := ⟨_, rn6, bnat_len _, rfl⟩
  have Rn8 := Lib.hid rn6
  clear rn6
  go_wp2_with fail
  refine (baseNat _ l2 _ ((X2.out.keep hbn1).keep hbn2)).mono ?_
  rintro e wn3 ⟨vn9, rfl, rn10, hbn3⟩
  have Hn11 : Hid (Num wn3 vn9 8 (N (bnat l2))) := ⟨_, rn10, bnat_len _, rfl⟩
  have Rn12 := Lib.hid rn10
  clear rn10
  go_wp2_with fail
  refine (add _ _ 8 (N (bnat l0)) (N (bnat l1)) _ ((Hn3.out.keep hbn2).keep hbn3) (Hn7.out.keep hbn3) (by omega)).mono ?_
  rintro e wn4 ⟨vn13, rfl, rn14, hbn4⟩
  have Hn15 := Lib.hid rn14
  clear rn14
  go_wp2_with fail
  refine (add _ _ 8 (N (bnat l1)) (N (bnat l0)) _ ((Hn7.out.keep hbn3).keep hbn4) (((Hn3.out.keep hbn2).keep hbn3).keep hbn4) (by omega)).mono ?_
  rintro e wn5 ⟨vn16, rfl, rn17, hbn5⟩
  have Hn18 := Lib.hid rn17
  clear rn17
  go_wp2_with fail
  refine (sameN (Hn15.out.keep hbn5) Hn18.out).mono ?_
  rintro e wn6 ⟨rfl, hbn6⟩
  rw [decide_eq_true (Int.add_comm ..)]
  go_wp2_with fail
  refine (mul _ _ 8 (N (bnat l0)) (N (bnat l1)) _ (((((Hn3.out.keep hbn2).keep hbn3).keep hbn4).keep hbn5).keep hbn6) ((((Hn7.out.keep hbn3).keep hbn4).keep hbn5).keep hbn6) (by omega)).mono ?_
  rintro e wn7 ⟨vn19, rfl, rn20, hbn7⟩
  have Hn21 := Lib.hid rn20
  clear rn20
  go_wp2_with fail
  refine (mul _ _ 8 (N (bnat l1)) (N (bnat l0)) _ (((((Hn7.out.keep hbn3).keep hbn4).keep hbn5).keep hbn6).keep hbn7) ((((((Hn3.out.keep hbn2).keep hbn3).keep hbn4).keep hbn5).keep hbn6).keep hbn7) (by omega)).mono ?_
  rintro e wn8 ⟨vn22, rfl, rn23, hbn8⟩
  have Hn24 := Lib.hid rn23
  clear rn23
  go_wp2_with fail
  refine (sameN (Hn21.out.keep hbn8) Hn24.out).mono ?_
  rintro e wn9 ⟨rfl, hbn9⟩
  rw [decide_eq_true (Int.mul_comm ..)]
  go_wp2_with fail
  refine (add _ _ 8 (N (bnat l0)) (N (bnat l1)) _ ((((((((Hn3.out.keep hbn2).keep hbn3).keep hbn4).keep hbn5).keep hbn6).keep hbn7).keep hbn8).keep hbn9) (((((((Hn7.out.keep hbn3).keep hbn4).keep hbn5).keep hbn6).keep hbn7).keep hbn8).keep hbn9) (by omega)).mono ?_
  rintro e wn10 ⟨vn25, rfl, rn26, hbn10⟩
  have Hn27 := Lib.hid rn26
  clear rn26
  go_wp2_with fail
  refine (add _ _ 17 ((N (bnat l0)) + (N (bnat l1))) (N (bnat l2)) _ (IsNew.num Hn27.out 17 (bp_add (Hn3.out.lt) (Hn7.out.lt))) (Num.mono (((((((Hn11.out.keep hbn4).keep hbn5).keep hbn6).keep hbn7).keep hbn8).keep hbn9).keep hbn10) (by omega)) (by omega)).mono ?_
  rintro e wn11 ⟨vn28, rfl, rn29, hbn11⟩
  have Hn30 := Lib.hid rn29
  clear rn29
  go_wp2_with fail
  refine (add _ _ 8 (N (bnat l1)) (N (bnat l2)) _ (((((((((Hn7.out.keep hbn3).keep hbn4).keep hbn5).keep hbn6).keep hbn7).keep hbn8).keep hbn9).keep hbn10).keep hbn11) ((((((((Hn11.out.keep hbn4).keep hbn5).keep hbn6).keep hbn7).keep hbn8).keep hbn9).keep hbn10).keep hbn11) (by omega)).mono ?_
  rintro e wn12 ⟨vn31, rfl, rn32, hbn12⟩
  have Hn33 := Lib.hid rn32
  clear rn32
  go_wp2_with fail
  refine (add _ _ 17 (N (bnat l0)) ((N (bnat l1)) + (N (bnat l2))) _ (Num.mono (((((((((((Hn3.out.keep hbn2).keep hbn3).keep hbn4).keep hbn5).keep hbn6).keep hbn7).keep hbn8).keep hbn9).keep hbn10).keep hbn11).keep hbn12) (by omega)) (IsNew.num Hn33.out 17 (bp_add (Hn7.out.lt) (Hn11.out.lt))) (by omega)).mono ?_
  rintro e wn13 ⟨vn34, rfl, rn35, hbn13⟩
  have Hn36 := Lib.hid rn35
  clear rn35
  go_wp2_with fail
  refine (sameN ((Hn30.out.keep hbn12).keep hbn13) Hn36.out).mono ?_
  rintro e wn14 ⟨rfl, hbn14⟩
  rw [decide_eq_true (Int.add_assoc ..)]
  go_wp2_with fail
  refine (mul _ _ 8 (N (bnat l0)) (N (bnat l1)) _ (((((((((((((Hn3.out.keep hbn2).keep hbn3).keep hbn4).keep hbn5).keep hbn6).keep hbn7).keep hbn8).keep hbn9).keep hbn10).keep hbn11).keep hbn12).keep hbn13).keep hbn14) ((((((((((((Hn7.out.keep hbn3).keep hbn4).keep hbn5).keep hbn6).keep hbn7).keep hbn8).keep hbn9).keep hbn10).keep hbn11).keep hbn12).keep hbn13).keep hbn14) (by omega)).mono ?_
  rintro e wn15 ⟨vn37, rfl, rn38, hbn15⟩
  have Hn39 := Lib.hid rn38
  clear rn38
  go_wp2_with fail
  refine (mul _ _ 16 ((N (bnat l0)) * (N (bnat l1))) (N (bnat l2)) _ (IsNew.num Hn39.out 16 (bp_mul (Hn3.out.nonneg) (Hn3.out.lt) (Hn7.out.nonneg) (Hn7.out.lt))) (Num.mono ((((((((((((Hn11.out.keep hbn4).keep hbn5).keep hbn6).keep hbn7).keep hbn8).keep hbn9).keep hbn10).keep hbn11).keep hbn12).keep hbn13).keep hbn14).keep hbn15) (by omega)) (by omega)).mono ?_
  rintro e wn16 ⟨vn40, rfl, rn41, hbn16⟩
  have Hn42 := Lib.hid rn41
  clear rn41
  go_wp2_with fail
  refine (mul _ _ 8 (N (bnat l1)) (N (bnat l2)) _ ((((((((((((((Hn7.out.keep hbn3).keep hbn4).keep hbn5).keep hbn6).keep hbn7).keep hbn8).keep hbn9).keep hbn10).keep hbn11).keep hbn12).keep hbn13).keep hbn14).keep hbn15).keep hbn16) (((((((((((((Hn11.out.keep hbn4).keep hbn5).keep hbn6).keep hbn7).keep hbn8).keep hbn9).keep hbn10).keep hbn11).keep hbn12).keep hbn13).keep hbn14).keep hbn15).keep hbn16) (by omega)).mono ?_
  rintro e wn17 ⟨vn43, rfl, rn44, hbn17⟩
  have Hn45 := Lib.hid rn44
  clear rn44
  go_wp2_with fail
  refine (mul _ _ 16 (N (bnat l0)) ((N (bnat l1)) * (N (bnat l2))) _ (Num.mono ((((((((((((((((Hn3.out.keep hbn2).keep hbn3).keep hbn4).keep hbn5).keep hbn6).keep hbn7).keep hbn8).keep hbn9).keep hbn10).keep hbn11).keep hbn12).keep hbn13).keep hbn14).keep hbn15).keep hbn16).keep hbn17) (by omega)) (IsNew.num Hn45.out 16 (bp_mul (Hn7.out.nonneg) (Hn7.out.lt) (Hn11.out.nonneg) (Hn11.out.lt))) (by omega)).mono ?_
  rintro e wn18 ⟨vn46, rfl, rn47, hbn18⟩
  have Hn48 := Lib.hid rn47
  clear rn47
  go_wp2_with fail
  refine (sameN ((Hn42.out.keep hbn17).keep hbn18) Hn48.out).mono ?_
  rintro e wn19 ⟨rfl, hbn19⟩
  rw [decide_eq_true (Int.mul_assoc ..)]
  go_wp2_with fail
  refine (add _ _ 8 (N (bnat l1)) (N (bnat l2)) _ (((((((((((((((((Hn7.out.keep hbn3).keep hbn4).keep hbn5).keep hbn6).keep hbn7).keep hbn8).keep hbn9).keep hbn10).keep hbn11).keep hbn12).keep hbn13).keep hbn14).keep hbn15).keep hbn16).keep hbn17).keep hbn18).keep hbn19) ((((((((((((((((Hn11.out.keep hbn4).keep hbn5).keep hbn6).keep hbn7).keep hbn8).keep hbn9).keep hbn10).keep hbn11).keep hbn12).keep hbn13).keep hbn14).keep hbn15).keep hbn16).keep hbn17).keep hbn18).keep hbn19) (by omega)).mono ?_
  rintro e wn20 ⟨vn49, rfl, rn50, hbn20⟩
  have Hn51 := Lib.hid rn50
  clear rn50
  go_wp2_with fail
  refine (mul _ _ 17 (N (bnat l0)) ((N (bnat l1)) + (N (bnat l2))) _ (Num.mono (((((((((((((((((((Hn3.out.keep hbn2).keep hbn3).keep hbn4).keep hbn5).keep hbn6).keep hbn7).keep hbn8).keep hbn9).keep hbn10).keep hbn11).keep hbn12).keep hbn13).keep hbn14).keep hbn15).keep hbn16).keep hbn17).keep hbn18).keep hbn19).keep hbn20) (by omega)) (IsNew.num Hn51.out 17 (bp_add (Hn7.out.lt) (Hn11.out.lt))) (by omega)).mono ?_
  rintro e wn21 ⟨vn52, rfl, rn53, hbn21⟩
  have Hn54 := Lib.hid rn53
  clear rn53
  go_wp2_with fail
  refine (mul _ _ 8 (N (bnat l0)) (N (bnat l1)) _ ((((((((((((((((((((Hn3.out.keep hbn2).keep hbn3).keep hbn4).keep hbn5).keep hbn6).keep hbn7).keep hbn8).keep hbn9).keep hbn10).keep hbn11).keep hbn12).keep hbn13).keep hbn14).keep hbn15).keep hbn16).keep hbn17).keep hbn18).keep hbn19).keep hbn20).keep hbn21) (((((((((((((((((((Hn7.out.keep hbn3).keep hbn4).keep hbn5).keep hbn6).keep hbn7).keep hbn8).keep hbn9).keep hbn10).keep hbn11).keep hbn12).keep hbn13).keep hbn14).keep hbn15).keep hbn16).keep hbn17).keep hbn18).keep hbn19).keep hbn20).keep hbn21) (by omega)).mono ?_
  rintro e wn22 ⟨vn55, rfl, rn56, hbn22⟩
  have Hn57 := Lib.hid rn56
  clear rn56
  go_wp2_with fail
  refine (mul _ _ 8 (N (bnat l0)) (N (bnat l2)) _ (((((((((((((((((((((Hn3.out.keep hbn2).keep hbn3).keep hbn4).keep hbn5).keep hbn6).keep hbn7).keep hbn8).keep hbn9).keep hbn10).keep hbn11).keep hbn12).keep hbn13).keep hbn14).keep hbn15).keep hbn16).keep hbn17).keep hbn18).keep hbn19).keep hbn20).keep hbn21).keep hbn22) (((((((((((((((((((Hn11.out.keep hbn4).keep hbn5).keep hbn6).keep hbn7).keep hbn8).keep hbn9).keep hbn10).keep hbn11).keep hbn12).keep hbn13).keep hbn14).keep hbn15).keep hbn16).keep hbn17).keep hbn18).keep hbn19).keep hbn20).keep hbn21).keep hbn22) (by omega)).mono ?_
  rintro e wn23 ⟨vn58, rfl, rn59, hbn23⟩
  have Hn60 := Lib.hid rn59
  clear rn59
  go_wp2_with fail
  refine (add _ _ 16 ((N (bnat l0)) * (N (bnat l1))) ((N (bnat l0)) * (N (bnat l2))) _ (IsNew.num (Hn57.out.keep hbn23) 16 (bp_mul (Hn3.out.nonneg) (Hn3.out.lt) (Hn7.out.nonneg) (Hn7.out.lt))) (IsNew.num Hn60.out 16 (bp_mul (Hn3.out.nonneg) (Hn3.out.lt) (Hn11.out.nonneg) (Hn11.out.lt))) (by omega)).mono ?_
  rintro e wn24 ⟨vn61, rfl, rn62, hbn24⟩
  have Hn63 := Lib.hid rn62
  clear rn62
  go_wp2_with fail
  refine (sameN (((Hn54.out.keep hbn22).keep hbn23).keep hbn24) Hn63.out).mono ?_
  rintro e wn25 ⟨rfl, hbn25⟩
  rw [decide_eq_true (Int.mul_add ..)]
  go_wp2_with fail
  refine (known _).mono ?_
  rintro e wn26 ⟨rfl, hbn26⟩
  go_wp2_with fail
  have hbn1_s := hbn1.size
  have hbn2_s := hbn2.size
  have hbn3_s := hbn3.size
  have hbn4_s := hbn4.size
  have hbn5_s := hbn5.size
  have hbn6_s := hbn6.size
  have hbn7_s := hbn7.size
  have hbn8_s := hbn8.size
  have hbn9_s := hbn9.size
  have hbn10_s := hbn10.size
  have hbn11_s := hbn11.size
  have hbn12_s := hbn12.size
  have hbn13_s := hbn13.size
  have hbn14_s := hbn14.size
  have hbn15_s := hbn15.size
  have hbn16_s := hbn16.size
  have hbn17_s := hbn17.size
  have hbn18_s := hbn18.size
  have hbn19_s := hbn19.size
  have hbn20_s := hbn20.size
  have hbn21_s := hbn21.size
  have hbn22_s := hbn22.size
  have hbn23_s := hbn23.size
  have hbn24_s := hbn24.size
  have hbn25_s := hbn25.size
  go_ret
  exact ⟨rfl, (((((((((((((((((((((((((hbn1.trans (hbn2.mono (by omega))).trans (hbn3.mono (by omega))).trans (hbn4.mono (by omega))).trans (hbn5.mono (by omega))).trans (hbn6.mono (by omega))).trans (hbn7.mono (by omega))).trans (hbn8.mono (by omega))).trans (hbn9.mono (by omega))).trans (hbn10.mono (by omega))).trans (hbn11.mono (by omega))).trans (hbn12.mono (by omega))).trans (hbn13.mono (by omega))).trans (hbn14.mono (by omega))).trans (hbn15.mono (by omega))).trans (hbn16.mono (by omega))).trans (hbn17.mono (by omega))).trans (hbn18.mono (by omega))).trans (hbn19.mono (by omega))).trans (hbn20.mono (by omega))).trans (hbn21.mono (by omega))).trans (hbn22.mono (by omega))).trans (hbn23.mono (by omega))).trans (hbn24.mono (by omega))).trans (hbn25.mono (by omega))).trans (hbn26.mono (by omega)))⟩
end Go.Proofs.Ythndffacpijnoaa.bignatRing
