/-
  The walk of BignatArith.
-/
import Derived.Test.YthndffacpijnoaaKnown
import Derived.Test.YthndffacpijnoaaRefI
namespace Go.Proofs.Ythndffacpijnoaa.bignatArith
open Go.ChangeShapes Go.WideShapes Go.ChangeAt Go.RowKit B Nt
set_option linter.unusedVariables false

theorem u64R_eq (n : Int) : u64R n = .tuple #[.int .u64 (if n < 18446744073709551616 then n else 0), .bool (decide (n < 18446744073709551616))] := by
  unfold u64R
  by_cases h : n < 18446744073709551616
  · rw [if_pos h, if_pos h, decide_eq_true h]
  · rw [if_neg h, if_neg h, decide_eq_false h]
theorem wf64 {n : Int} (h : (Lit.int .u64 n).wf = true) : 0 ≤ n ∧ n < 18446744073709551616 := by
  have : 0 ≤ n ∧ n ≤ 18446744073709551615 := by simpa [Lit.wf, IntKind.min, IntKind.max, IntKind.signed, IntKind.bits] using h
  omega

set_option maxHeartbeats 4000000 in
set_option maxRecDepth 100000 in
theorem walk (a0 : Option Addr) (len0 cap0 : Nat) (z0 : List Int) (a1 : Option Addr) (len1 cap1 : Nat) (z1 : List Int) (a2 : Int) (w : World) (w0 : IsRow .u32 w a0 len0 cap0 z0) (w1 : IsRow .u32 w a1 len1 cap1 z1) (w2 : (Lit.int .u64 a2).wf = true) :
    Calls Try.prog 10 #[.slice a0 len0 cap0, .slice a1 len1 cap1, .int .u64 a2] w fun e w' => e = .returned (.bool true) ∧ Below w.heap.size w w' := by
  have X0 := Lib.hid (Row.of w0)
  have X1 := Lib.hid (Row.of w1)
  have HN := Lib.hid (wf64 w2)
  clear w0 w1 w2
  generalize z0.take len0 = l0 at *
  generalize z1.take len1 = l1 at *
  go_enter Try.func10, Try.ntmps10
  go_wp2_with fail
  refine (baseNat _ l0 _ X0.out).mono ?_
  rintro e wn1 ⟨vn1, rfl, rn2, hbn1⟩
  have Hn3 : Hid (Num wn1 vn1 8 (N (bnat l0))) := ⟨_, rn2, bnat_len _, rfl⟩
  have Rn4 := Lib.hid rn2
  clear rn2
  go_wp2_with fail
  refine (baseNat _ l1 _ (X1.out.keep hbn1)).mono ?_
  rintro e wn2 ⟨vn5, rfl, rn6, hbn2⟩
  have Hn7 : Hid (Num wn2 vn5 8 (N (bnat l1))) := ⟨_, rn6, bnat_len _, rfl⟩
  have Rn8 := Lib.hid rn6
  clear rn6
  have HUV := Lib.hid (u64R_eq (N (bnat l0)))
  generalize hu : (if N (bnat l0) < 18446744073709551616 then N (bnat l0) else 0) = U at *
  generalize hf : decide (N (bnat l0) < 18446744073709551616) = F at *
  clear hu hf
  have HSB := Lib.hid (show ∃ S : Bool, decide (N (bnat l1) ≤ N (bnat l0)) = S from ⟨_, rfl⟩)
  obtain ⟨S, hS⟩ := HSB.out
  have HS := Lib.hid hS
  clear hS HSB
  obtain ⟨Z, hZ⟩ : ∃ S : Bool, decide (N (bnat l1) ≠ 0) = S := ⟨_, rfl⟩
  have HZ := Lib.hid hZ
  clear hZ
  go_wp2_with fail
  refine (Nt.uint64 _ 8 (N (bnat l0)) _ (Hn3.out.keep hbn2)).mono ?_
  rintro e wn3 ⟨rfl, hbn3⟩
  rw [HUV.out]
  go_wp2_with fail
  refine (rUint64 _ 8 (N (bnat l0)) _ ((Hn3.out.keep hbn2).keep hbn3) (by omega)).mono ?_
  rintro e wn4 ⟨rfl, hbn4⟩
  rw [HUV.out]
  go_wp2_with fail
  refine (Nt.sub _ _ 8 (N (bnat l0)) (N (bnat l1)) _ (((Hn3.out.keep hbn2).keep hbn3).keep hbn4) ((Hn7.out.keep hbn3).keep hbn4) (by omega)).mono ?_
  rintro e wn5 ⟨vn9, rfl, rn10, hbn5⟩
  rw [HS.out]
  have Hn11 := Lib.hid rn10
  clear rn10
  go_wp2_with fail
  refine (rSub _ _ 8 (N (bnat l0)) (N (bnat l1)) _ ((((Hn3.out.keep hbn2).keep hbn3).keep hbn4).keep hbn5) (((Hn7.out.keep hbn3).keep hbn4).keep hbn5) (by omega)).mono ?_
  rintro e wn6 ⟨vn12, rfl, rn13, hbn6⟩
  rw [HS.out]
  have Hn14 := Lib.hid rn13
  clear rn13
  go_wp2_with fail
  refine (Nt.divMod _ _ 8 (N (bnat l0)) (N (bnat l1)) _ (((((Hn3.out.keep hbn2).keep hbn3).keep hbn4).keep hbn5).keep hbn6) ((((Hn7.out.keep hbn3).keep hbn4).keep hbn5).keep hbn6) (by omega)).mono ?_
  rintro e wn7 ⟨vqn15, vrn16, rfl, rqn17, rrn18, hbn7⟩
  rw [HZ.out]
  have HQn19 := Lib.hid rqn17
  have HRn20 := Lib.hid rrn18
  clear rqn17 rrn18
  go_wp2_with fail
  refine (rDivMod _ _ 8 (N (bnat l0)) (N (bnat l1)) _ ((((((Hn3.out.keep hbn2).keep hbn3).keep hbn4).keep hbn5).keep hbn6).keep hbn7) (((((Hn7.out.keep hbn3).keep hbn4).keep hbn5).keep hbn6).keep hbn7) (by omega)).mono ?_
  rintro e wn8 ⟨vqn21, vrn22, rfl, rqn23, rrn24, hbn8⟩
  rw [HZ.out]
  have HQn25 := Lib.hid rqn23
  have HRn26 := Lib.hid rrn24
  clear rqn23 rrn24
  go_wp2_with fail
  refine (fromUint64 a2 _ HN.out.1 HN.out.2).mono ?_
  rintro e wn9 ⟨vn27, rfl, rn28, hbn9⟩
  have Hn29 := Lib.hid rn28
  clear rn28
  go_wp2_with fail
  refine (rOf a2 _ HN.out.1 HN.out.2).mono ?_
  rintro e wn10 ⟨vn30, rfl, rn31, hbn10⟩
  have Hn32 := Lib.hid rn31
  clear rn31
  go_wp2_with fail
  refine (sameN (Hn29.out.keep hbn10) Hn32.out).mono ?_
  rintro e wn11 ⟨rfl, hbn11⟩
  rw [decide_eq_true (rfl)]
  go_wp2_with fail
  refine (normalize _ 8 (N (bnat l0)) _ ((((((((((Hn3.out.keep hbn2).keep hbn3).keep hbn4).keep hbn5).keep hbn6).keep hbn7).keep hbn8).keep hbn9).keep hbn10).keep hbn11) (by omega)).mono ?_
  rintro e wn12 ⟨vn33, rfl, rn34, hbn12⟩
  have Hn35 := Lib.hid rn34
  clear rn34
  go_wp2_with fail
  refine (rNorm _ 8 (N (bnat l0)) _ (((((((((((Hn3.out.keep hbn2).keep hbn3).keep hbn4).keep hbn5).keep hbn6).keep hbn7).keep hbn8).keep hbn9).keep hbn10).keep hbn11).keep hbn12) (by omega)).mono ?_
  rintro e wn13 ⟨vn36, rfl, rn37, hbn13⟩
  have Hn38 := Lib.hid rn37
  clear rn37
  go_wp2_with fail
  refine (sameN (Hn35.out.keep hbn13) Hn38.out).mono ?_
  rintro e wn14 ⟨rfl, hbn14⟩
  rw [decide_eq_true (rfl)]
  go_wp2_with fail
  refine (Nt.bitLen _ 8 (N (bnat l0)) _ (((((((((((((Hn3.out.keep hbn2).keep hbn3).keep hbn4).keep hbn5).keep hbn6).keep hbn7).keep hbn8).keep hbn9).keep hbn10).keep hbn11).keep hbn12).keep hbn13).keep hbn14) (by omega)).mono ?_
  rintro e w' ⟨rfl, hw'⟩
  obtain rfl := hw'
  go_wp2_with fail
  refine (rBits _ 8 (N (bnat l0)) _ (((((((((((((Hn3.out.keep hbn2).keep hbn3).keep hbn4).keep hbn5).keep hbn6).keep hbn7).keep hbn8).keep hbn9).keep hbn10).keep hbn11).keep hbn12).keep hbn13).keep hbn14) (by omega)).mono ?_
  rintro e wn15 ⟨rfl, hbn15⟩
  go_wp2_with fail
  refine (Nt.cmp _ _ 8 (N (bnat l0)) (N (bnat l1)) _ ((((((((((((((Hn3.out.keep hbn2).keep hbn3).keep hbn4).keep hbn5).keep hbn6).keep hbn7).keep hbn8).keep hbn9).keep hbn10).keep hbn11).keep hbn12).keep hbn13).keep hbn14).keep hbn15) (((((((((((((Hn7.out.keep hbn3).keep hbn4).keep hbn5).keep hbn6).keep hbn7).keep hbn8).keep hbn9).keep hbn10).keep hbn11).keep hbn12).keep hbn13).keep hbn14).keep hbn15) (by omega)).mono ?_
  rintro e wn16 ⟨rfl, hbn16⟩
  go_wp2_with fail
  refine (rCmp _ _ 8 (N (bnat l0)) (N (bnat l1)) _ (((((((((((((((Hn3.out.keep hbn2).keep hbn3).keep hbn4).keep hbn5).keep hbn6).keep hbn7).keep hbn8).keep hbn9).keep hbn10).keep hbn11).keep hbn12).keep hbn13).keep hbn14).keep hbn15).keep hbn16) ((((((((((((((Hn7.out.keep hbn3).keep hbn4).keep hbn5).keep hbn6).keep hbn7).keep hbn8).keep hbn9).keep hbn10).keep hbn11).keep hbn12).keep hbn13).keep hbn14).keep hbn15).keep hbn16) (by omega)).mono ?_
  rintro e wn17 ⟨rfl, hbn17⟩
  go_wp2_with fail
  refine (Nt.add _ _ 8 (N (bnat l0)) (N (bnat l1)) _ ((((((((((((((((Hn3.out.keep hbn2).keep hbn3).keep hbn4).keep hbn5).keep hbn6).keep hbn7).keep hbn8).keep hbn9).keep hbn10).keep hbn11).keep hbn12).keep hbn13).keep hbn14).keep hbn15).keep hbn16).keep hbn17) (((((((((((((((Hn7.out.keep hbn3).keep hbn4).keep hbn5).keep hbn6).keep hbn7).keep hbn8).keep hbn9).keep hbn10).keep hbn11).keep hbn12).keep hbn13).keep hbn14).keep hbn15).keep hbn16).keep hbn17) (by omega)).mono ?_
  rintro e wn18 ⟨vn39, rfl, rn40, hbn18⟩
  have Hn41 := Lib.hid rn40
  clear rn40
  go_wp2_with fail
  refine (rAdd _ _ 8 (N (bnat l0)) (N (bnat l1)) _ (((((((((((((((((Hn3.out.keep hbn2).keep hbn3).keep hbn4).keep hbn5).keep hbn6).keep hbn7).keep hbn8).keep hbn9).keep hbn10).keep hbn11).keep hbn12).keep hbn13).keep hbn14).keep hbn15).keep hbn16).keep hbn17).keep hbn18) ((((((((((((((((Hn7.out.keep hbn3).keep hbn4).keep hbn5).keep hbn6).keep hbn7).keep hbn8).keep hbn9).keep hbn10).keep hbn11).keep hbn12).keep hbn13).keep hbn14).keep hbn15).keep hbn16).keep hbn17).keep hbn18) (by omega)).mono ?_
  rintro e wn19 ⟨vn42, rfl, rn43, hbn19⟩
  have Hn44 := Lib.hid rn43
  clear rn43
  go_wp2_with fail
  refine (sameN (Hn41.out.keep hbn19) Hn44.out).mono ?_
  rintro e wn20 ⟨rfl, hbn20⟩
  rw [decide_eq_true (rfl)]
  go_wp2_with fail
  refine (sameN (((((((((((((((Hn11.out.keep hbn6).keep hbn7).keep hbn8).keep hbn9).keep hbn10).keep hbn11).keep hbn12).keep hbn13).keep hbn14).keep hbn15).keep hbn16).keep hbn17).keep hbn18).keep hbn19).keep hbn20) ((((((((((((((Hn14.out.keep hbn7).keep hbn8).keep hbn9).keep hbn10).keep hbn11).keep hbn12).keep hbn13).keep hbn14).keep hbn15).keep hbn16).keep hbn17).keep hbn18).keep hbn19).keep hbn20)).mono ?_
  rintro e wn21 ⟨rfl, hbn21⟩
  rw [decide_eq_true (rfl)]
  go_wp2_with fail
  refine (Nt.mul _ _ 8 (N (bnat l0)) (N (bnat l1)) _ ((((((((((((((((((((Hn3.out.keep hbn2).keep hbn3).keep hbn4).keep hbn5).keep hbn6).keep hbn7).keep hbn8).keep hbn9).keep hbn10).keep hbn11).keep hbn12).keep hbn13).keep hbn14).keep hbn15).keep hbn16).keep hbn17).keep hbn18).keep hbn19).keep hbn20).keep hbn21) (((((((((((((((((((Hn7.out.keep hbn3).keep hbn4).keep hbn5).keep hbn6).keep hbn7).keep hbn8).keep hbn9).keep hbn10).keep hbn11).keep hbn12).keep hbn13).keep hbn14).keep hbn15).keep hbn16).keep hbn17).keep hbn18).keep hbn19).keep hbn20).keep hbn21) (by omega)).mono ?_
  rintro e wn22 ⟨vn45, rfl, rn46, hbn22⟩
  have Hn47 := Lib.hid rn46
  clear rn46
  go_wp2_with fail
  refine (rMul _ _ 8 (N (bnat l0)) (N (bnat l1)) _ (((((((((((((((((((((Hn3.out.keep hbn2).keep hbn3).keep hbn4).keep hbn5).keep hbn6).keep hbn7).keep hbn8).keep hbn9).keep hbn10).keep hbn11).keep hbn12).keep hbn13).keep hbn14).keep hbn15).keep hbn16).keep hbn17).keep hbn18).keep hbn19).keep hbn20).keep hbn21).keep hbn22) ((((((((((((((((((((Hn7.out.keep hbn3).keep hbn4).keep hbn5).keep hbn6).keep hbn7).keep hbn8).keep hbn9).keep hbn10).keep hbn11).keep hbn12).keep hbn13).keep hbn14).keep hbn15).keep hbn16).keep hbn17).keep hbn18).keep hbn19).keep hbn20).keep hbn21).keep hbn22) (by omega)).mono ?_
  rintro e wn23 ⟨vn48, rfl, rn49, hbn23⟩
  have Hn50 := Lib.hid rn49
  clear rn49
  go_wp2_with fail
  refine (sameN (Hn47.out.keep hbn23) Hn50.out).mono ?_
  rintro e wn24 ⟨rfl, hbn24⟩
  rw [decide_eq_true (rfl)]
  go_wp2_with fail
  refine (sameN (((((((((((((((((HQn19.out.keep hbn8).keep hbn9).keep hbn10).keep hbn11).keep hbn12).keep hbn13).keep hbn14).keep hbn15).keep hbn16).keep hbn17).keep hbn18).keep hbn19).keep hbn20).keep hbn21).keep hbn22).keep hbn23).keep hbn24) ((((((((((((((((HQn25.out.keep hbn9).keep hbn10).keep hbn11).keep hbn12).keep hbn13).keep hbn14).keep hbn15).keep hbn16).keep hbn17).keep hbn18).keep hbn19).keep hbn20).keep hbn21).keep hbn22).keep hbn23).keep hbn24)).mono ?_
  rintro e wn25 ⟨rfl, hbn25⟩
  rw [decide_eq_true (rfl)]
  go_wp2_with fail
  refine (sameN ((((((((((((((((((HRn20.out.keep hbn8).keep hbn9).keep hbn10).keep hbn11).keep hbn12).keep hbn13).keep hbn14).keep hbn15).keep hbn16).keep hbn17).keep hbn18).keep hbn19).keep hbn20).keep hbn21).keep hbn22).keep hbn23).keep hbn24).keep hbn25) (((((((((((((((((HRn26.out.keep hbn9).keep hbn10).keep hbn11).keep hbn12).keep hbn13).keep hbn14).keep hbn15).keep hbn16).keep hbn17).keep hbn18).keep hbn19).keep hbn20).keep hbn21).keep hbn22).keep hbn23).keep hbn24).keep hbn25)).mono ?_
  rintro e wn26 ⟨rfl, hbn26⟩
  rw [decide_eq_true (rfl)]
  go_wp2_with fail
  refine (Nt.gcd _ _ 8 (N (bnat l0)) (N (bnat l1)) _ (((((((((((((((((((((((((Hn3.out.keep hbn2).keep hbn3).keep hbn4).keep hbn5).keep hbn6).keep hbn7).keep hbn8).keep hbn9).keep hbn10).keep hbn11).keep hbn12).keep hbn13).keep hbn14).keep hbn15).keep hbn16).keep hbn17).keep hbn18).keep hbn19).keep hbn20).keep hbn21).keep hbn22).keep hbn23).keep hbn24).keep hbn25).keep hbn26) ((((((((((((((((((((((((Hn7.out.keep hbn3).keep hbn4).keep hbn5).keep hbn6).keep hbn7).keep hbn8).keep hbn9).keep hbn10).keep hbn11).keep hbn12).keep hbn13).keep hbn14).keep hbn15).keep hbn16).keep hbn17).keep hbn18).keep hbn19).keep hbn20).keep hbn21).keep hbn22).keep hbn23).keep hbn24).keep hbn25).keep hbn26) (by omega)).mono ?_
  rintro e wn27 ⟨vn51, rfl, rn52, hbn27⟩
  have Hn53 := Lib.hid rn52
  clear rn52
  go_wp2_with fail
  refine (rGCD _ _ 8 (N (bnat l0)) (N (bnat l1)) _ ((((((((((((((((((((((((((Hn3.out.keep hbn2).keep hbn3).keep hbn4).keep hbn5).keep hbn6).keep hbn7).keep hbn8).keep hbn9).keep hbn10).keep hbn11).keep hbn12).keep hbn13).keep hbn14).keep hbn15).keep hbn16).keep hbn17).keep hbn18).keep hbn19).keep hbn20).keep hbn21).keep hbn22).keep hbn23).keep hbn24).keep hbn25).keep hbn26).keep hbn27) (((((((((((((((((((((((((Hn7.out.keep hbn3).keep hbn4).keep hbn5).keep hbn6).keep hbn7).keep hbn8).keep hbn9).keep hbn10).keep hbn11).keep hbn12).keep hbn13).keep hbn14).keep hbn15).keep hbn16).keep hbn17).keep hbn18).keep hbn19).keep hbn20).keep hbn21).keep hbn22).keep hbn23).keep hbn24).keep hbn25).keep hbn26).keep hbn27) (by omega)).mono ?_
  rintro e wn28 ⟨vn54, rfl, rn55, hbn28⟩
  have Hn56 := Lib.hid rn55
  clear rn55
  go_wp2_with fail
  refine (sameN (Hn53.out.keep hbn28) Hn56.out).mono ?_
  rintro e wn29 ⟨rfl, hbn29⟩
  rw [decide_eq_true (rfl)]
  go_wp2_with fail
  refine (Nt.known _).mono ?_
  rintro e wn30 ⟨rfl, hbn30⟩
  go_wp2_with fail
  have hbn1_s := hbn1.size
  have hbn2_s := hbn2.size
  have hbn3_s := hbn3.size
  have hbn4_s := hbn4.size
  have hbn5_s := hbn5.size
  have hbn6_s := hbn6.size
  have hbn7_s := hbn7.size
  have hbn8_s := hbn8.size
  have hbn9_s := hbn9.size
  have hbn10_s := hbn10.size
  have hbn11_s := hbn11.size
  have hbn12_s := hbn12.size
  have hbn13_s := hbn13.size
  have hbn14_s := hbn14.size
  have hbn15_s := hbn15.size
  have hbn16_s := hbn16.size
  have hbn17_s := hbn17.size
  have hbn18_s := hbn18.size
  have hbn19_s := hbn19.size
  have hbn20_s := hbn20.size
  have hbn21_s := hbn21.size
  have hbn22_s := hbn22.size
  have hbn23_s := hbn23.size
  have hbn24_s := hbn24.size
  have hbn25_s := hbn25.size
  have hbn26_s := hbn26.size
  have hbn27_s := hbn27.size
  have hbn28_s := hbn28.size
  have hbn29_s := hbn29.size
  go_ret
  exact ⟨rfl, (((((((((((((((((((((((((((((hbn1.trans (hbn2.mono (by omega))).trans (hbn3.mono (by omega))).trans (hbn4.mono (by omega))).trans (hbn5.mono (by omega))).trans (hbn6.mono (by omega))).trans (hbn7.mono (by omega))).trans (hbn8.mono (by omega))).trans (hbn9.mono (by omega))).trans (hbn10.mono (by omega))).trans (hbn11.mono (by omega))).trans (hbn12.mono (by omega))).trans (hbn13.mono (by omega))).trans (hbn14.mono (by omega))).trans (hbn15.mono (by omega))).trans (hbn16.mono (by omega))).trans (hbn17.mono (by omega))).trans (hbn18.mono (by omega))).trans (hbn19.mono (by omega))).trans (hbn20.mono (by omega))).trans (hbn21.mono (by omega))).trans (hbn22.mono (by omega))).trans (hbn23.mono (by omega))).trans (hbn24.mono (by omega))).trans (hbn25.mono (by omega))).trans (hbn26.mono (by omega))).trans (hbn27.mono (by omega))).trans (hbn28.mono (by omega))).trans (hbn29.mono (by omega))).trans (hbn30.mono (by omega)))⟩
end Go.Proofs.Ythndffacpijnoaa.bignatArith
