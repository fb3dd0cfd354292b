/-
  The walk of RationalNew.
-/
import Derived.Test.YtpplleoiehnlkaaQKnown
namespace Go.Proofs.Ytpplleoiehnlkaa.rationalNew
open Go.ChangeShapes Go.WideShapes Go.ChangeAt Go.RowKit B Nt
set_option linter.unusedVariables false

set_option maxHeartbeats 2000000 in
theorem walk (a0 : Int) (a1 : Int) (w0 : (Lit.int .i64 a0).wf = true) (w1 : (Lit.int .i64 a1).wf = true) (w : World) :
    Calls Try.prog 3 #[.int .i64 a0, .int .i64 a1] w fun e w' => e = .returned (.bool true) ∧ Below w.heap.size w w' := by
  have h0 := wf_i64' w0
  have h1 := wf_i64' w1
  clear w0 w1
  by_cases hd : a1 = 0
  · subst hd
    go_enter Try.func3, Try.ntmps3
    go_wp2_with fail
    refine (qNew0 a0 _).mono ?_
    rintro e wn1 ⟨rfl, hbn1⟩
    have Bn1 := Lib.hid (Box3.new wn1 (.bool false) (.slice none 0 0) (.slice none 0 0) 25)
    have hbn2 := alloc_below wn1 (.cells #[.bool false, .slice none 0 0, .slice none 0 0] 25 (0, 0))
    generalize hEn2 : wn1.alloc (.cells #[.bool false, .slice none 0 0, .slice none 0 0] 25 (0, 0)) = wn2 at *
    have En2 := Lib.hid hEn2
    clear hEn2
    go_wp2_with fail
    rw [En2.out]
    refine (rFNew0 a0 _).mono ?_
    rintro e wn3 ⟨rfl, hbn3⟩
    have Bn3 := Lib.hid (Box3.new wn3 (.bool false) (.slice none 0 0) (.slice none 0 0) 25)
    have hbn4 := alloc_below wn3 (.cells #[.bool false, .slice none 0 0, .slice none 0 0] 25 (0, 0))
    generalize hEn4 : wn3.alloc (.cells #[.bool false, .slice none 0 0, .slice none 0 0] 25 (0, 0)) = wn4 at *
    have En4 := Lib.hid hEn4
    clear hEn4
    obtain ⟨⟨zn5, zn6, zn7⟩, _, _, _⟩ := (Bn1.out.keep hbn3)
    have ltn8 := cell_lt zn5
    dsimp only at ltn8
    go_wp2_with fail
    rw [En4.out]
    refine (sameR _ _ false false [] [] [] [] _ (FRow.zero _) (FRow.zero _)).mono ?_
    rintro e wn5 ⟨rfl, hbn5⟩
    rw [decide_eq_true (show false = false ∧ ([] : List Int) = [] ∧ ([] : List Int) = [] from ⟨rfl, rfl, rfl⟩)]
    clear zn5 zn6 zn7 ltn8
    go_wp2_with fail
    refine (Nt.known _).mono ?_
    rintro e wn6 ⟨rfl, hbn6⟩
    go_wp2_with fail
    have hbn1_s := hbn1.size
    have hbn2_s := hbn2.size
    have hbn3_s := hbn3.size
    have hbn4_s := hbn4.size
    have hbn5_s := hbn5.size
    go_ret
    exact ⟨rfl, (((((hbn1.trans (hbn2.mono (by omega))).trans (hbn3.mono (by omega))).trans (hbn4.mono (by omega))).trans (hbn5.mono (by omega))).trans (hbn6.mono (by omega)))⟩
  · have HD := Lib.hid hd
    clear hd
    go_enter Try.func3, Try.ntmps3
    go_wp2_with fail
    refine (qNew a0 a1 _ h0.1 h0.2 h1.1 h1.2 HD.out).mono ?_
    rintro e wn1 ⟨vn1, rfl, rn2, hbn1⟩
    obtain ⟨fn4, fn5, fn6, fn7, fn8, fn9, fn10, rfl⟩ := rn2.form
    have Hn3 := Lib.hid rn2
    clear rn2
    have Bn11 := Lib.hid (Box3.new wn1 (.bool fn4) (.slice fn5 fn6 fn7) (.slice fn8 fn9 fn10) 25)
    have hbn2 := alloc_below wn1 (.cells #[.bool fn4, .slice fn5 fn6 fn7, .slice fn8 fn9 fn10] 25 (0, 0))
    generalize hEn12 : wn1.alloc (.cells #[.bool fn4, .slice fn5 fn6 fn7, .slice fn8 fn9 fn10] 25 (0, 0)) = wn2 at *
    have En12 := Lib.hid hEn12
    clear hEn12
    go_wp2_with fail
    rw [En12.out]
    refine (rFNew a0 a1 _ h0.1 h0.2 h1.1 h1.2 HD.out).mono ?_
    rintro e wn3 ⟨vn13, rfl, rn14, hbn3⟩
    obtain ⟨fn16, fn17, fn18, fn19, fn20, fn21, fn22, rfl⟩ := rn14.form
    have Hn15 := Lib.hid rn14
    clear rn14
    have Bn23 := Lib.hid (Box3.new wn3 (.bool fn16) (.slice fn17 fn18 fn19) (.slice fn20 fn21 fn22) 25)
    have hbn4 := alloc_below wn3 (.cells #[.bool fn16, .slice fn17 fn18 fn19, .slice fn20 fn21 fn22] 25 (0, 0))
    generalize hEn24 : wn3.alloc (.cells #[.bool fn16, .slice fn17 fn18 fn19, .slice fn20 fn21 fn22] 25 (0, 0)) = wn4 at *
    have En24 := Lib.hid hEn24
    clear hEn24
    obtain ⟨⟨zn25, zn26, zn27⟩, _, _, _⟩ := (Bn11.out.keep hbn3)
    have ltn28 := cell_lt zn25
    dsimp only at ltn28
    go_wp2_with fail
    rw [En24.out]
    refine (sameQ (((Hn3.out.keep hbn2).keep hbn3).keep hbn4) (Hn15.out.keep hbn4)).mono ?_
    rintro e wn5 ⟨rfl, hbn5⟩
    rw [decide_eq_true (rfl)]
    clear zn25 zn26 zn27 ltn28
    go_wp2_with fail
    refine (Nt.known _).mono ?_
    rintro e wn6 ⟨rfl, hbn6⟩
    go_wp2_with fail
    have hbn1_s := hbn1.size
    have hbn2_s := hbn2.size
    have hbn3_s := hbn3.size
    have hbn4_s := hbn4.size
    have hbn5_s := hbn5.size
    go_ret
    exact ⟨rfl, (((((hbn1.trans (hbn2.mono (by omega))).trans (hbn3.mono (by omega))).trans (hbn4.mono (by omega))).trans (hbn5.mono (by omega))).trans (hbn6.mono (by omega)))⟩
end Go.Proofs.Ytpplleoiehnlkaa.rationalNew
