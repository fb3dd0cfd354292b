/-
  The walk of RationalOrder.
-/
import Derived.Test.YtpplleoiehnlkaaTwQ
namespace Go.Proofs.Ytpplleoiehnlkaa.rationalOrder
open Go.ChangeShapes Go.WideShapes Go.ChangeAt Go.RowKit B Nt Tw
set_option linter.unusedVariables false

theorem cmp_add (p q r : Rat) : cmpQ (p + r) (q + r) = cmpQ p q := by unfold cmpQ; congr 1; grind
theorem cmp_mul (p q r : Rat) : cmpQ (p * r) (q * r) = cmpQ p q * sgQ r := by
  unfold cmpQ; rw [← sgQ_mul]; congr 1; grind
theorem cmp_swap (p q : Rat) : cmpQ p q = -cmpQ q p := by unfold cmpQ; rw [← sgQ_neg]; congr 1; grind
theorem cmp_zero (p q : Rat) : (cmpQ p q == 0) = decide (p = q) := by
  rw [Bool.eq_iff_iff, beq_iff_eq, decide_eq_true_iff]
  unfold cmpQ
  rw [sgQ_eq_zero]
  constructor
  · intro h; grind
  · rintro rfl; grind

theorem sgQ_b (p : Rat) : -1 ≤ sgQ p ∧ sgQ p ≤ 1 := by rcases sgQ_cases p with h | h | h <;> omega
theorem cmpQ_b (p q : Rat) : -9223372036854775807 ≤ cmpQ p q ∧ cmpQ p q ≤ 9223372036854775807 := by have := sgQ_b (p - q); unfold cmpQ; omega
theorem prod_b (p q r : Rat) : -1 ≤ cmpQ p q * sgQ r ∧ cmpQ p q * sgQ r ≤ 1 := by rw [← cmp_mul]; exact sgQ_b _
theorem sgQ_pos (p : Rat) : 0 < sgQ p ↔ 0 < p := by unfold sgQ; rw [Int.sign_pos_iff, Rat.lt_iff]; simp
theorem tri (p q r : Rat) : ((0 < cmpQ p q ∨ 0 < cmpQ q r) ∨ cmpQ p r ≤ 0) := by
  by_cases h : 0 < cmpQ p r
  · unfold cmpQ at h ⊢
    simp only [sgQ_pos] at h ⊢
    left
    by_cases h1 : 0 < p - q
    · exact .inl h1
    · right; grind
  · exact .inr (by omega)
def fsOrder (a0 a1 a2 : Int) : List SP := [
  SP.i (cmpQ (bfr a0) (bfr a1)),
  SP.q (bfr a0),
  SP.q (bfr a1),
  SP.q ((bfr a0) - (bfr a1)),
  SP.i (sgQ ((bfr a0) - (bfr a1))),
  SP.b (true),
  SP.b (true),
  SP.i (cmpQ (bfr a0) (bfr a1)),
  SP.q (bfr a1),
  SP.q (bfr a0),
  SP.i (cmpQ (bfr a1) (bfr a0)),
  SP.i (-(cmpQ (bfr a1) (bfr a0))),
  SP.b (true),
  SP.b (true),
  SP.b (true),
  SP.i (cmpQ (bfr a0) (bfr a1)),
  SP.b (decide (cmpQ (bfr a0) (bfr a1) = 0)),
  SP.q (bfr a0),
  SP.q (bfr a0),
  SP.q (bfr a1),
  SP.q (bfr a1),
  SP.b (decide (bfr a0 = bfr a1)),
  SP.b (true),
  SP.b (true),
  SP.b (true),
  SP.q (bfr a0),
  SP.q (bfr a2),
  SP.q ((bfr a0) + (bfr a2)),
  SP.q (bfr a1),
  SP.q (bfr a2),
  SP.q ((bfr a1) + (bfr a2)),
  SP.i (cmpQ ((bfr a0) + (bfr a2)) ((bfr a1) + (bfr a2))),
  SP.i (cmpQ (bfr a0) (bfr a1)),
  SP.b (true),
  SP.b (true),
  SP.b (true),
  SP.q (bfr a0),
  SP.q (bfr a2),
  SP.q ((bfr a0) * (bfr a2)),
  SP.q (bfr a1),
  SP.q (bfr a2),
  SP.q ((bfr a1) * (bfr a2)),
  SP.i (cmpQ ((bfr a0) * (bfr a2)) ((bfr a1) * (bfr a2))),
  SP.i (cmpQ (bfr a0) (bfr a1) * sgQ (bfr a2)),
  SP.b (true),
  SP.b (true),
  SP.b (true),
  SP.i (cmpQ (bfr a0) (bfr a1)),
  SP.b (decide (0 < cmpQ (bfr a0) (bfr a1))),
  SP.b (decide (0 < cmpQ (bfr a0) (bfr a1))),
  SP.imp (¬ (0 < cmpQ (bfr a0) (bfr a1))) (SP.q (bfr a1)),
  SP.imp (¬ (0 < cmpQ (bfr a0) (bfr a1))) (SP.q (bfr a2)),
  SP.imp (¬ (0 < cmpQ (bfr a0) (bfr a1))) (SP.i (cmpQ (bfr a1) (bfr a2))),
  SP.imp (¬ (0 < cmpQ (bfr a0) (bfr a1))) (SP.b (decide (0 < cmpQ (bfr a1) (bfr a2)))),
  SP.b (decide ((0 < cmpQ (bfr a0) (bfr a1)) ∨ (0 < cmpQ (bfr a1) (bfr a2)))),
  SP.b (decide ((0 < cmpQ (bfr a0) (bfr a1)) ∨ (0 < cmpQ (bfr a1) (bfr a2)))),
  SP.imp (¬ ((0 < cmpQ (bfr a0) (bfr a1)) ∨ (0 < cmpQ (bfr a1) (bfr a2)))) (SP.q (bfr a0)),
  SP.imp (¬ ((0 < cmpQ (bfr a0) (bfr a1)) ∨ (0 < cmpQ (bfr a1) (bfr a2)))) (SP.q (bfr a2)),
  SP.imp (¬ ((0 < cmpQ (bfr a0) (bfr a1)) ∨ (0 < cmpQ (bfr a1) (bfr a2)))) (SP.i (cmpQ (bfr a0) (bfr a2))),
  SP.imp (¬ ((0 < cmpQ (bfr a0) (bfr a1)) ∨ (0 < cmpQ (bfr a1) (bfr a2)))) (SP.b (decide (cmpQ (bfr a0) (bfr a2) ≤ 0))),
  SP.b (true),
  SP.b (true),
  SP.b (true),
  SP.b (true),
  SP.b (true),
  SP.b (true)]
set_option maxRecDepth 100000 in
set_option maxHeartbeats 16000000 in
theorem walk (a0 : Int) (a1 : Int) (a2 : Int) (w0 : (Lit.int .i64 a0).wf = true) (w1 : (Lit.int .i64 a1).wf = true) (w2 : (Lit.int .i64 a2).wf = true) (w : World) :
    Calls Try.prog 6 #[.int .i64 a0, .int .i64 a1, .int .i64 a2] w fun e w' => e = .returned (.bool true) ∧ Below w.heap.size w w' := by
    have h0 := wf_i64' w0
    have h1 := wf_i64' w1
    have h2 := wf_i64' w2
    clear w0 w1 w2
    go_enter Try.func6, Try.ntmps6
    go_wp2_with fail
    refine (baseFrac a0 _ h0.1 h0.2).mono ?_
    rintro e wn1 ⟨vn1, rfl, rn2, hbn1⟩
    obtain ⟨fn4, fn5, fn6, fn7, fn8, fn9, fn10, rfl⟩ := rn2.form
    have Hn3 := Lib.hid rn2
    clear rn2
    go_wp2_with fail
    refine (baseFrac a1 _ h1.1 h1.2).mono ?_
    rintro e wn2 ⟨vn11, rfl, rn12, hbn2⟩
    obtain ⟨fn14, fn15, fn16, fn17, fn18, fn19, fn20, rfl⟩ := rn12.form
    have Hn13 := Lib.hid rn12
    clear rn12
    go_wp2_with fail
    refine (baseFrac a2 _ h2.1 h2.2).mono ?_
    rintro e wn3 ⟨vn21, rfl, rn22, hbn3⟩
    obtain ⟨fn24, fn25, fn26, fn27, fn28, fn29, fn30, rfl⟩ := rn22.form
    have Hn23 := Lib.hid rn22
    clear rn22
    obtain ⟨hBn31, hBn32, hBn33, hbn4, hsn35⟩ := pro3 wn3 (.bool fn4) (.slice fn5 fn6 fn7) (.slice fn8 fn9 fn10) (.bool fn14) (.slice fn15 fn16 fn17) (.slice fn18 fn19 fn20) (.bool fn24) (.slice fn25 fn26 fn27) (.slice fn28 fn29 fn30) 25 25 25
    have Bn31 := Lib.hid hBn31
    clear hBn31
    have Bn32 := Lib.hid hBn32
    clear hBn32
    have Bn33 := Lib.hid hBn33
    clear hBn33
    clear hsn35
    generalize hEn34 : (((wn3.alloc (.cells #[.bool fn4, .slice fn5 fn6 fn7, .slice fn8 fn9 fn10] 25 (0, 0))).alloc (.cells #[.bool fn14, .slice fn15 fn16 fn17, .slice fn18 fn19 fn20] 25 (0, 0))).alloc (.cells #[.bool fn24, .slice fn25 fn26 fn27, .slice fn28 fn29 fn30] 25 (0, 0))) = wn4 at *
    have En34 := Lib.hid hEn34
    clear hEn34
    go_wp2_with fail
    rw [En34.out]
    refine (qCmp _ _ 1 (bfr a0) (bfr a1) _ (IsQ.raw (((Hn3.out.keep hbn2).keep hbn3).keep hbn4) 1 (Qb.mono (bfr_b a0) (by omega))) (IsQ.raw ((Hn13.out.keep hbn3).keep hbn4) 1 (Qb.mono (bfr_b a1) (by omega))) (by omega)).mono ?_
    rintro e wn5 ⟨rfl, hbn5⟩
    obtain ⟨⟨zn42, zn43, zn44⟩, _, _, _⟩ := (Bn33.out.keep hbn5)
    go_wp2_with fail
    refine (qSign _ 1 (bfr a2) _ (IsQ.raw ((Hn23.out.keep hbn4).keep hbn5) 1 (Qb.mono (bfr_b a2) (by omega))) (by omega)).mono ?_
    rintro e wn6 ⟨rfl, hbn6⟩
    have hp := prod_b (bfr a0) (bfr a1) (bfr a2)
    clear zn42 zn43 zn44
    obtain ⟨⟨zn45, zn46, zn47⟩, _, _, _⟩ := ((Bn31.out.keep hbn5).keep hbn6)
    obtain ⟨⟨zn48, zn49, zn50⟩, _, _, _⟩ := ((Bn32.out.keep hbn5).keep hbn6)
    obtain ⟨⟨zn51, zn52, zn53⟩, _, _, _⟩ := ((Bn33.out.keep hbn5).keep hbn6)
    go_wp2_with fail
    have L0 := box_frac ((Bn31.out.keep hbn5).keep hbn6) ((((((Hn3.out.keep hbn2).keep hbn3).keep hbn4).keep hbn5).keep hbn6).mono (Nat.zero_le _))
    have L1 := box_frac ((Bn32.out.keep hbn5).keep hbn6) (((((Hn13.out.keep hbn3).keep hbn4).keep hbn5).keep hbn6).mono (Nat.zero_le _))
    have L2 := box_frac ((Bn33.out.keep hbn5).keep hbn6) ((((Hn23.out.keep hbn4).keep hbn5).keep hbn6).mono (Nat.zero_le _))
    try dsimp only [List.append]
    refine region2 (N := 90) (by kernel_rfl) (fsOrder a0 a1 a2) [[(10, none)], [(7, none)], [(8, none)], [(26, some 1), (27, some 2)], [(28, some 3)], [(25, some 0), (29, some 4)], [(30, some 5)], [(31, some 6), (10, none)], [(31, some 6), (8, none)], [(31, some 6), (7, none)], [(31, some 6), (33, some 8), (34, some 9)], [(31, some 6), (35, some 10)], [(31, some 6), (32, some 7), (36, some 11)], [(31, some 6), (37, some 12)], [(38, some 13)], [(39, some 14), (10, none)], [(39, some 14), (40, some 15)], [(39, some 14), (7, none)], [(39, some 14), (42, some 17)], [(39, some 14), (8, none)], [(39, some 14), (44, some 19)], [(39, some 14), (43, some 18), (45, some 20)], [(39, some 14), (41, some 16), (46, some 21)], [(39, some 14), (47, some 22)], [(48, some 23)], [(49, some 24), (7, none)], [(49, some 24), (9, none)], [(49, some 24), (50, some 25), (51, some 26)], [(49, some 24), (8, none)], [(49, some 24), (9, none)], [(49, some 24), (53, some 28), (54, some 29)], [(49, some 24), (52, some 27), (55, some 30)], [(49, some 24), (10, none)], [(49, some 24), (56, some 31), (57, some 32)], [(49, some 24), (58, some 33)], [(59, some 34)], [(60, some 35), (7, none)], [(60, some 35), (9, none)], [(60, some 35), (61, some 36), (62, some 37)], [(60, some 35), (8, none)], [(60, some 35), (9, none)], [(60, some 35), (64, some 39), (65, some 40)], [(60, some 35), (63, some 38), (66, some 41)], [(60, some 35), (11, none)], [(60, some 35), (67, some 42), (68, some 43)], [(60, some 35), (69, some 44)], [(70, some 45)], [(71, some 46), (10, none)], [(71, some 46), (72, some 47)], [(71, some 46), (73, some 48)], [(74, some 49), (8, none)], [(74, some 49), (9, none)], [(74, some 49), (75, some 50), (76, some 51)], [(74, some 49), (77, some 52)], [(71, some 46), (74, some 49), (78, some 53)], [(71, some 46), (79, some 54)], [(80, some 55), (7, none)], [(80, some 55), (9, none)], [(80, some 55), (81, some 56), (82, some 57)], [(80, some 55), (83, some 58)], [(71, some 46), (80, some 55), (84, some 59)], [(71, some 46), (85, some 60)], [(86, some 61)], [(87, some 62)], [(87, some 62), (88, some 63)], [(89, some 64)]] (by kernel_rfl) (by kernel_rfl) ?_ ?_
    · refine Obs.cons (ob_move (fun x w h => h)) ?_
      refine Obs.cons (ob_load rfl L0) ?_
      refine Obs.cons (ob_load rfl L1) ?_
      refine Obs.cons (ob_call2 Try.call28 (fun x y w hb hx hy => tSub 1 hx hy (bfr_b a0) (bfr_b a1) (by decide))) ?_
      refine Obs.cons (ob_call1 Try.call27 (fun x w hb hx => tSign 3 hx (Qb.mono (Qb.sub (bfr_b a0) (bfr_b a1)) (by omega)) (by decide))) ?_
      refine Obs.cons (ob_bin (fun v w h => h) (fun v w h => h) (eq_int (cmpQ (bfr a0) (bfr a1)) (sgQ ((bfr a0) - (bfr a1))) _ _) (fun w => congrArg Value.bool (beq_iff_eq.2 rfl))) ?_
      refine Obs.cons (ob_move (fun x w h => h)) ?_
      refine Obs.cons (ob_g rfl (fun v w h => h) (ob_move (fun x w h => h))) ?_
      refine Obs.cons (ob_g rfl (fun v w h => h) (ob_load rfl L1)) ?_
      refine Obs.cons (ob_g rfl (fun v w h => h) (ob_load rfl L0)) ?_
      refine Obs.cons (ob_g rfl (fun v w h => h) (ob_call2 Try.call26 (fun x y w hb hx hy => tCmp 1 hx hy (bfr_b a1) (bfr_b a0) (by decide)))) ?_
      refine Obs.cons (ob_g rfl (fun v w h => h) (ob_un (fun v w h => h) (fun w => neg_int _ w (cmpQ_b _ _)) (fun w => rfl))) ?_
      refine Obs.cons (ob_g rfl (fun v w h => h) (ob_bin (fun v w h => h) (fun v w h => h) (eq_int (cmpQ (bfr a0) (bfr a1)) (-(cmpQ (bfr a1) (bfr a0))) _ _) (fun w => congrArg Value.bool (beq_iff_eq.2 (cmp_swap _ _))))) ?_
      refine Obs.cons (ob_pick_t (fun v w h => h) (fun v w h => h)) ?_
      refine Obs.cons (ob_move (fun x w h => h)) ?_
      refine Obs.cons (ob_g rfl (fun v w h => h) (ob_move (fun x w h => h))) ?_
      refine Obs.cons (ob_g rfl (fun v w h => h) (ob_bin_c (fun v w h => h) (eq_int (cmpQ (bfr a0) (bfr a1)) 0 _ _) (fun w => rfl))) ?_
      refine Obs.cons (ob_g rfl (fun v w h => h) (ob_load rfl L0)) ?_
      refine Obs.cons (ob_g rfl (fun v w h => h) (ob_call1 Try.call20 (fun x w hb hx => tNorm 1 hx (bfr_b a0) (by decide)))) ?_
      refine Obs.cons (ob_g rfl (fun v w h => h) (ob_load rfl L1)) ?_
      refine Obs.cons (ob_g rfl (fun v w h => h) (ob_call1 Try.call20 (fun x w hb hx => tNorm 1 hx (bfr_b a1) (by decide)))) ?_
      refine Obs.cons (ob_g rfl (fun v w h => h) (ob_call2 Try.call13 (fun x y w hb hx hy => tSame hx hy))) ?_
      refine Obs.cons (ob_g rfl (fun v w h => h) (ob_bin (fun v w h => h) (fun v w h => h) (eq_bool (decide (cmpQ (bfr a0) (bfr a1) = 0)) (decide (bfr a0 = bfr a1)) _ _) (fun w => congrArg Value.bool (beq_iff_eq.2 (cmp_zero _ _))))) ?_
      refine Obs.cons (ob_pick_t (fun v w h => h) (fun v w h => h)) ?_
      refine Obs.cons (ob_move (fun x w h => h)) ?_
      refine Obs.cons (ob_g rfl (fun v w h => h) (ob_load rfl L0)) ?_
      refine Obs.cons (ob_g rfl (fun v w h => h) (ob_load rfl L2)) ?_
      refine Obs.cons (ob_g rfl (fun v w h => h) (ob_call2 Try.call23 (fun x y w hb hx hy => tAdd 1 hx hy (bfr_b a0) (bfr_b a2) (by decide)))) ?_
      refine Obs.cons (ob_g rfl (fun v w h => h) (ob_load rfl L1)) ?_
      refine Obs.cons (ob_g rfl (fun v w h => h) (ob_load rfl L2)) ?_
      refine Obs.cons (ob_g rfl (fun v w h => h) (ob_call2 Try.call23 (fun x y w hb hx hy => tAdd 1 hx hy (bfr_b a1) (bfr_b a2) (by decide)))) ?_
      refine Obs.cons (ob_g rfl (fun v w h => h) (ob_call2 Try.call26 (fun x y w hb hx hy => tCmp 3 hx hy (Qb.mono (Qb.add (bfr_b a0) (bfr_b a2)) (by omega)) (Qb.mono (Qb.add (bfr_b a1) (bfr_b a2)) (by omega)) (by decide)))) ?_
      refine Obs.cons (ob_g rfl (fun v w h => h) (ob_move (fun x w h => h))) ?_
      refine Obs.cons (ob_g rfl (fun v w h => h) (ob_bin (fun v w h => h) (fun v w h => h) (eq_int (cmpQ ((bfr a0) + (bfr a2)) ((bfr a1) + (bfr a2))) (cmpQ (bfr a0) (bfr a1)) _ _) (fun w => congrArg Value.bool (beq_iff_eq.2 (cmp_add _ _ _))))) ?_
      refine Obs.cons (ob_pick_t (fun v w h => h) (fun v w h => h)) ?_
      refine Obs.cons (ob_move (fun x w h => h)) ?_
      refine Obs.cons (ob_g rfl (fun v w h => h) (ob_load rfl L0)) ?_
      refine Obs.cons (ob_g rfl (fun v w h => h) (ob_load rfl L2)) ?_
      refine Obs.cons (ob_g rfl (fun v w h => h) (ob_call2 Try.call29 (fun x y w hb hx hy => tMul 1 hx hy (bfr_b a0) (bfr_b a2) (by decide)))) ?_
      refine Obs.cons (ob_g rfl (fun v w h => h) (ob_load rfl L1)) ?_
      refine Obs.cons (ob_g rfl (fun v w h => h) (ob_load rfl L2)) ?_
      refine Obs.cons (ob_g rfl (fun v w h => h) (ob_call2 Try.call29 (fun x y w hb hx hy => tMul 1 hx hy (bfr_b a1) (bfr_b a2) (by decide)))) ?_
      refine Obs.cons (ob_g rfl (fun v w h => h) (ob_call2 Try.call26 (fun x y w hb hx hy => tCmp 2 hx hy (Qb.mono (Qb.mul (bfr_b a0) (bfr_b a2) (by omega)) (by omega)) (Qb.mono (Qb.mul (bfr_b a1) (bfr_b a2) (by omega)) (by omega)) (by decide)))) ?_
      refine Obs.cons (ob_g rfl (fun v w h => h) (ob_move (fun x w h => h))) ?_
      refine Obs.cons (ob_g rfl (fun v w h => h) (ob_bin (fun v w h => h) (fun v w h => h) (eq_int (cmpQ ((bfr a0) * (bfr a2)) ((bfr a1) * (bfr a2))) (cmpQ (bfr a0) (bfr a1) * sgQ (bfr a2)) _ _) (fun w => congrArg Value.bool (beq_iff_eq.2 (cmp_mul _ _ _))))) ?_
      refine Obs.cons (ob_pick_t (fun v w h => h) (fun v w h => h)) ?_
      refine Obs.cons (ob_move (fun x w h => h)) ?_
      refine Obs.cons (ob_g rfl (fun v w h => h) (ob_move (fun x w h => h))) ?_
      refine Obs.cons (ob_g rfl (fun v w h => h) (ob_bin_c (fun v w h => h) (gt_int (cmpQ (bfr a0) (bfr a1)) 0 _ _) (fun w => rfl))) ?_
      refine Obs.cons (ob_g rfl (fun v w h => h) (ob_move (fun x w h => h))) ?_
      refine Obs.cons (ob_gi (c := ¬ (0 < cmpQ (bfr a0) (bfr a1))) rfl (fun v w h => by rw [show v = _ from h]; simp) rfl (fun hc => (ob_load rfl (fun w hb => ⟨(L1 w hb).1, fun _ => (L1 w hb).2⟩)))) ?_
      refine Obs.cons (ob_gi (c := ¬ (0 < cmpQ (bfr a0) (bfr a1))) rfl (fun v w h => by rw [show v = _ from h]; simp) rfl (fun hc => (ob_load rfl (fun w hb => ⟨(L2 w hb).1, fun _ => (L2 w hb).2⟩)))) ?_
      refine Obs.cons (ob_gi (c := ¬ (0 < cmpQ (bfr a0) (bfr a1))) rfl (fun v w h => by rw [show v = _ from h]; simp) rfl (fun hc => (ob_call2 Try.call26 (fun x y w hb hx hy => RetS.tr (tCmp 1 (hx hc) (hy hc) (bfr_b a1) (bfr_b a2) (by decide)) (fun v w h _ => h))))) ?_
      refine Obs.cons (ob_gi (c := ¬ (0 < cmpQ (bfr a0) (bfr a1))) rfl (fun v w h => by rw [show v = _ from h]; simp) rfl (fun hc => (ob_bin_c (fun v w h => h hc) (gt_int (cmpQ (bfr a1) (bfr a2)) 0 _ _) (fun w => fun _ => rfl)))) ?_
      refine Obs.cons (ob_g rfl (fun v w h => h) (ob_pick_or (p := 0 < cmpQ (bfr a0) (bfr a1)) (q := 0 < cmpQ (bfr a1) (bfr a2)) (fun v w h => h) (fun v w hn h => h hn) (fun w => rfl))) ?_
      refine Obs.cons (ob_g rfl (fun v w h => h) (ob_move (fun x w h => h))) ?_
      refine Obs.cons (ob_gi (c := ¬ ((0 < cmpQ (bfr a0) (bfr a1)) ∨ (0 < cmpQ (bfr a1) (bfr a2)))) rfl (fun v w h => by rw [show v = _ from h]; simp) rfl (fun hc => (ob_load rfl (fun w hb => ⟨(L0 w hb).1, fun _ => (L0 w hb).2⟩)))) ?_
      refine Obs.cons (ob_gi (c := ¬ ((0 < cmpQ (bfr a0) (bfr a1)) ∨ (0 < cmpQ (bfr a1) (bfr a2)))) rfl (fun v w h => by rw [show v = _ from h]; simp) rfl (fun hc => (ob_load rfl (fun w hb => ⟨(L2 w hb).1, fun _ => (L2 w hb).2⟩)))) ?_
      refine Obs.cons (ob_gi (c := ¬ ((0 < cmpQ (bfr a0) (bfr a1)) ∨ (0 < cmpQ (bfr a1) (bfr a2)))) rfl (fun v w h => by rw [show v = _ from h]; simp) rfl (fun hc => (ob_call2 Try.call26 (fun x y w hb hx hy => RetS.tr (tCmp 1 (hx hc) (hy hc) (bfr_b a0) (bfr_b a2) (by decide)) (fun v w h _ => h))))) ?_
      refine Obs.cons (ob_gi (c := ¬ ((0 < cmpQ (bfr a0) (bfr a1)) ∨ (0 < cmpQ (bfr a1) (bfr a2)))) rfl (fun v w h => by rw [show v = _ from h]; simp) rfl (fun hc => (ob_bin_c (fun v w h => h hc) (le_int (cmpQ (bfr a0) (bfr a2)) 0 _ _) (fun w => fun _ => rfl)))) ?_
      refine Obs.cons (ob_g rfl (fun v w h => h) (ob_pick_or (p := (0 < cmpQ (bfr a0) (bfr a1)) ∨ (0 < cmpQ (bfr a1) (bfr a2))) (q := cmpQ (bfr a0) (bfr a2) ≤ 0) (fun v w h => h) (fun v w hn h => h hn) (fun w => congrArg Value.bool (decide_eq_true (tri _ _ _))))) ?_
      refine Obs.cons (ob_pick_t (fun v w h => h) (fun v w h => h)) ?_
      refine Obs.cons (ob_move (fun x w h => h)) ?_
      refine Obs.cons (ob_g rfl (fun v w h => h) (ob_call0 Try.call14 (fun w hb => tKnown w))) ?_
      refine Obs.cons (ob_pick_t (fun v w h => h) (fun v w h => h)) ?_
      refine Obs.cons (ob_assign (fun x w h => h)) ?_
      exact Obs.nil
    · intro v w' h hb
      have e := h 65 (by decide)
      refine wp_k (by assumption) (wp_ret ?_)
      refine ret_slot rfl (puts_defers _ _ _ _) ((gt_last (N := 90) (by kernel_rfl) (by kernel_rfl) (by decide)).trans e) ⟨rfl, ?_⟩
      have hbn1_s := hbn1.size
      have hbn2_s := hbn2.size
      have hbn3_s := hbn3.size
      have hbn4_s := hbn4.size
      have hbn5_s := hbn5.size
      have hbn6_s := hbn6.size
      exact ((((((hbn1.trans (hbn2.mono (by omega))).trans (hbn3.mono (by omega))).trans (hbn4.mono (by omega))).trans (hbn5.mono (by omega))).trans (hbn6.mono (by omega))).trans (hb.mono (by omega)))
end Go.Proofs.Ytpplleoiehnlkaa.rationalOrder
