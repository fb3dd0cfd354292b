/-
  Contracts of rational.Sub, Neg and Complement.
-/
import Derived.Test.YtpplleoiehnlkaaQAdd
namespace Go.Proofs.Ytpplleoiehnlkaa.Nt
open Go.ChangeShapes Go.WideShapes Go.ChangeAt Go.RowKit B
set_option linter.unusedVariables false

theorem keep3p {W : World} {g : Nat} {x0 x1 x2 : Value} {a b c : Addr} {x y z : Value} (h : W.cell? a = some x ∧ W.cell? b = some y ∧ W.cell? c = some z)
    (ha : a.block ≠ g) (hb : b.block ≠ g) (hc : c.block ≠ g) :
    (((W.setCell ⟨g, 0, none⟩ x0).setCell ⟨g, 1, none⟩ x1).setCell ⟨g, 2, none⟩ x2).cell? a = some x ∧ (((W.setCell ⟨g, 0, none⟩ x0).setCell ⟨g, 1, none⟩ x1).setCell ⟨g, 2, none⟩ x2).cell? b = some y ∧
    (((W.setCell ⟨g, 0, none⟩ x0).setCell ⟨g, 1, none⟩ x1).setCell ⟨g, 2, none⟩ x2).cell? c = some z :=
  ⟨put3_far h.1 ha, put3_far h.2.1 hb, put3_far h.2.2 hc⟩
set_option maxHeartbeats 4000000 in
theorem qSub (va vb : Value) (c : Nat) (p q : Rat) (w : World) (ha : Raw w va c p) (hb : Raw w vb c q) (hc : c ≤ 100000000) :
    Calls Try.prog 28 #[va, vb] w (RetQ w.heap.size w (p - q)) := by
  obtain ⟨nega, vna, vda, na, da, rfl, hna, hda, rfl⟩ := ha
  obtain ⟨ana, lna, pna, rfl⟩ := hna.form
  obtain ⟨ada, lda, pda, rfl⟩ := hda.form
  obtain ⟨negb, vnb, vdb, nb, db, rfl, hnb, hdb, rfl⟩ := hb
  obtain ⟨anb, lnb, pnb, rfl⟩ := hnb.form
  obtain ⟨adb, ldb, pdb, rfl⟩ := hdb.form
  obtain ⟨hAa, hAb, hR, hW, hS⟩ := pro3 w (.bool nega) (.slice ana lna pna) (.slice ada lda pda) (.bool negb) (.slice anb lnb pnb) (.slice adb ldb pdb) (.bool false) (.slice none 0 0) (.slice none 0 0) 25 25 25
  have HNa := Lib.hid (hna.keep hW)
  have HDa := Lib.hid (hda.keep hW)
  have HNNa := Lib.hid (And.intro hna.nonneg hda.nonneg)
  have HLTa := Lib.hid (And.intro hna.lt hda.lt)
  have HN0a := Lib.hid (And.intro hna hda)
  clear hna hda
  have HNb := Lib.hid (hnb.keep hW)
  have HDb := Lib.hid (hdb.keep hW)
  have HNNb := Lib.hid (And.intro hnb.nonneg hdb.nonneg)
  have HLTb := Lib.hid (And.intro hnb.lt hdb.lt)
  have HN0b := Lib.hid (And.intro hnb hdb)
  clear hnb hdb
  generalize hWe : (((w.alloc (.cells #[.bool nega, .slice ana lna pna, .slice ada lda pda] 25 (0, 0))).alloc (.cells #[.bool negb, .slice anb lnb pnb, .slice adb ldb pdb] 25 (0, 0))).alloc (.cells #[.bool false, .slice none 0 0, .slice none 0 0] 25 (0, 0))) = W at *
  have HAa := Lib.hid hAa
  clear hAa
  have HAb := Lib.hid hAb
  clear hAb
  have HR := Lib.hid hR
  clear hR
  have HWE := Lib.hid hWe
  have HWS := Lib.hid hS
  clear hWe hS
  go_enter Try.func28, Try.ntmps28
  obtain ⟨⟨a0, a1, a2⟩, _, _, _⟩ := HAa.out
  obtain ⟨⟨b0, b1, b2⟩, _, _, _⟩ := HAb.out
  have HRWa : Hid (Raw W (.agg #[.bool nega, .slice ana lna pna, .slice ada lda pda]) c (mk nega na da)) := ⟨_, _, _, _, _, rfl, HNa.out, HDa.out, rfl⟩
  have HRWb : Hid (Raw W (.agg #[.bool negb, .slice anb lnb pnb, .slice adb ldb pdb]) c (mk negb nb db)) := ⟨_, _, _, _, _, rfl, HNb.out, HDb.out, rfl⟩
  go_wp2_with fail
  rw [HWE.out]
  have HWD : Hid (Below W.heap.size W W.drew) := (Below.refl _ _).drew
  have HQ := Lib.hid (Rat.sub_eq_add_neg (mk nega na da) (mk negb nb db))
  go_region_held3 (fun w' => w'.cell? ⟨w.heap.size, 0, none⟩ = some (.bool nega) ∧ w'.cell? ⟨w.heap.size, 1, none⟩ = some (.slice ana lna pna) ∧ w'.cell? ⟨w.heap.size, 2, none⟩ = some (.slice ada lda pda) ∧ w'.cell? ⟨w.heap.size + 1, 0, none⟩ = some (.bool negb) ∧ w'.cell? ⟨w.heap.size + 1, 1, none⟩ = some (.slice anb lnb pnb) ∧ w'.cell? ⟨w.heap.size + 1, 2, none⟩ = some (.slice adb ldb pdb)) (first | assumption | exact keep6 (by assumption) (by assumption) | exact keep6p (by assumption) (by dsimp only; omega) (by dsimp only; omega) (by dsimp only; omega) (by dsimp only; omega) (by dsimp only; omega) (by dsimp only; omega) | go_keep)
    (first
      | (go_at_call 68; ((with_reducible refine (qOpposite (.agg #[.bool negb, .slice anb lnb pnb, .slice adb ldb pdb]) c _ W.drew (HRWb.out.keep HWD.out)).mono ?_)); rintro e w2 ⟨v2, rfl, h2, hb2⟩; have H2 := Lib.hid h2; clear h2)
      | (go_at_call 23; ((with_reducible refine (qAdd (.agg #[.bool nega, .slice ana lna pna, .slice ada lda pda]) v2 c _ _ w2 ((HRWa.out.keep HWD.out).keep hb2) H2.out hc).mono ?_)); rintro e w3 ⟨v3, rfl, h3, hb3⟩; obtain ⟨qb, qa, qn, qc, ra, rn, rc, rfl⟩ := h3.form; have HI := Lib.hid h3; have HBW := Lib.hid ((HWD.out.trans (hb2.mono HWD.out.size)).trans (hb3.mono (Nat.le_trans HWD.out.size hb2.size))); have HBS := Lib.hid (show w.heap.size + 3 ≤ w2.heap.size by have e1 := HWD.out.size; have e2 := hb2.size; rw [HWS.out] at e1; omega); obtain ⟨⟨rc0, rc1, rc2⟩, rf0, rf1, rf2⟩ := HR.out.keep HBW.out; clear h3; have hb3z := hb3))
  all_goals
    go_wp2_with fail
    rw [HQ.out]
    have hbw := hW.trans (HBW.out.mono (by have := HWS.out; omega))
    refine bodyPost_ret (v := .agg #[.bool qb, .slice qa qn qc, .slice ra rn rc]) (by simp [results, Try.results28, go_sem, rc0, rc1, rc2]) rfl ?_
    exact fin_q (base := w.heap.size + 3) (HI.out.mono HBS.out) (by omega) hbw (by omega)
set_option maxHeartbeats 1000000 in
theorem qNeg (va : Value) (c : Nat) (q : Rat) (w : World) (ha : Raw w va c q) (hc : c ≤ 1000000000) :
    Calls Try.prog 24 #[va] w (RetQ w.heap.size w (-q)) := by
  obtain ⟨nega, vna, vda, na, da, rfl, hna, hda, rfl⟩ := ha
  obtain ⟨ana, lna, pna, rfl⟩ := hna.form
  obtain ⟨ada, lda, pda, rfl⟩ := hda.form
  obtain ⟨hAa, hR, hW, hS⟩ := pro2 w (.bool nega) (.slice ana lna pna) (.slice ada lda pda) (.bool false) (.slice none 0 0) (.slice none 0 0) 25 25
  have HNa := Lib.hid (hna.keep hW)
  have HDa := Lib.hid (hda.keep hW)
  have HNNa := Lib.hid (And.intro hna.nonneg hda.nonneg)
  have HLTa := Lib.hid (And.intro hna.lt hda.lt)
  have HN0a := Lib.hid (And.intro hna hda)
  clear hna hda
  generalize hWe : ((w.alloc (.cells #[.bool nega, .slice ana lna pna, .slice ada lda pda] 25 (0, 0))).alloc (.cells #[.bool false, .slice none 0 0, .slice none 0 0] 25 (0, 0))) = W at *
  have HAa := Lib.hid hAa
  clear hAa
  have HR := Lib.hid hR
  clear hR
  have HWE := Lib.hid hWe
  have HWS := Lib.hid hS
  clear hWe hS
  go_enter Try.func24, Try.ntmps24
  have HRWa : Hid (Raw W (.agg #[.bool nega, .slice ana lna pna, .slice ada lda pda]) c (mk nega na da)) := ⟨_, _, _, _, _, rfl, HNa.out, HDa.out, rfl⟩
  go_wp2_with fail
  rw [HWE.out]
  refine (qOpposite _ c _ W HRWa.out).mono ?_
  rintro e w1 ⟨v1, rfl, h1, hb1⟩
  have H1 := Lib.hid h1
  clear h1
  go_wp2_with fail
  refine (qNormalize v1 c _ w1 H1.out hc).mono ?_
  rintro e w2 ⟨v, rfl, h, hb2⟩
  have hs1 : w.heap.size + 2 ≤ w1.heap.size := by have := hb1.size; rw [HWS.out] at this; exact this
  obtain ⟨qb, qa, qn, qc, ra, rn, rc, rfl⟩ := h.form
  have HI := Lib.hid h
  have HBW := Lib.hid (hb1.trans (hb2.mono hb1.size))
  have HBS := Lib.hid (hs1)
  obtain ⟨⟨rc0, rc1, rc2⟩, rf0, rf1, rf2⟩ := HR.out.keep HBW.out
  clear h hb2
  go_wp2_with fail
  have hbw := hW.trans (HBW.out.mono (by have := HWS.out; omega))
  refine bodyPost_ret (v := .agg #[.bool qb, .slice qa qn qc, .slice ra rn rc]) (by simp [results, Try.results24, go_sem, rc0, rc1, rc2]) rfl ?_
  exact fin_q (base := w.heap.size + 2) (HI.out.mono HBS.out) (by omega) hbw (by omega)
set_option maxHeartbeats 4000000 in
theorem qComplement (va : Value) (c : Nat) (q : Rat) (w : World) (ha : Raw w va c q) (hc : c ≤ 100000000) (hc1 : 1 ≤ c) :
    Calls Try.prog 44 #[va] w (RetQ w.heap.size w (1 - q)) := by
  obtain ⟨nega, vna, vda, na, da, rfl, hna, hda, rfl⟩ := ha
  obtain ⟨ana, lna, pna, rfl⟩ := hna.form
  obtain ⟨ada, lda, pda, rfl⟩ := hda.form
  obtain ⟨hAa, hR, hW, hS⟩ := pro2 w (.bool nega) (.slice ana lna pna) (.slice ada lda pda) (.bool false) (.slice none 0 0) (.slice none 0 0) 25 25
  have HNa := Lib.hid (hna.keep hW)
  have HDa := Lib.hid (hda.keep hW)
  have HNNa := Lib.hid (And.intro hna.nonneg hda.nonneg)
  have HLTa := Lib.hid (And.intro hna.lt hda.lt)
  have HN0a := Lib.hid (And.intro hna hda)
  clear hna hda
  generalize hWe : ((w.alloc (.cells #[.bool nega, .slice ana lna pna, .slice ada lda pda] 25 (0, 0))).alloc (.cells #[.bool false, .slice none 0 0, .slice none 0 0] 25 (0, 0))) = W at *
  have HAa := Lib.hid hAa
  clear hAa
  have HR := Lib.hid hR
  clear hR
  have HWE := Lib.hid hWe
  have HWS := Lib.hid hS
  clear hWe hS
  go_enter Try.func44, Try.ntmps44
  obtain ⟨⟨a0, a1, a2⟩, _, _, _⟩ := HAa.out
  have HRWa : Hid (Raw W (.agg #[.bool nega, .slice ana lna pna, .slice ada lda pda]) c (mk nega na da)) := ⟨_, _, _, _, _, rfl, HNa.out, HDa.out, rfl⟩
  go_wp2_with fail
  rw [HWE.out]
  have HWD : Hid (Below W.heap.size W W.drew) := (Below.refl _ _).drew
  go_region_held3 (fun w' => w'.cell? ⟨w.heap.size, 0, none⟩ = some (.bool nega) ∧ w'.cell? ⟨w.heap.size, 1, none⟩ = some (.slice ana lna pna) ∧ w'.cell? ⟨w.heap.size, 2, none⟩ = some (.slice ada lda pda)) (first | assumption | exact keep3 (by assumption) (by assumption) | exact keep3p (by assumption) (by dsimp only; omega) (by dsimp only; omega) (by dsimp only; omega) | go_keep)
    (first
      | (go_at_call 72; ((with_reducible refine (qOne W.drew).mono ?_)); rintro e w2 ⟨v2, rfl, h2, hb2⟩; have H2 := Lib.hid h2; clear h2)
      | (go_at_call 28; ((with_reducible refine (qSub v2 (.agg #[.bool nega, .slice ana lna pna, .slice ada lda pda]) c _ _ w2 (H2.out.raw c (Qb.one.mono hc1)) ((HRWa.out.keep HWD.out).keep hb2) hc).mono ?_)); rintro e w3 ⟨v3, rfl, h3, hb3⟩; obtain ⟨qb, qa, qn, qc, ra, rn, rc, rfl⟩ := h3.form; have HI := Lib.hid h3; have HBW := Lib.hid ((HWD.out.trans (hb2.mono HWD.out.size)).trans (hb3.mono (Nat.le_trans HWD.out.size hb2.size))); have HBS := Lib.hid (show w.heap.size + 2 ≤ w2.heap.size by have e1 := HWD.out.size; have e2 := hb2.size; rw [HWS.out] at e1; omega); obtain ⟨⟨rc0, rc1, rc2⟩, rf0, rf1, rf2⟩ := HR.out.keep HBW.out; clear h3; have hb3z := hb3))
  all_goals
    go_wp2_with fail
    have hbw := hW.trans (HBW.out.mono (by have := HWS.out; omega))
    refine bodyPost_ret (v := .agg #[.bool qb, .slice qa qn qc, .slice ra rn rc]) (by simp [results, Try.results44, go_sem, rc0, rc1, rc2]) rfl ?_
    exact fin_q (base := w.heap.size + 2) (HI.out.mono HBS.out) (by omega) hbw (by omega)
end Go.Proofs.Ytpplleoiehnlkaa.Nt
