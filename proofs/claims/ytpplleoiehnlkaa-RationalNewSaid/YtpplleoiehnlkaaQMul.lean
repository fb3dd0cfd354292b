/-
  Contract of rational.Mul.
-/
import Derived.Test.YtpplleoiehnlkaaQ2
namespace Go.Proofs.Ytpplleoiehnlkaa.Nt
open Go.ChangeShapes Go.WideShapes Go.ChangeAt Go.RowKit B
set_option linter.unusedVariables false

set_option maxHeartbeats 4000000 in
theorem qMul (va vb : Value) (c : Nat) (p q : Rat) (w : World) (ha : Raw w va c p) (hb : Raw w vb c q) (hc : c ≤ 100000000) :
    Calls Try.prog 29 #[va, vb] w (RetQ w.heap.size w (p * q)) := by
  obtain ⟨nega, vna, vda, na, da, rfl, hna, hda, rfl⟩ := ha
  obtain ⟨ana, lna, pna, rfl⟩ := hna.form
  obtain ⟨ada, lda, pda, rfl⟩ := hda.form
  obtain ⟨negb, vnb, vdb, nb, db, rfl, hnb, hdb, rfl⟩ := hb
  obtain ⟨anb, lnb, pnb, rfl⟩ := hnb.form
  obtain ⟨adb, ldb, pdb, rfl⟩ := hdb.form
  obtain ⟨hAa, hAb, hR, hW, hS⟩ := pro3 w (.bool nega) (.slice ana lna pna) (.slice ada lda pda) (.bool negb) (.slice anb lnb pnb) (.slice adb ldb pdb) (.bool false) (.slice none 0 0) (.slice none 0 0) 25 25 25
  have HNa := Lib.hid (hna.keep hW)
  have HDa := Lib.hid (hda.keep hW)
  have HNNa := Lib.hid (And.intro hna.nonneg hda.nonneg)
  have HLTa := Lib.hid (And.intro hna.lt hda.lt)
  have HN0a := Lib.hid (And.intro hna hda)
  clear hna hda
  have HNb := Lib.hid (hnb.keep hW)
  have HDb := Lib.hid (hdb.keep hW)
  have HNNb := Lib.hid (And.intro hnb.nonneg hdb.nonneg)
  have HLTb := Lib.hid (And.intro hnb.lt hdb.lt)
  have HN0b := Lib.hid (And.intro hnb hdb)
  clear hnb hdb
  generalize hWe : (((w.alloc (.cells #[.bool nega, .slice ana lna pna, .slice ada lda pda] 25 (0, 0))).alloc (.cells #[.bool negb, .slice anb lnb pnb, .slice adb ldb pdb] 25 (0, 0))).alloc (.cells #[.bool false, .slice none 0 0, .slice none 0 0] 25 (0, 0))) = W at *
  have HAa := Lib.hid hAa
  clear hAa
  have HAb := Lib.hid hAb
  clear hAb
  have HR := Lib.hid hR
  clear hR
  have HWE := Lib.hid hWe
  have HWS := Lib.hid hS
  clear hWe hS
  go_enter Try.func29, Try.ntmps29
  obtain ⟨⟨a0, a1, a2⟩, _, _, _⟩ := HAa.out
  obtain ⟨⟨b0, b1, b2⟩, _, _, _⟩ := HAb.out
  go_wp2_with fail
  rw [HWE.out]
  have HWD : Hid (Below W.heap.size W W.drew) := (Below.refl _ _).drew
  have HQ := Lib.hid (show mk nega na da * mk negb nb db = mk (!(nega == negb)) (na * nb) (da * db) from mk_mul nega negb na da nb db HNNa.out.2 HNNb.out.2)
  have HP1 := Lib.hid (bp_mul HNNa.out.1 HLTa.out.1 HNNb.out.1 HLTb.out.1)
  have HP2 := Lib.hid (bp_mul HNNa.out.2 HLTa.out.2 HNNb.out.2 HLTb.out.2)
  go_region_held3 (fun w' => w'.cell? ⟨w.heap.size, 0, none⟩ = some (.bool nega) ∧ w'.cell? ⟨w.heap.size, 1, none⟩ = some (.slice ana lna pna) ∧ w'.cell? ⟨w.heap.size, 2, none⟩ = some (.slice ada lda pda) ∧ w'.cell? ⟨w.heap.size + 1, 0, none⟩ = some (.bool negb) ∧ w'.cell? ⟨w.heap.size + 1, 1, none⟩ = some (.slice anb lnb pnb) ∧ w'.cell? ⟨w.heap.size + 1, 2, none⟩ = some (.slice adb ldb pdb)) (first | assumption | exact keep6 (by assumption) (by assumption) | exact keep6p (by assumption) (by dsimp only; omega) (by dsimp only; omega) (by dsimp only; omega) (by dsimp only; omega) (by dsimp only; omega) (by dsimp only; omega) | go_keep)
    (first
      | (go_at_call 31; ((with_reducible refine (Nt.mul (.slice ana lna pna) (.slice anb lnb pnb) c na nb W.drew (HNa.out.keep HWD.out) (HNb.out.keep HWD.out) (by omega)).mono ?_)); rintro e w1 ⟨v1, rfl, h1, hb1⟩; have H1 := Lib.hid h1; clear h1)
      | (go_at_call 31; ((with_reducible refine (Nt.mul (.slice ada lda pda) (.slice adb ldb pdb) c da db w1 ((HDa.out.keep HWD.out).keep hb1) ((HDb.out.keep HWD.out).keep hb1) (by omega)).mono ?_)); rintro e w2 ⟨v2, rfl, h2, hb2⟩; have H2 := Lib.hid h2; clear h2)
      | (go_at_call 46; ((with_reducible refine (qReduce (!(nega == negb)) v1 v2 (c + c) (na * nb) (da * db) w2 ((H1.out.keep hb2).num _ HP1.out) (H2.out.num _ HP2.out) (by omega)).mono ?_)); rintro e w3 ⟨v3, rfl, h3, hb3⟩; obtain ⟨qb, qa, qn, qc, ra, rn, rc, rfl⟩ := h3.form; have HI := Lib.hid h3; have HBW := Lib.hid (((HWD.out.trans (hb1.mono HWD.out.size)).trans (hb2.mono (Nat.le_trans HWD.out.size hb1.size))).trans (hb3.mono (Nat.le_trans (Nat.le_trans HWD.out.size hb1.size) hb2.size))); have HBS := Lib.hid (show w.heap.size + 3 ≤ w2.heap.size by have e1 := HWD.out.size; have e2 := hb1.size; have e3 := hb2.size; rw [HWS.out] at e1; omega); obtain ⟨⟨rc0, rc1, rc2⟩, rf0, rf1, rf2⟩ := HR.out.keep HBW.out; clear h3; have hb3z := hb3))
  all_goals
    go_wp2_with fail
    rw [HQ.out]
    have hbw := hW.trans (HBW.out.mono (by have := HWS.out; omega))
    refine bodyPost_ret (v := .agg #[.bool qb, .slice qa qn qc, .slice ra rn rc]) (by simp [results, Try.results29, go_sem, rc0, rc1, rc2]) rfl ?_
    exact fin_q (base := w.heap.size + 3) (HI.out.mono HBS.out) (by omega) hbw (by omega)
end Go.Proofs.Ytpplleoiehnlkaa.Nt
