/-
  QMul, QDiv, QNew, in one text: see the remarks at the head of each part.
-/
import Derived.Test.YthjgfppmempbkaaMQ
/-
  Contract of rational.Mul.
-/
namespace Go.Proofs.Ythjgfppmempbkaa.Nt
open Go.ChangeShapes Go.WideShapes Go.ChangeAt Go.RowKit B
set_option linter.unusedVariables false

set_option maxHeartbeats 4000000 in
theorem qMul (va vb : Value) (c : Nat) (p q : Rat) (w : World) (ha : Raw w va c p) (hb : Raw w vb c q) (hc : c ≤ 100000000) :
    Calls Try.prog 28 #[va, vb] w (RetQ w.heap.size w (p * q)) := by
  obtain ⟨nega, vna, vda, na, da, rfl, hna, hda, rfl⟩ := ha
  obtain ⟨ana, lna, pna, rfl⟩ := hna.form
  obtain ⟨ada, lda, pda, rfl⟩ := hda.form
  obtain ⟨negb, vnb, vdb, nb, db, rfl, hnb, hdb, rfl⟩ := hb
  obtain ⟨anb, lnb, pnb, rfl⟩ := hnb.form
  obtain ⟨adb, ldb, pdb, rfl⟩ := hdb.form
  obtain ⟨hAa, hAb, hR, hW, hS⟩ := pro3 w (.bool nega) (.slice ana lna pna) (.slice ada lda pda) (.bool negb) (.slice anb lnb pnb) (.slice adb ldb pdb) (.bool false) (.slice none 0 0) (.slice none 0 0) 53 53 53
  have HNa := Lib.hid (hna.keep hW)
  have HDa := Lib.hid (hda.keep hW)
  have HNNa := Lib.hid (And.intro hna.nonneg hda.nonneg)
  have HLTa := Lib.hid (And.intro hna.lt hda.lt)
  have HN0a := Lib.hid (And.intro hna hda)
  clear hna hda
  have HNb := Lib.hid (hnb.keep hW)
  have HDb := Lib.hid (hdb.keep hW)
  have HNNb := Lib.hid (And.intro hnb.nonneg hdb.nonneg)
  have HLTb := Lib.hid (And.intro hnb.lt hdb.lt)
  have HN0b := Lib.hid (And.intro hnb hdb)
  clear hnb hdb
  generalize hWe : (((w.alloc (.cells #[.bool nega, .slice ana lna pna, .slice ada lda pda] 53 (0, 0))).alloc (.cells #[.bool negb, .slice anb lnb pnb, .slice adb ldb pdb] 53 (0, 0))).alloc (.cells #[.bool false, .slice none 0 0, .slice none 0 0] 53 (0, 0))) = W at *
  have HAa := Lib.hid hAa
  clear hAa
  have HAb := Lib.hid hAb
  clear hAb
  have HR := Lib.hid hR
  clear hR
  have HWE := Lib.hid hWe
  have HWS := Lib.hid hS
  clear hWe hS
  go_enter Try.func28, Try.ntmps28
  obtain ⟨⟨a0, a1, a2⟩, _, _, _⟩ := HAa.out
  obtain ⟨⟨b0, b1, b2⟩, _, _, _⟩ := HAb.out
  go_wp2_with fail
  rw [HWE.out]
  have HWD : Hid (Below W.heap.size W W.drew) := (Below.refl _ _).drew
  have HQ := Lib.hid (show mk nega na da * mk negb nb db = mk (!(nega == negb)) (na * nb) (da * db) from mk_mul nega negb na da nb db HNNa.out.2 HNNb.out.2)
  have HP1 := Lib.hid (bp_mul HNNa.out.1 HLTa.out.1 HNNb.out.1 HLTb.out.1)
  have HP2 := Lib.hid (bp_mul HNNa.out.2 HLTa.out.2 HNNb.out.2 HLTb.out.2)
  go_region_held3 (fun w' => w'.cell? ⟨w.heap.size, 0, none⟩ = some (.bool nega) ∧ w'.cell? ⟨w.heap.size, 1, none⟩ = some (.slice ana lna pna) ∧ w'.cell? ⟨w.heap.size, 2, none⟩ = some (.slice ada lda pda) ∧ w'.cell? ⟨w.heap.size + 1, 0, none⟩ = some (.bool negb) ∧ w'.cell? ⟨w.heap.size + 1, 1, none⟩ = some (.slice anb lnb pnb) ∧ w'.cell? ⟨w.heap.size + 1, 2, none⟩ = some (.slice adb ldb pdb)) (first | with_reducible assumption | with_reducible exact keep6 (by assumption) (by assumption) | with_reducible exact keep6p (by assumption) (by dsimp only; omega) (by dsimp only; omega) (by dsimp only; omega) (by dsimp only; omega) (by dsimp only; omega) (by dsimp only; omega) | go_keep)
    (first
      | (go_at_call 29; ((with_reducible refine (Nt.mul (.slice ana lna pna) (.slice anb lnb pnb) c na nb W.drew (HNa.out.keep HWD.out) (HNb.out.keep HWD.out) (by omega)).mono ?_)); rintro e w1 ⟨v1, rfl, h1, hb1⟩; have H1 := Lib.hid h1; clear h1)
      | (go_at_call 29; ((with_reducible refine (Nt.mul (.slice ada lda pda) (.slice adb ldb pdb) c da db w1 ((HDa.out.keep HWD.out).keep hb1) ((HDb.out.keep HWD.out).keep hb1) (by omega)).mono ?_)); rintro e w2 ⟨v2, rfl, h2, hb2⟩; have H2 := Lib.hid h2; clear h2)
      | (go_at_call 61; ((with_reducible refine (qReduce (!(nega == negb)) v1 v2 (c + c) (na * nb) (da * db) w2 ((H1.out.keep hb2).num _ HP1.out) (H2.out.num _ HP2.out) (by omega)).mono ?_)); rintro e w3 ⟨v3, rfl, h3, hb3⟩; obtain ⟨qb, qa, qn, qc, ra, rn, rc, rfl⟩ := h3.form; have HI := Lib.hid h3; have HBW := Lib.hid (((HWD.out.trans (hb1.mono HWD.out.size)).trans (hb2.mono (Nat.le_trans HWD.out.size hb1.size))).trans (hb3.mono (Nat.le_trans (Nat.le_trans HWD.out.size hb1.size) hb2.size))); have HBS := Lib.hid (show w.heap.size + 3 ≤ w2.heap.size by have e1 := HWD.out.size; have e2 := hb1.size; have e3 := hb2.size; rw [HWS.out] at e1; omega); obtain ⟨⟨rc0, rc1, rc2⟩, rf0, rf1, rf2⟩ := HR.out.keep HBW.out; clear h3; have hb3z := hb3))
  all_goals
    go_wp2_with fail
    rw [HQ.out]
    have hbw := hW.trans (HBW.out.mono (by have := HWS.out; omega))
    refine bodyPost_ret (v := .agg #[.bool qb, .slice qa qn qc, .slice ra rn rc]) (by simp [results, Try.results28, go_sem, rc0, rc1, rc2]) rfl ?_
    exact fin_q (base := w.heap.size + 3) (HI.out.mono HBS.out) (by omega) hbw (by omega)
end Go.Proofs.Ythjgfppmempbkaa.Nt

/-
  Contract of rational.Div.
-/
namespace Go.Proofs.Ythjgfppmempbkaa.Nt
open Go.ChangeShapes Go.WideShapes Go.ChangeAt Go.RowKit B
set_option linter.unusedVariables false

/-- a fraction and an error number -/
def RetQE (base : Nat) (w : World) (q : Rat) (code : Int) (e : Ending) (w' : World) : Prop := ∃ v, e = .returned (.tuple #[v, .int .i64 code]) ∧ IsQ base w' v q ∧ Below base w w'
/-- the zero value and an error number -/
def ErrQ (w : World) (code : Int) (e : Ending) (w' : World) : Prop := e = .returned (.tuple #[.agg #[.bool false, .slice none 0 0, .slice none 0 0], .int .i64 code]) ∧ Below w.heap.size w w'
theorem fin_qe {w w2 : World} {g base : Nat} {v : Value} {q : Rat} {x y z : Value} {code : Int} (h : IsQ base w2 v q) (hg : g < base) (hb : Below w.heap.size w w2) (hw : w.heap.size ≤ g) :
    RetQE w.heap.size w q code (.returned (.tuple #[v, .int .i64 code])) (((w2.setCell ⟨g, 0, none⟩ x).setCell ⟨g, 1, none⟩ y).setCell ⟨g, 2, none⟩ z) :=
  ⟨v, rfl, (h.stored (w0 := w) hg).mono (by omega), below_put3 hb hw _ _ _⟩
theorem mk_div {p r : Bool} {a b c d : Int} (hb : 0 ≤ b) (hc : 0 < c) (hd : 0 < d) : mk p a b / mk r c d = mk (p != r) (a * d) (b * c) := by
  have hne : mk r c d ≠ 0 := by
    intro h
    have := mk_parts (neg := r) hc hd
    rw [h] at this
    have h2 := this.1
    have h3 := this.2.2.2.1
    cases r <;> simp [sg] at h2 <;> omega
  have e : mk r c d * mk r d c = 1 := by
    rw [mk_mul r r c d d c (by omega) (by omega)]
    unfold mk
    have e1 : (r != r) = false := by simp
    rw [e1]
    have e2 : d * c = c * d := Int.mul_comm _ _
    rw [e2]
    have hpos : 0 < c * d := Int.mul_pos hc hd
    show mkRat (c * d) (c * d).toNat = 1
    have := Rat.mkRat_mul_left (n := 1) (d := 1) (a := (c * d).toNat) (by omega)
    rw [Int.toNat_of_nonneg (by omega), Int.mul_one, Nat.mul_one] at this
    rw [this]; rfl
  rw [Rat.div_def, Rat.inv_eq_of_mul_eq_one e, mk_mul p r a b d c hb (by omega)]
end Go.Proofs.Ythjgfppmempbkaa.Nt

/-
  Contract of rational.New.
-/
namespace Go.Proofs.Ythjgfppmempbkaa.Nt
open Go.ChangeShapes Go.WideShapes Go.ChangeAt Go.RowKit B
set_option linter.unusedVariables false

theorem mk_new {n d : Int} (hd : d ≠ 0) : mk (!(decide (n < 0) == decide (d < 0))) (n.natAbs : Int) (d.natAbs : Int) = Rat.divInt n d := by
  unfold mk
  rw [Int.toNat_natCast]
  rcases Int.lt_or_gt_of_ne hd with h | h
  · obtain ⟨k, rfl⟩ : ∃ k : Nat, d = -(k : Int) := ⟨d.natAbs, by omega⟩
    rw [Rat.divInt_neg', Rat.divInt_ofNat, Int.natAbs_neg, Int.natAbs_natCast]
    congr 1
    rw [decide_eq_true h]
    by_cases hn : n < 0
    · rw [decide_eq_true hn]; simp [sg]; omega
    · rw [decide_eq_false hn]; simp [sg]; omega
  · obtain ⟨k, rfl⟩ : ∃ k : Nat, d = (k : Int) := ⟨d.natAbs, by omega⟩
    rw [Rat.divInt_ofNat, Int.natAbs_natCast]
    congr 1
    rw [decide_eq_false (show ¬ ((k : Int) < 0) by omega)]
    by_cases hn : n < 0
    · rw [decide_eq_true hn]; simp [sg]; omega
    · rw [decide_eq_false hn]; simp [sg]; omega
theorem abs_b {n : Int} (h0 : -9223372036854775808 ≤ n) (h1 : n ≤ 9223372036854775807) : (n.natAbs : Int) < Bp 2 := bp_lit (by omega)
set_option maxHeartbeats 1000000 in
theorem qNew0 (n : Int) (w : World) : Calls Try.prog 60 #[.int .i64 n, .int .i64 0] w (ErrQ w 20) := by
  obtain ⟨hR, hW, hS⟩ := pro1 w (.bool false) (.slice none 0 0) (.slice none 0 0) 53
  have HW := Lib.hid hW
  clear hR hW hS
  go_enter Try.func60, Try.ntmps60
  go_wp2_with fail
  refine bodyPost_ret (v := .tuple #[.agg #[.bool false, .slice none 0 0, .slice none 0 0], .int .i64 20]) (by simp [results, Try.results60, go_sem]) rfl ?_
  exact ⟨rfl, HW.out⟩
set_option maxHeartbeats 1000000 in
theorem qNew (n d : Int) (w : World) (h0 : -9223372036854775808 ≤ n) (h1 : n ≤ 9223372036854775807) (h2 : -9223372036854775808 ≤ d) (h3 : d ≤ 9223372036854775807) (hd : d ≠ 0) :
    Calls Try.prog 60 #[.int .i64 n, .int .i64 d] w (RetQE w.heap.size w (Rat.divInt n d) 0) := by
  obtain ⟨hR, hW, hS⟩ := pro1 w (.bool false) (.slice none 0 0) (.slice none 0 0) 53
  have HQ := Lib.hid (mk_new (n := n) hd)
  have HB1 := Lib.hid (And.intro (abs_b h0 h1) (abs_b h2 h3))
  have hz : (d == 0) = false := by rw [beq_eq_false_iff_ne]; exact hd
  generalize hWe : w.alloc (.cells #[.bool false, .slice none 0 0, .slice none 0 0] 53 (0, 0)) = W at *
  have HWE := Lib.hid hWe
  have HWS := Lib.hid hS
  have HR := Lib.hid hR
  obtain ⟨bn, hbn⟩ : ∃ b, decide (n < 0) = b := ⟨_, rfl⟩
  obtain ⟨bd, hbd⟩ : ∃ b, decide (d < 0) = b := ⟨_, rfl⟩
  rw [hbn, hbd] at HQ
  clear hWe hS hR hd
  go_enter Try.func60, Try.ntmps60
  go_wp2_with fail
  rw [HWE.out]
  clear hz
  refine (qMagnitude n W h0 h1).mono ?_
  rintro e w1 ⟨v1, rfl, g1, hb1⟩
  have H1 := Lib.hid g1
  clear g1
  go_wp2_with fail
  refine (qMagnitude d w1 h2 h3).mono ?_
  rintro e w2 ⟨v2, rfl, g2, hb2⟩
  have H2 := Lib.hid g2
  clear g2
  go_wp2_with fail
  refine (qReduce _ v1 v2 2 (n.natAbs : Int) (d.natAbs : Int) w2 ((H1.out.keep hb2).num 2 HB1.out.1) (H2.out.num 2 HB1.out.2) (by omega)).mono ?_
  rintro e w3 ⟨v3, rfl, h, hb3⟩
  rw [HQ.out] at h
  obtain ⟨qb, qa, qn, qc, ra, rn, rc, rfl⟩ := h.form
  have HI := Lib.hid h
  have HBW := Lib.hid ((hb1.trans (hb2.mono hb1.size)).trans (hb3.mono (Nat.le_trans hb1.size hb2.size)))
  have HBS := Lib.hid (show w.heap.size + 1 ≤ w2.heap.size by have e1 := hb1.size; have e2 := hb2.size; rw [HWS.out] at e1; omega)
  obtain ⟨⟨rc0, rc1, rc2⟩, rf0, rf1, rf2⟩ := HR.out.keep HBW.out
  clear h
  go_wp2_with fail
  have hbw := hW.trans (HBW.out.mono (by have := HWS.out; omega))
  refine bodyPost_ret (v := .tuple #[.agg #[.bool qb, .slice qa qn qc, .slice ra rn rc], .int .i64 0]) (by simp [results, Try.results60, go_sem, rc0, rc1, rc2]) rfl ?_
  exact fin_qe (base := w.heap.size + 1) (HI.out.mono HBS.out) (by omega) hbw (by omega)

end Go.Proofs.Ythjgfppmempbkaa.Nt
