/-
  QCmp, QAdd, QSub, in one text: see the remarks at the head of each part.
-/
import Derived.Test.YthcbjhmdpehooaaGreatMQ
namespace Go.Proofs.YthcbjhmdpehooaaGreat.Nt
open Go.ChangeShapes Go.WideShapes Go.ChangeAt Go.RowKit B
set_option linter.unusedVariables false
theorem cmpI_bd (x y : Int) : -1 ≤ cmpI x y ∧ cmpI x y ≤ 1 := by
 unfold cmpI
 split
 ·decide
 ·split <;> decide
theorem mul_small {a b : Int} (h1 : -1 ≤ a) (h2 : a ≤ 1) (h3 : -1 ≤ b) (h4 : b ≤ 1) : -1 ≤ a * b ∧ a * b ≤ 1 := by
 have ha : a = -1 ∨ a = 0 ∨ a = 1 := by omega
 rcases ha with rfl | rfl | rfl <;> omega
theorem cmpQ_ne {p q : Rat} (h : sgQ p ≠ sgQ q) : cmpQ p q = if sgQ p < sgQ q then -1 else 1 := by
 have hp := sgQ_cases p
 have hq := sgQ_cases q
 unfold cmpQ
 have key : ∀ {x y : Rat}, sgQ x < sgQ y → sgQ (x - y) = -1 := by
  intro x y hxy
  unfold sgQ at *
  rw [Rat.sub_def', mkRat_sign _ _ (Nat.mul_ne_zero x.den_nz y.den_nz)]
  apply Int.sign_eq_neg_one_of_neg
  have hx := x.den_pos
  have hy := y.den_pos
  rcases Int.lt_trichotomy x.num 0 with h1 | h1 | h1
  ·have a1 : x.num * (y.den : Int) < 0 := Int.mul_neg_of_neg_of_pos h1 (by omega)
   rcases Int.lt_trichotomy y.num 0 with h2 | h2 | h2
   ·rw [Int.sign_eq_neg_one_of_neg h1, Int.sign_eq_neg_one_of_neg h2] at hxy; omega
   ·rw [h2, Int.zero_mul]; omega
   ·have a2 : 0 < y.num * (x.den : Int) := Int.mul_pos h2 (by omega)
    omega
  ·rw [h1] at hxy ⊢
   rw [Int.zero_mul]
   rcases Int.lt_trichotomy y.num 0 with h2 | h2 | h2
   ·rw [Int.sign_eq_neg_one_of_neg h2] at hxy; simp at hxy
   ·rw [h2] at hxy; simp at hxy
   ·have a2 : 0 < y.num * (x.den : Int) := Int.mul_pos h2 (by omega)
    omega
  ·rw [Int.sign_eq_one_of_pos h1] at hxy
   rcases Int.lt_trichotomy y.num 0 with h2 | h2 | h2
   ·rw [Int.sign_eq_neg_one_of_neg h2] at hxy; omega
   ·rw [h2] at hxy; simp at hxy
   ·rw [Int.sign_eq_one_of_pos h2] at hxy; omega
 by_cases hlt : sgQ p < sgQ q
 ·rw [if_pos hlt, key hlt]
 ·rw [if_neg hlt]
  have := key (x := q) (y := p) (by omega)
  rw [← Rat.neg_sub, sgQ_neg, this]; rfl
theorem cmpQ_zero {p q : Rat} (h : sgQ p = sgQ q) (h0 : sgQ p = 0) : cmpQ p q = 0 := by
 have h1 := sgQ_eq_zero.1 h0
 have h2 := sgQ_eq_zero.1 (h ▸ h0)
 rw [h1, h2, cmpQ, Rat.sub_self]; rfl
theorem cmpQ_same {r : Bool} {a b c d : Int} (ha : 0 < a) (hb : 0 < b) (hc : 0 < c) (hd : 0 < d) : cmpQ (mk r a b) (mk r c d) = sgQ (mk r a b) * cmpI (a * d) (c * b) := by
 rw [cmpQ_mk hb hd, sgQ_mk ha hb, cmpI_sign]
 cases r
 ·simp [sg]
 ·simp only [sg, if_true]
  rw [Int.neg_mul, Int.neg_mul, show -(a * d) - -(c * b) = -(a * d - c * b) by omega, Int.sign_neg, Int.neg_mul, Int.one_mul]
theorem sg_pos_of {neg : Bool} {n d : Int} (hn : 0 ≤ n) (hd : 0 ≤ d) (h : sgQ (mk neg n d) ≠ 0) : 0 < n ∧ 0 < d ∧ sgQ (mk neg n d) = if neg then -1 else 1 := by
 have h1 : n ≠ 0 := fun e => h (by rw [mk_zero (.inl e)]; rfl)
 have h2 : d ≠ 0 := fun e => h (by rw [mk_zero (.inr e)]; rfl)
 exact ⟨by omega, by omega, sgQ_mk (by omega) (by omega)⟩
set_option maxHeartbeats 4000000 in
theorem qCmp (va vb : Value) (c : Nat) (p q : Rat) (w : World) (ha : Raw w va c p) (hb : Raw w vb c q) (hc : c ≤ 100000000) :
    Calls Tryz.prog 13 #[va, vb] w fun e w' => e = .returned (.int .i64 (cmpQ p q)) ∧ Below w.heap.size w w' := by
 obtain ⟨nega, vna, vda, na, da, rfl, hna, hda, rfl⟩ := ha
 obtain ⟨ana, lna, pna, rfl⟩ := hna.form
 obtain ⟨ada, lda, pda, rfl⟩ := hda.form
 obtain ⟨negb, vnb, vdb, nb, db, rfl, hnb, hdb, rfl⟩ := hb
 obtain ⟨anb, lnb, pnb, rfl⟩ := hnb.form
 obtain ⟨adb, ldb, pdb, rfl⟩ := hdb.form
 obtain ⟨hAa, hAb, hW, hS⟩ := pro2 w (.bool nega) (.slice ana lna pna) (.slice ada lda pda) (.bool negb) (.slice anb lnb pnb) (.slice adb ldb pdb) 38 38
 have HNa := Lib.hid (hna.keep hW)
 have HDa := Lib.hid (hda.keep hW)
 have HNNa := Lib.hid (And.intro hna.nonneg hda.nonneg)
 have HLTa := Lib.hid (And.intro hna.lt hda.lt)
 have HN0a := Lib.hid (And.intro hna hda)
 clear hna hda
 have HNb := Lib.hid (hnb.keep hW)
 have HDb := Lib.hid (hdb.keep hW)
 have HNNb := Lib.hid (And.intro hnb.nonneg hdb.nonneg)
 have HLTb := Lib.hid (And.intro hnb.lt hdb.lt)
 have HN0b := Lib.hid (And.intro hnb hdb)
 clear hnb hdb
 generalize hWe : ((w.alloc (.cells #[.bool nega, .slice ana lna pna, .slice ada lda pda] 38 (0, 0))).alloc (.cells #[.bool negb, .slice anb lnb pnb, .slice adb ldb pdb] 38 (0, 0))) = W at *
 have HAa := Lib.hid hAa
 clear hAa
 have HAb := Lib.hid hAb
 clear hAb
 have HWE := Lib.hid hWe
 have HWS := Lib.hid hS
 clear hWe hS
 go_enter Tryz.func13, Tryz.ntmps13
 obtain ⟨⟨a0, a1, a2⟩, _, _, _⟩ := HAa.out
 obtain ⟨⟨b0, b1, b2⟩, _, _, _⟩ := HAb.out
 have HRWa : Hid (Raw W (.agg #[.bool nega, .slice ana lna pna, .slice ada lda pda]) c (mk nega na da)) := ⟨_, _, _, _, _, rfl, HNa.out, HDa.out, rfl⟩
 have HRWb : Hid (Raw W (.agg #[.bool negb, .slice anb lnb pnb, .slice adb ldb pdb]) c (mk negb nb db)) := ⟨_, _, _, _, _, rfl, HNb.out, HDb.out, rfl⟩
 go_wp2_with fail
 rw [HWE.out]
 have HWD : Hid (Below W.heap.size W W.drew) := (Below.refl _ _).drew
 go_region_held3 (fun w' => w'.cell? ⟨w.heap.size, 0, none⟩ = some (.bool nega) ∧ w'.cell? ⟨w.heap.size, 1, none⟩ = some (.slice ana lna pna) ∧ w'.cell? ⟨w.heap.size, 2, none⟩ = some (.slice ada lda pda) ∧ w'.cell? ⟨w.heap.size + 1, 0, none⟩ = some (.bool negb) ∧ w'.cell? ⟨w.heap.size + 1, 1, none⟩ = some (.slice anb lnb pnb) ∧ w'.cell? ⟨w.heap.size + 1, 2, none⟩ = some (.slice adb ldb pdb)) (first | with_reducible assumption | with_reducible exact keep6 (by assumption) (by assumption) | with_reducible exact keep6p (by assumption) (by dsimp only; omega) (by dsimp only; omega) (by dsimp only; omega) (by dsimp only; omega) (by dsimp only; omega) (by dsimp only; omega) | go_keep)
  (first
   | (go_at_call 29; ((with_reducible refine (qSign (.agg #[.bool nega, .slice ana lna pna, .slice ada lda pda]) c _ W.drew (HRWa.out.keep HWD.out) (by omega)).mono ?_)); rintro e w1 ⟨rfl, hb1⟩)
   | (go_at_call 29; ((with_reducible refine (qSign (.agg #[.bool negb, .slice anb lnb pnb, .slice adb ldb pdb]) c _ w1 ((HRWb.out.keep HWD.out).keep hb1) (by omega)).mono ?_)); rintro e w2 ⟨rfl, hb2⟩))
 all_goals
  have HB2 := Lib.hid ((HWD.out.trans (hb1.mono HWD.out.size)).trans (hb2.mono (Nat.le_trans HWD.out.size hb1.size)))
  obtain ⟨⟨x0, x1, x2⟩, _, _, _⟩ := HAa.out.keep HB2.out
  obtain ⟨⟨y0, y1, y2⟩, _, _, _⟩ := HAb.out.keep HB2.out
  have hbw := hW.trans (HB2.out.mono (by have := HWS.out; omega))
  clear a0 a1 a2 b0 b1 b2 hb1 hb2
  have hca := sgQ_cases (mk nega na da)
  have hcb := sgQ_cases (mk negb nb db)
  by_cases hne : sgQ (mk nega na da) = sgQ (mk negb nb db)
  ·by_cases hz : sgQ (mk nega na da) = 0
   ·have HQ := Lib.hid (cmpQ_zero hne hz)
    have e2 : sgQ (mk negb nb db) = 0 := by rw [← hne]; exact hz
    rw [hz, e2]
    clear hne hz e2 hca hcb
    go_wp2_with fail
    go_ret
    exact ⟨by rw [HQ.out]; rfl, hbw⟩
   ·obtain ⟨hna, hda, hsa⟩ := sg_pos_of HNNa.out.1 HNNa.out.2 hz
    obtain ⟨hnb, hdb, hsb⟩ := sg_pos_of (neg := negb) HNNb.out.1 HNNb.out.2 (by rw [← hne]; exact hz)
    have hng : nega = negb := by
     rw [hsa, hsb] at hne
     cases nega <;> cases negb <;> simp at hne <;> rfl
    subst hng
    have HQ := Lib.hid (cmpQ_same (r := nega) hna hda hnb hdb)
    have hzz : (sgQ (mk nega na da) == 0) = false := by rw [beq_eq_false_iff_ne]; exact hz
    rw [← hne]
    have hbd : -1 ≤ sgQ (mk nega na da) ∧ sgQ (mk nega na da) ≤ 1 := by omega
    generalize sgQ (mk nega na da) = s at *
    clear hne hz hca hcb hsa hsb
    go_wp2_with fail
    have HWX : Hid (Below W.heap.size W w2.drew) := HB2.out.drew
    have HP1 := Lib.hid (bp_mul HNNa.out.1 HLTa.out.1 HNNb.out.2 HLTb.out.2)
    have HP2 := Lib.hid (bp_mul HNNb.out.1 HLTb.out.1 HNNa.out.2 HLTa.out.2)
    have hcm := cmpI_bd (na * db) (nb * da)
    have hwr : IntKind.i64.wrap (s * cmpI (na * db) (nb * da)) = s * cmpI (na * db) (nb * da) := IntWalk.i64_in _ (by rcases hbd with ⟨g1, g2⟩; rcases hcm with ⟨g3, g4⟩; have := mul_small g1 g2 g3 g4; omega)
    go_region_held3 (fun w' => w'.cell? ⟨w.heap.size, 0, none⟩ = some (.bool nega) ∧ w'.cell? ⟨w.heap.size, 1, none⟩ = some (.slice ana lna pna) ∧ w'.cell? ⟨w.heap.size, 2, none⟩ = some (.slice ada lda pda) ∧ w'.cell? ⟨w.heap.size + 1, 0, none⟩ = some (.bool nega) ∧ w'.cell? ⟨w.heap.size + 1, 1, none⟩ = some (.slice anb lnb pnb) ∧ w'.cell? ⟨w.heap.size + 1, 2, none⟩ = some (.slice adb ldb pdb)) (first | with_reducible assumption | with_reducible exact keep6 (by assumption) (by assumption) | with_reducible exact keep6p (by assumption) (by dsimp only; omega) (by dsimp only; omega) (by dsimp only; omega) (by dsimp only; omega) (by dsimp only; omega) (by dsimp only; omega) | go_keep)
     (first
      | (go_at_call 37; ((with_reducible refine (Nt.mul (.slice ana lna pna) (.slice adb ldb pdb) c na db w2.drew (HNa.out.keep HWX.out) (HDb.out.keep HWX.out) (by omega)).mono ?_)); rintro e w3 ⟨v3, rfl, h3, hb3⟩; have H3 := Lib.hid h3; clear h3)
      | (go_at_call 37; ((with_reducible refine (Nt.mul (.slice anb lnb pnb) (.slice ada lda pda) c nb da w3 ((HNb.out.keep HWX.out).keep hb3) ((HDa.out.keep HWX.out).keep hb3) (by omega)).mono ?_)); rintro e w4 ⟨v4, rfl, h4, hb4⟩; have H4 := Lib.hid h4; clear h4)
      | (go_at_call 36; ((with_reducible refine (Nt.cmp v3 v4 (c + c) (na * db) (nb * da) w4 ((H3.out.keep hb4).num _ HP1.out) (H4.out.num _ HP2.out) (by omega)).mono ?_)); rintro e w5 ⟨rfl, hb5⟩))
    all_goals
     have e1 := hbw.drew.size
     have e2 := hb3.size
     have e3 := hb4.size
     have hbz := ((hbw.drew.trans (hb3.mono e1)).trans (hb4.mono (by omega))).trans (hb5.mono (by omega))
     clear e1 e2 e3
     go_wp2_with fail
     go_ret
     exact ⟨by rw [HQ.out]; first | rfl | (congr 2), hbz⟩
  ·have HQ := Lib.hid (cmpQ_ne hne)
   have hnn : (sgQ (mk nega na da) != sgQ (mk negb nb db)) = true := by rw [bne_iff_ne]; exact hne
   generalize sgQ (mk nega na da) = s at *
   generalize sgQ (mk negb nb db) = t at *
   clear hca hcb
   by_cases hlt : s < t
   ·rw [if_pos hlt] at HQ
    clear hne
    go_wp2_with fail
    go_ret
    exact ⟨by rw [HQ.out]; rfl, hbw⟩
   ·rw [if_neg hlt] at HQ
    clear hne
    go_wp2_with fail
    go_ret
    exact ⟨by rw [HQ.out]; rfl, hbw⟩
end Go.Proofs.YthcbjhmdpehooaaGreat.Nt
namespace Go.Proofs.YthcbjhmdpehooaaGreat.Nt
open Go.ChangeShapes Go.WideShapes Go.ChangeAt Go.RowKit B
set_option linter.unusedVariables false
theorem mk_scale {p : Bool} {a b k : Int} (hb : 0 < b) (hk : 0 < k) : mk p a b = mk p (a * k) (b * k) := by
 unfold mk
 have h := Rat.mkRat_mul_right (n := sg p a) (d := b.toNat) (a := k.toNat) (by omega)
 rw [Int.toNat_of_nonneg (by omega)] at h
 rw [← h]
 congr 1
 ·cases p <;> simp [sg, Int.neg_mul]
 ·obtain ⟨x, rfl⟩ := Int.eq_ofNat_of_zero_le (show 0 ≤ b by omega)
  obtain ⟨y, rfl⟩ := Int.eq_ofNat_of_zero_le (show 0 ≤ k by omega)
  rw [← Int.natCast_mul, Int.toNat_natCast, Int.toNat_natCast, Int.toNat_natCast]
theorem mk_plus {p : Bool} {x y d : Int} (hd : 0 < d) : mk p x d + mk p y d = mk p (x + y) d := by
 rw [mk_add_same p p x d y hd]
 unfold mk
 congr 1
 cases p <;> simp [sg] <;> omega
theorem mk_minus {p q : Bool} {x y d : Int} (hd : 0 < d) (hpq : p ≠ q) : mk p x d + mk q y d = mk p (x - y) d ∧ mk p x d + mk q y d = mk q (y - x) d := by
 rw [mk_add_same p q x d y hd]
 unfold mk
 cases p <;> cases q <;> simp [sg] at hpq ⊢ <;> exact ⟨by first | rfl | (congr 1; omega), by first | rfl | (congr 1; omega)⟩
set_option maxHeartbeats 4000000 in
theorem qAdd (va vb : Value) (c : Nat) (p q : Rat) (w : World) (ha : Raw w va c p) (hb : Raw w vb c q) (hc : c ≤ 100000000) :
    Calls Tryz.prog 40 #[va, vb] w (RetQ w.heap.size w (p + q)) := by
 obtain ⟨nega, vna, vda, na, da, rfl, hna, hda, rfl⟩ := ha
 obtain ⟨ana, lna, pna, rfl⟩ := hna.form
 obtain ⟨ada, lda, pda, rfl⟩ := hda.form
 obtain ⟨negb, vnb, vdb, nb, db, rfl, hnb, hdb, rfl⟩ := hb
 obtain ⟨anb, lnb, pnb, rfl⟩ := hnb.form
 obtain ⟨adb, ldb, pdb, rfl⟩ := hdb.form
 obtain ⟨hAa, hAb, hR, hW, hS⟩ := pro3 w (.bool nega) (.slice ana lna pna) (.slice ada lda pda) (.bool negb) (.slice anb lnb pnb) (.slice adb ldb pdb) (.bool false) (.slice none 0 0) (.slice none 0 0) 38 38 38
 have HNa := Lib.hid (hna.keep hW)
 have HDa := Lib.hid (hda.keep hW)
 have HNNa := Lib.hid (And.intro hna.nonneg hda.nonneg)
 have HLTa := Lib.hid (And.intro hna.lt hda.lt)
 have HN0a := Lib.hid (And.intro hna hda)
 clear hna hda
 have HNb := Lib.hid (hnb.keep hW)
 have HDb := Lib.hid (hdb.keep hW)
 have HNNb := Lib.hid (And.intro hnb.nonneg hdb.nonneg)
 have HLTb := Lib.hid (And.intro hnb.lt hdb.lt)
 have HN0b := Lib.hid (And.intro hnb hdb)
 clear hnb hdb
 generalize hWe : (((w.alloc (.cells #[.bool nega, .slice ana lna pna, .slice ada lda pda] 38 (0, 0))).alloc (.cells #[.bool negb, .slice anb lnb pnb, .slice adb ldb pdb] 38 (0, 0))).alloc (.cells #[.bool false, .slice none 0 0, .slice none 0 0] 38 (0, 0))) = W at *
 have HAa := Lib.hid hAa
 clear hAa
 have HAb := Lib.hid hAb
 clear hAb
 have HR := Lib.hid hR
 clear hR
 have HWE := Lib.hid hWe
 have HWS := Lib.hid hS
 clear hWe hS
 go_enter Tryz.func40, Tryz.ntmps40
 obtain ⟨⟨a0, a1, a2⟩, _, _, _⟩ := HAa.out
 obtain ⟨⟨b0, b1, b2⟩, _, _, _⟩ := HAb.out
 have HRWa : Hid (Raw W (.agg #[.bool nega, .slice ana lna pna, .slice ada lda pda]) c (mk nega na da)) := ⟨_, _, _, _, _, rfl, HNa.out, HDa.out, rfl⟩
 have HRWb : Hid (Raw W (.agg #[.bool negb, .slice anb lnb pnb, .slice adb ldb pdb]) c (mk negb nb db)) := ⟨_, _, _, _, _, rfl, HNb.out, HDb.out, rfl⟩
 go_wp2_with fail
 rw [HWE.out]
 refine (qSign _ c _ W HRWa.out (by omega)).mono ?_
 rintro e w1 ⟨rfl, hb1⟩
 obtain ⟨⟨x0, x1, x2⟩, _, _, _⟩ := HAa.out.keep hb1
 obtain ⟨⟨y0, y1, y2⟩, _, _, _⟩ := HAb.out.keep hb1
 have hs1 : w.heap.size + 3 ≤ w1.heap.size := by have := hb1.size; rw [HWS.out] at this; exact this
 clear a0 a1 a2 b0 b1 b2
 by_cases hza : sgQ (mk nega na da) = 0
 ·have HQ := Lib.hid (show mk nega na da + mk negb nb db = mk negb nb db by rw [sgQ_eq_zero.1 hza, Rat.zero_add])
  rw [hza]
  clear hza
  go_wp2_with fail
  refine (qNormalize _ c _ w1 (HRWb.out.keep hb1) (by omega)).mono ?_
  rintro e w2 ⟨v, rfl, h, hb2⟩
  rw [← HQ.out] at h
  obtain ⟨qb, qa, qn, qc, ra, rn, rc, rfl⟩ := h.form
  have HI := Lib.hid h
  have HBW := Lib.hid (hb1.trans (hb2.mono hb1.size))
  have HBS := Lib.hid (hs1)
  obtain ⟨⟨rc0, rc1, rc2⟩, rf0, rf1, rf2⟩ := HR.out.keep HBW.out
  clear h hb2
  go_wp2_with fail
  have hbw := hW.trans (HBW.out.mono (by have := HWS.out; omega))
  refine bodyPost_ret (v := .agg #[.bool qb, .slice qa qn qc, .slice ra rn rc]) (by simp [results, Tryz.results40, go_sem, rc0, rc1, rc2]) rfl ?_
  exact fin_q (base := w.heap.size + 3) (HI.out.mono HBS.out) (by omega) hbw (by omega)
 obtain ⟨hna, hda, hsa⟩ := sg_pos_of HNNa.out.1 HNNa.out.2 hza
 have hzz : (sgQ (mk nega na da) == 0) = false := by rw [beq_eq_false_iff_ne]; exact hza
 generalize sgQ (mk nega na da) = s at *
 clear hza hsa
 go_wp2_with fail
 clear hzz
 refine (qSign _ c _ w1 (HRWb.out.keep hb1) (by omega)).mono ?_
 rintro e w2 ⟨rfl, hb2⟩
 have hb12 := hb1.trans (hb2.mono hb1.size)
 have hs2 : w.heap.size + 3 ≤ w2.heap.size := by have := hb2.size; omega
 clear x0 x1 x2 y0 y1 y2 hb2
 obtain ⟨⟨x0, x1, x2⟩, _, _, _⟩ := HAa.out.keep hb12
 obtain ⟨⟨y0, y1, y2⟩, _, _, _⟩ := HAb.out.keep hb12
 by_cases hzb : sgQ (mk negb nb db) = 0
 ·have HQ := Lib.hid (show mk nega na da + mk negb nb db = mk nega na da by rw [sgQ_eq_zero.1 hzb, Rat.add_zero])
  rw [hzb]
  clear hzb
  go_wp2_with fail
  refine (qNormalize _ c _ w2 (HRWa.out.keep hb12) (by omega)).mono ?_
  rintro e w3 ⟨v, rfl, h, hb3⟩
  rw [← HQ.out] at h
  obtain ⟨qb, qa, qn, qc, ra, rn, rc, rfl⟩ := h.form
  have HI := Lib.hid h
  have HBW := Lib.hid (hb12.trans (hb3.mono hb12.size))
  have HBS := Lib.hid (hs2)
  obtain ⟨⟨rc0, rc1, rc2⟩, rf0, rf1, rf2⟩ := HR.out.keep HBW.out
  clear h hb3
  go_wp2_with fail
  have hbw := hW.trans (HBW.out.mono (by have := HWS.out; omega))
  refine bodyPost_ret (v := .agg #[.bool qb, .slice qa qn qc, .slice ra rn rc]) (by simp [results, Tryz.results40, go_sem, rc0, rc1, rc2]) rfl ?_
  exact fin_q (base := w.heap.size + 3) (HI.out.mono HBS.out) (by omega) hbw (by omega)
 obtain ⟨hnb, hdb, hsb⟩ := sg_pos_of HNNb.out.1 HNNb.out.2 hzb
 have hzz : (sgQ (mk negb nb db) == 0) = false := by rw [beq_eq_false_iff_ne]; exact hzb
 generalize sgQ (mk negb nb db) = s2 at *
 clear hzb hsb
 go_wp2_with fail
 clear hzz
 go_quiet (fail)
 have hb13 := below_drewN hb12 nq
 have hs3 : w.heap.size + 3 ≤ (w2.drewN nq).heap.size := by have e := (below_drewN (Below.refl w2.heap.size w2) nq).size; omega
 generalize w2.drewN nq = w3 at *
 clear x0 x1 x2 y0 y1 y2 hb12 hs2
 obtain ⟨⟨x0, x1, x2⟩, _, _, _⟩ := HAa.out.keep hb13
 obtain ⟨⟨y0, y1, y2⟩, _, _, _⟩ := HAb.out.keep hb13
 go_wp2_with fail
 refine (Nt.cmp _ _ c da db w3 (HDa.out.keep hb13) (HDb.out.keep hb13) (by omega)).mono ?_
 rintro e w4 ⟨rfl, hb4⟩
 have hb14 := hb13.trans (hb4.mono hb13.size)
 have hs4 : w.heap.size + 3 ≤ w4.heap.size := by have := hb4.size; omega
 clear x0 x1 x2 y0 y1 y2 hb4
 obtain ⟨⟨x0, x1, x2⟩, _, _, _⟩ := HAa.out.keep hb14
 obtain ⟨⟨y0, y1, y2⟩, _, _, _⟩ := HAb.out.keep hb14
 have HP1 := Lib.hid (bp_mul HNNa.out.1 HLTa.out.1 HNNb.out.2 HLTb.out.2)
 have HP2 := Lib.hid (bp_mul HNNb.out.1 HLTb.out.1 HNNa.out.2 HLTa.out.2)
 have HP3 := Lib.hid (bp_mul HNNa.out.2 HLTa.out.2 HNNb.out.2 HLTb.out.2)
 have hcase : (cmpI da db = 0 ∧ da = db) ∨ (cmpI da db != 0) = true := by
  by_cases h : da = db
  ·exact .inl ⟨by rw [h, cmpI, if_neg (by omega), if_pos rfl], h⟩
  ·right
   rw [bne_iff_ne, cmpI]
   split
   ·decide
   ·first | decide | (rw [if_neg h]; decide)
 rcases hcase with ⟨hcz, hdd⟩ | hcz
 ·rw [hcz]
  subst hdd
  clear hcz
  have hden : 0 < da := hda
  have HX := Lib.hid ((HNa.out.keep hb14).mono (show c ≤ c + c by omega))
  have HY := Lib.hid ((HNb.out.keep hb14).mono (show c ≤ c + c by omega))
  have HDEN := Lib.hid ((HDa.out.keep hb14).mono (show c ≤ c + c by omega))
  generalize hSS : mk nega na da + mk negb nb da = SS at *
  have HSUM := Lib.hid hSS.symm
  clear hSS
  by_cases hng : nega = negb
  ·subst hng
   have HQ := Lib.hid (HSUM.out.trans (mk_plus (p := nega) (x := na) (y := nb) hden))
   go_wp2_with fail
   have HWX : Hid (Below W.heap.size W w4.drew) := hb14.drew
   have HWZ : Hid (Below w4.heap.size w4 w4.drew) := (Below.refl _ _).drew
   have HSL := Lib.hid (bp_add HX.out.lt HY.out.lt)
   have HS6 := Lib.hid (show w.heap.size + 3 ≤ w4.drew.heap.size from hs4)
   go_region_held3 (fun w' => w'.cell? ⟨w.heap.size, 0, none⟩ = some (.bool nega)) (first | with_reducible assumption | with_reducible exact cell_keep (by assumption) (by assumption) | with_reducible exact put3_far (by assumption) (by dsimp only; omega) | go_keep)
    (first
     | (go_at_call 59; ((with_reducible refine (Nt.add _ _ (c + c) (na) (nb) w4.drew (HX.out.keep HWZ.out) (HY.out.keep HWZ.out) (by omega)).mono ?_)); rintro e w8 ⟨v8, rfl, h8, hb8⟩; have H8 := Lib.hid h8; clear h8)
     | (go_at_call 58; ((with_reducible refine (qReduce nega v8 _ (c + c + (c + c) + 1) (na + nb) (da) w8 (H8.out.num _ HSL.out) (((HDEN.out.keep HWZ.out).keep hb8).mono (by omega)) (by omega)).mono ?_)); rintro e w9 ⟨v9, rfl, h9, hb9⟩; obtain ⟨qb, qa, qn, qc, ra, rn, rc, rfl⟩ := h9.form; have HI := Lib.hid h9; have HBW := Lib.hid ((HWX.out.trans (hb8.mono HWX.out.size)).trans (hb9.mono (Nat.le_trans HWX.out.size hb8.size))); have HBS := Lib.hid (show w.heap.size + 3 ≤ w8.heap.size by have e2 := hb8.size; have := HS6.out; omega); obtain ⟨⟨rc0, rc1, rc2⟩, rf0, rf1, rf2⟩ := HR.out.keep HBW.out; clear h9; have hb9z := hb9))
   all_goals
    go_wp2_with fail
    rw [HQ.out]
    have hbw := hW.trans (HBW.out.mono (by have := HWS.out; omega))
    refine bodyPost_ret (v := .agg #[.bool qb, .slice qa qn qc, .slice ra rn rc]) (by simp [results, Tryz.results40, go_sem, rc0, rc1, rc2]) rfl ?_
    exact fin_q (base := w.heap.size + 3) (HI.out.mono HBS.out) (by omega) hbw (by omega)
  ·have hbeq : (nega == negb) = false := by rw [beq_eq_false_iff_ne]; exact hng
   have HQ := Lib.hid (mk_minus (p := nega) (q := negb) (x := na) (y := nb) hden hng)
   clear hng
   go_wp2_with fail
   clear hbeq
   refine (Nt.sub _ _ (c + c) (na) (nb) w4 HX.out HY.out (by omega)).mono ?_
   rintro e w6 ⟨v6, rfl, h6, hb6⟩
   have hb16 := hb14.trans (hb6.mono hb14.size)
   have hs6 : w.heap.size + 3 ≤ w6.heap.size := by have := hb6.size; omega
   have HDEN6 := Lib.hid (HDEN.out.keep hb6)
   have HX6 := Lib.hid (HX.out.keep hb6)
   have HY6 := Lib.hid (HY.out.keep hb6)
   clear x0 x1 x2 y0 y1 y2
   obtain ⟨⟨x0, x1, x2⟩, _, _, _⟩ := HAa.out.keep hb16
   obtain ⟨⟨y0, y1, y2⟩, _, _, _⟩ := HAb.out.keep hb16
   by_cases hle : nb ≤ na
   ·rw [if_pos hle] at h6
    rw [decide_eq_true hle]
    have H6 := Lib.hid h6
    have HNY := Lib.hid HY6.out.nonneg
    have HLX := Lib.hid HX6.out.lt
    clear h6 hle
    go_wp2_with fail
    refine (qReduce nega v6 _ (c + c) (na - nb) (da) w6 (H6.out.num _ (bp_sub HLX.out HNY.out)) HDEN6.out (by omega)).mono ?_
    rintro e w7 ⟨v, rfl, h, hb7⟩
    rw [← HQ.out.1, ← HSUM.out] at h
    obtain ⟨qb, qa, qn, qc, ra, rn, rc, rfl⟩ := h.form
    have HI := Lib.hid h
    have HBW := Lib.hid (hb16.trans (hb7.mono hb16.size))
    have HBS := Lib.hid (hs6)
    obtain ⟨⟨rc0, rc1, rc2⟩, rf0, rf1, rf2⟩ := HR.out.keep HBW.out
    clear h hb7
    go_wp2_with fail
    have hbw := hW.trans (HBW.out.mono (by have := HWS.out; omega))
    refine bodyPost_ret (v := .agg #[.bool qb, .slice qa qn qc, .slice ra rn rc]) (by simp [results, Tryz.results40, go_sem, rc0, rc1, rc2]) rfl ?_
    exact fin_q (base := w.heap.size + 3) (HI.out.mono HBS.out) (by omega) hbw (by omega)
   ·rw [if_neg hle] at h6
    rw [decide_eq_false hle]
    have HLE := Lib.hid (show na ≤ nb by omega)
    clear h6 hle
    go_wp2_with fail
    refine (Nt.sub _ _ (c + c) (nb) (na) w6 HY6.out HX6.out (by omega)).mono ?_
    rintro e w7 ⟨v7, rfl, h7, hb7⟩
    rw [if_pos HLE.out] at h7
    rw [decide_eq_true HLE.out]
    have H7 := Lib.hid h7
    have HNX := Lib.hid HX6.out.nonneg
    have HLY := Lib.hid HY6.out.lt
    have HDEN7 := Lib.hid (HDEN6.out.keep hb7)
    clear h7
    have hb17 := hb16.trans (hb7.mono hb16.size)
    have hs7 : w.heap.size + 3 ≤ w7.heap.size := by have := hb7.size; omega
    clear x0 x1 x2 y0 y1 y2
    obtain ⟨⟨x0, x1, x2⟩, _, _, _⟩ := HAa.out.keep hb17
    obtain ⟨⟨y0, y1, y2⟩, _, _, _⟩ := HAb.out.keep hb17
    go_wp2_with fail
    refine (qReduce negb v7 _ (c + c) (nb - na) (da) w7 (H7.out.num _ (bp_sub HLY.out HNX.out)) HDEN7.out (by omega)).mono ?_
    rintro e w9 ⟨v, rfl, h, hb9⟩
    rw [← HQ.out.2, ← HSUM.out] at h
    obtain ⟨qb, qa, qn, qc, ra, rn, rc, rfl⟩ := h.form
    have HI := Lib.hid h
    have HBW := Lib.hid (hb17.trans (hb9.mono hb17.size))
    have HBS := Lib.hid (hs7)
    obtain ⟨⟨rc0, rc1, rc2⟩, rf0, rf1, rf2⟩ := HR.out.keep HBW.out
    clear h hb9
    go_wp2_with fail
    have hbw := hW.trans (HBW.out.mono (by have := HWS.out; omega))
    refine bodyPost_ret (v := .agg #[.bool qb, .slice qa qn qc, .slice ra rn rc]) (by simp [results, Tryz.results40, go_sem, rc0, rc1, rc2]) rfl ?_
    exact fin_q (base := w.heap.size + 3) (HI.out.mono HBS.out) (by omega) hbw (by omega)
 ·generalize cmpI da db = cc at *
  go_wp2_with fail
  clear hcz
  have HWX : Hid (Below W.heap.size W w4.drew) := hb14.drew
  go_region_held3 (fun w' => w'.cell? ⟨w.heap.size, 0, none⟩ = some (.bool nega) ∧ w'.cell? ⟨w.heap.size, 1, none⟩ = some (.slice ana lna pna) ∧ w'.cell? ⟨w.heap.size, 2, none⟩ = some (.slice ada lda pda) ∧ w'.cell? ⟨w.heap.size + 1, 0, none⟩ = some (.bool negb) ∧ w'.cell? ⟨w.heap.size + 1, 1, none⟩ = some (.slice anb lnb pnb) ∧ w'.cell? ⟨w.heap.size + 1, 2, none⟩ = some (.slice adb ldb pdb)) (first | with_reducible assumption | with_reducible exact keep6 (by assumption) (by assumption) | with_reducible exact keep6p (by assumption) (by dsimp only; omega) (by dsimp only; omega) (by dsimp only; omega) (by dsimp only; omega) (by dsimp only; omega) (by dsimp only; omega) | go_keep)
   (first
    | (go_at_call 37; ((with_reducible refine (Nt.mul (.slice ana lna pna) (.slice adb ldb pdb) c na db w4.drew (HNa.out.keep HWX.out) (HDb.out.keep HWX.out) (by omega)).mono ?_)); rintro e w10 ⟨v10, rfl, h10, hb10⟩; have H10 := Lib.hid h10; clear h10)
    | (go_at_call 37; ((with_reducible refine (Nt.mul (.slice anb lnb pnb) (.slice ada lda pda) c nb da w10 ((HNb.out.keep HWX.out).keep hb10) ((HDa.out.keep HWX.out).keep hb10) (by omega)).mono ?_)); rintro e w11 ⟨v11, rfl, h11, hb11⟩; have H11 := Lib.hid h11; clear h11))
  have hb111 := (HWX.out.trans (hb10.mono HWX.out.size)).trans (hb11.mono (Nat.le_trans HWX.out.size hb10.size))
  have hs11 : w.heap.size + 3 ≤ w11.heap.size := by have := hb111.size; rw [HWS.out] at this; exact this
  clear x0 x1 x2 y0 y1 y2
  obtain ⟨⟨x0, x1, x2⟩, _, _, _⟩ := HAa.out.keep hb111
  obtain ⟨⟨y0, y1, y2⟩, _, _, _⟩ := HAb.out.keep hb111
  go_wp2_with fail
  refine (Nt.mul _ _ c da db w11 (HDa.out.keep hb111) (HDb.out.keep hb111) (by omega)).mono ?_
  rintro e w12 ⟨v12, rfl, h12, hb12⟩
  have HX := Lib.hid (((H10.out.keep hb11).keep hb12).num (c + c) HP1.out)
  have HY := Lib.hid ((H11.out.keep hb12).num (c + c) HP2.out)
  have HDEN := Lib.hid (h12.num (c + c) HP3.out)
  clear h12
  have hb112 := hb111.trans (hb12.mono hb111.size)
  have hs12 : w.heap.size + 3 ≤ w12.heap.size := by have := hb12.size; omega
  clear x0 x1 x2 y0 y1 y2
  obtain ⟨⟨x0, x1, x2⟩, _, _, _⟩ := HAa.out.keep hb112
  obtain ⟨⟨y0, y1, y2⟩, _, _, _⟩ := HAb.out.keep hb112
  have hden : 0 < da * db := Int.mul_pos hda hdb
  have HSUM := Lib.hid (show mk nega na da + mk negb nb db = mk nega (na * db) (da * db) + mk negb (nb * da) (da * db) by rw [← mk_scale hda hdb, Int.mul_comm da db, ← mk_scale hdb hda])
  generalize na * db = X at *
  generalize nb * da = Y at *
  generalize da * db = D at *
  by_cases hng : nega = negb
  ·subst hng
   have HQ := Lib.hid (HSUM.out.trans (mk_plus (p := nega) (x := X) (y := Y) hden))
   go_wp2_with fail
   have HWX : Hid (Below W.heap.size W w12.drew) := hb112.drew
   have HWZ : Hid (Below w12.heap.size w12 w12.drew) := (Below.refl _ _).drew
   have HSL := Lib.hid (bp_add HX.out.lt HY.out.lt)
   have HS6 := Lib.hid (show w.heap.size + 3 ≤ w12.drew.heap.size from hs12)
   go_region_held3 (fun w' => w'.cell? ⟨w.heap.size, 0, none⟩ = some (.bool nega)) (first | with_reducible assumption | with_reducible exact cell_keep (by assumption) (by assumption) | with_reducible exact put3_far (by assumption) (by dsimp only; omega) | go_keep)
    (first
     | (go_at_call 59; ((with_reducible refine (Nt.add _ _ (c + c) (X) (Y) w12.drew (HX.out.keep HWZ.out) (HY.out.keep HWZ.out) (by omega)).mono ?_)); rintro e w8 ⟨v8, rfl, h8, hb8⟩; have H8 := Lib.hid h8; clear h8)
     | (go_at_call 58; ((with_reducible refine (qReduce nega v8 _ (c + c + (c + c) + 1) (X + Y) (D) w8 (H8.out.num _ HSL.out) (((HDEN.out.keep HWZ.out).keep hb8).mono (by omega)) (by omega)).mono ?_)); rintro e w9 ⟨v9, rfl, h9, hb9⟩; obtain ⟨qb, qa, qn, qc, ra, rn, rc, rfl⟩ := h9.form; have HI := Lib.hid h9; have HBW := Lib.hid ((HWX.out.trans (hb8.mono HWX.out.size)).trans (hb9.mono (Nat.le_trans HWX.out.size hb8.size))); have HBS := Lib.hid (show w.heap.size + 3 ≤ w8.heap.size by have e2 := hb8.size; have := HS6.out; omega); obtain ⟨⟨rc0, rc1, rc2⟩, rf0, rf1, rf2⟩ := HR.out.keep HBW.out; clear h9; have hb9z := hb9))
   all_goals
    go_wp2_with fail
    rw [HQ.out]
    have hbw := hW.trans (HBW.out.mono (by have := HWS.out; omega))
    refine bodyPost_ret (v := .agg #[.bool qb, .slice qa qn qc, .slice ra rn rc]) (by simp [results, Tryz.results40, go_sem, rc0, rc1, rc2]) rfl ?_
    exact fin_q (base := w.heap.size + 3) (HI.out.mono HBS.out) (by omega) hbw (by omega)
  ·have hbeq : (nega == negb) = false := by rw [beq_eq_false_iff_ne]; exact hng
   have HQ := Lib.hid (mk_minus (p := nega) (q := negb) (x := X) (y := Y) hden hng)
   clear hng
   go_wp2_with fail
   clear hbeq
   refine (Nt.sub _ _ (c + c) (X) (Y) w12 HX.out HY.out (by omega)).mono ?_
   rintro e w6 ⟨v6, rfl, h6, hb6⟩
   have hb16 := hb112.trans (hb6.mono hb112.size)
   have hs6 : w.heap.size + 3 ≤ w6.heap.size := by have := hb6.size; omega
   have HDEN6 := Lib.hid (HDEN.out.keep hb6)
   have HX6 := Lib.hid (HX.out.keep hb6)
   have HY6 := Lib.hid (HY.out.keep hb6)
   clear x0 x1 x2 y0 y1 y2
   obtain ⟨⟨x0, x1, x2⟩, _, _, _⟩ := HAa.out.keep hb16
   obtain ⟨⟨y0, y1, y2⟩, _, _, _⟩ := HAb.out.keep hb16
   by_cases hle : Y ≤ X
   ·rw [if_pos hle] at h6
    rw [decide_eq_true hle]
    have H6 := Lib.hid h6
    have HNY := Lib.hid HY6.out.nonneg
    have HLX := Lib.hid HX6.out.lt
    clear h6 hle
    go_wp2_with fail
    refine (qReduce nega v6 _ (c + c) (X - Y) (D) w6 (H6.out.num _ (bp_sub HLX.out HNY.out)) HDEN6.out (by omega)).mono ?_
    rintro e w7 ⟨v, rfl, h, hb7⟩
    rw [← HQ.out.1, ← HSUM.out] at h
    obtain ⟨qb, qa, qn, qc, ra, rn, rc, rfl⟩ := h.form
    have HI := Lib.hid h
    have HBW := Lib.hid (hb16.trans (hb7.mono hb16.size))
    have HBS := Lib.hid (hs6)
    obtain ⟨⟨rc0, rc1, rc2⟩, rf0, rf1, rf2⟩ := HR.out.keep HBW.out
    clear h hb7
    go_wp2_with fail
    have hbw := hW.trans (HBW.out.mono (by have := HWS.out; omega))
    refine bodyPost_ret (v := .agg #[.bool qb, .slice qa qn qc, .slice ra rn rc]) (by simp [results, Tryz.results40, go_sem, rc0, rc1, rc2]) rfl ?_
    exact fin_q (base := w.heap.size + 3) (HI.out.mono HBS.out) (by omega) hbw (by omega)
   ·rw [if_neg hle] at h6
    rw [decide_eq_false hle]
    have HLE := Lib.hid (show X ≤ Y by omega)
    clear h6 hle
    go_wp2_with fail
    refine (Nt.sub _ _ (c + c) (Y) (X) w6 HY6.out HX6.out (by omega)).mono ?_
    rintro e w7 ⟨v7, rfl, h7, hb7⟩
    rw [if_pos HLE.out] at h7
    rw [decide_eq_true HLE.out]
    have H7 := Lib.hid h7
    have HNX := Lib.hid HX6.out.nonneg
    have HLY := Lib.hid HY6.out.lt
    have HDEN7 := Lib.hid (HDEN6.out.keep hb7)
    clear h7
    have hb17 := hb16.trans (hb7.mono hb16.size)
    have hs7 : w.heap.size + 3 ≤ w7.heap.size := by have := hb7.size; omega
    clear x0 x1 x2 y0 y1 y2
    obtain ⟨⟨x0, x1, x2⟩, _, _, _⟩ := HAa.out.keep hb17
    obtain ⟨⟨y0, y1, y2⟩, _, _, _⟩ := HAb.out.keep hb17
    go_wp2_with fail
    refine (qReduce negb v7 _ (c + c) (Y - X) (D) w7 (H7.out.num _ (bp_sub HLY.out HNX.out)) HDEN7.out (by omega)).mono ?_
    rintro e w9 ⟨v, rfl, h, hb9⟩
    rw [← HQ.out.2, ← HSUM.out] at h
    obtain ⟨qb, qa, qn, qc, ra, rn, rc, rfl⟩ := h.form
    have HI := Lib.hid h
    have HBW := Lib.hid (hb17.trans (hb9.mono hb17.size))
    have HBS := Lib.hid (hs7)
    obtain ⟨⟨rc0, rc1, rc2⟩, rf0, rf1, rf2⟩ := HR.out.keep HBW.out
    clear h hb9
    go_wp2_with fail
    have hbw := hW.trans (HBW.out.mono (by have := HWS.out; omega))
    refine bodyPost_ret (v := .agg #[.bool qb, .slice qa qn qc, .slice ra rn rc]) (by simp [results, Tryz.results40, go_sem, rc0, rc1, rc2]) rfl ?_
    exact fin_q (base := w.heap.size + 3) (HI.out.mono HBS.out) (by omega) hbw (by omega)
end Go.Proofs.YthcbjhmdpehooaaGreat.Nt
namespace Go.Proofs.YthcbjhmdpehooaaGreat.Nt
open Go.ChangeShapes Go.WideShapes Go.ChangeAt Go.RowKit B
set_option linter.unusedVariables false
theorem keep3p {W : World} {g : Nat} {x0 x1 x2 : Value} {a b c : Addr} {x y z : Value} (h : W.cell? a = some x ∧ W.cell? b = some y ∧ W.cell? c = some z)
    (ha : a.block ≠ g) (hb : b.block ≠ g) (hc : c.block ≠ g) :
    (((W.setCell ⟨g, 0, none⟩ x0).setCell ⟨g, 1, none⟩ x1).setCell ⟨g, 2, none⟩ x2).cell? a = some x ∧ (((W.setCell ⟨g, 0, none⟩ x0).setCell ⟨g, 1, none⟩ x1).setCell ⟨g, 2, none⟩ x2).cell? b = some y ∧
    (((W.setCell ⟨g, 0, none⟩ x0).setCell ⟨g, 1, none⟩ x1).setCell ⟨g, 2, none⟩ x2).cell? c = some z :=
 ⟨put3_far h.1 ha, put3_far h.2.1 hb, put3_far h.2.2 hc⟩
set_option maxHeartbeats 4000000 in
theorem qSub (va vb : Value) (c : Nat) (p q : Rat) (w : World) (ha : Raw w va c p) (hb : Raw w vb c q) (hc : c ≤ 100000000) :
    Calls Tryz.prog 38 #[va, vb] w (RetQ w.heap.size w (p - q)) := by
 obtain ⟨nega, vna, vda, na, da, rfl, hna, hda, rfl⟩ := ha
 obtain ⟨ana, lna, pna, rfl⟩ := hna.form
 obtain ⟨ada, lda, pda, rfl⟩ := hda.form
 obtain ⟨negb, vnb, vdb, nb, db, rfl, hnb, hdb, rfl⟩ := hb
 obtain ⟨anb, lnb, pnb, rfl⟩ := hnb.form
 obtain ⟨adb, ldb, pdb, rfl⟩ := hdb.form
 obtain ⟨hAa, hAb, hR, hW, hS⟩ := pro3 w (.bool nega) (.slice ana lna pna) (.slice ada lda pda) (.bool negb) (.slice anb lnb pnb) (.slice adb ldb pdb) (.bool false) (.slice none 0 0) (.slice none 0 0) 38 38 38
 have HNa := Lib.hid (hna.keep hW)
 have HDa := Lib.hid (hda.keep hW)
 have HNNa := Lib.hid (And.intro hna.nonneg hda.nonneg)
 have HLTa := Lib.hid (And.intro hna.lt hda.lt)
 have HN0a := Lib.hid (And.intro hna hda)
 clear hna hda
 have HNb := Lib.hid (hnb.keep hW)
 have HDb := Lib.hid (hdb.keep hW)
 have HNNb := Lib.hid (And.intro hnb.nonneg hdb.nonneg)
 have HLTb := Lib.hid (And.intro hnb.lt hdb.lt)
 have HN0b := Lib.hid (And.intro hnb hdb)
 clear hnb hdb
 generalize hWe : (((w.alloc (.cells #[.bool nega, .slice ana lna pna, .slice ada lda pda] 38 (0, 0))).alloc (.cells #[.bool negb, .slice anb lnb pnb, .slice adb ldb pdb] 38 (0, 0))).alloc (.cells #[.bool false, .slice none 0 0, .slice none 0 0] 38 (0, 0))) = W at *
 have HAa := Lib.hid hAa
 clear hAa
 have HAb := Lib.hid hAb
 clear hAb
 have HR := Lib.hid hR
 clear hR
 have HWE := Lib.hid hWe
 have HWS := Lib.hid hS
 clear hWe hS
 go_enter Tryz.func38, Tryz.ntmps38
 obtain ⟨⟨a0, a1, a2⟩, _, _, _⟩ := HAa.out
 obtain ⟨⟨b0, b1, b2⟩, _, _, _⟩ := HAb.out
 have HRWa : Hid (Raw W (.agg #[.bool nega, .slice ana lna pna, .slice ada lda pda]) c (mk nega na da)) := ⟨_, _, _, _, _, rfl, HNa.out, HDa.out, rfl⟩
 have HRWb : Hid (Raw W (.agg #[.bool negb, .slice anb lnb pnb, .slice adb ldb pdb]) c (mk negb nb db)) := ⟨_, _, _, _, _, rfl, HNb.out, HDb.out, rfl⟩
 go_wp2_with fail
 rw [HWE.out]
 have HWD : Hid (Below W.heap.size W W.drew) := (Below.refl _ _).drew
 have HQ := Lib.hid (Rat.sub_eq_add_neg (mk nega na da) (mk negb nb db))
 go_region_held3 (fun w' => w'.cell? ⟨w.heap.size, 0, none⟩ = some (.bool nega) ∧ w'.cell? ⟨w.heap.size, 1, none⟩ = some (.slice ana lna pna) ∧ w'.cell? ⟨w.heap.size, 2, none⟩ = some (.slice ada lda pda) ∧ w'.cell? ⟨w.heap.size + 1, 0, none⟩ = some (.bool negb) ∧ w'.cell? ⟨w.heap.size + 1, 1, none⟩ = some (.slice anb lnb pnb) ∧ w'.cell? ⟨w.heap.size + 1, 2, none⟩ = some (.slice adb ldb pdb)) (first | with_reducible assumption | with_reducible exact keep6 (by assumption) (by assumption) | with_reducible exact keep6p (by assumption) (by dsimp only; omega) (by dsimp only; omega) (by dsimp only; omega) (by dsimp only; omega) (by dsimp only; omega) (by dsimp only; omega) | go_keep)
  (first
   | (go_at_call 56; ((with_reducible refine (qOpposite (.agg #[.bool negb, .slice anb lnb pnb, .slice adb ldb pdb]) c _ W.drew (HRWb.out.keep HWD.out)).mono ?_)); rintro e w2 ⟨v2, rfl, h2, hb2⟩; have H2 := Lib.hid h2; clear h2)
   | (go_at_call 40; ((with_reducible refine (qAdd (.agg #[.bool nega, .slice ana lna pna, .slice ada lda pda]) v2 c _ _ w2 ((HRWa.out.keep HWD.out).keep hb2) H2.out hc).mono ?_)); rintro e w3 ⟨v3, rfl, h3, hb3⟩; obtain ⟨qb, qa, qn, qc, ra, rn, rc, rfl⟩ := h3.form; have HI := Lib.hid h3; have HBW := Lib.hid ((HWD.out.trans (hb2.mono HWD.out.size)).trans (hb3.mono (Nat.le_trans HWD.out.size hb2.size))); have HBS := Lib.hid (show w.heap.size + 3 ≤ w2.heap.size by have e1 := HWD.out.size; have e2 := hb2.size; rw [HWS.out] at e1; omega); obtain ⟨⟨rc0, rc1, rc2⟩, rf0, rf1, rf2⟩ := HR.out.keep HBW.out; clear h3; have hb3z := hb3))
 all_goals
  go_wp2_with fail
  rw [HQ.out]
  have hbw := hW.trans (HBW.out.mono (by have := HWS.out; omega))
  refine bodyPost_ret (v := .agg #[.bool qb, .slice qa qn qc, .slice ra rn rc]) (by simp [results, Tryz.results38, go_sem, rc0, rc1, rc2]) rfl ?_
  exact fin_q (base := w.heap.size + 3) (HI.out.mono HBS.out) (by omega) hbw (by omega)
set_option maxHeartbeats 4000000 in
theorem qComplement (va : Value) (c : Nat) (q : Rat) (w : World) (ha : Raw w va c q) (hc : c ≤ 100000000) (hc1 : 1 ≤ c) :
    Calls Tryz.prog 14 #[va] w (RetQ w.heap.size w (1 - q)) := by
 obtain ⟨nega, vna, vda, na, da, rfl, hna, hda, rfl⟩ := ha
 obtain ⟨ana, lna, pna, rfl⟩ := hna.form
 obtain ⟨ada, lda, pda, rfl⟩ := hda.form
 obtain ⟨hAa, hR, hW, hS⟩ := pro2 w (.bool nega) (.slice ana lna pna) (.slice ada lda pda) (.bool false) (.slice none 0 0) (.slice none 0 0) 38 38
 have HNa := Lib.hid (hna.keep hW)
 have HDa := Lib.hid (hda.keep hW)
 have HNNa := Lib.hid (And.intro hna.nonneg hda.nonneg)
 have HLTa := Lib.hid (And.intro hna.lt hda.lt)
 have HN0a := Lib.hid (And.intro hna hda)
 clear hna hda
 generalize hWe : ((w.alloc (.cells #[.bool nega, .slice ana lna pna, .slice ada lda pda] 38 (0, 0))).alloc (.cells #[.bool false, .slice none 0 0, .slice none 0 0] 38 (0, 0))) = W at *
 have HAa := Lib.hid hAa
 clear hAa
 have HR := Lib.hid hR
 clear hR
 have HWE := Lib.hid hWe
 have HWS := Lib.hid hS
 clear hWe hS
 go_enter Tryz.func14, Tryz.ntmps14
 obtain ⟨⟨a0, a1, a2⟩, _, _, _⟩ := HAa.out
 have HRWa : Hid (Raw W (.agg #[.bool nega, .slice ana lna pna, .slice ada lda pda]) c (mk nega na da)) := ⟨_, _, _, _, _, rfl, HNa.out, HDa.out, rfl⟩
 go_wp2_with fail
 rw [HWE.out]
 have HWD : Hid (Below W.heap.size W W.drew) := (Below.refl _ _).drew
 go_region_held3 (fun w' => w'.cell? ⟨w.heap.size, 0, none⟩ = some (.bool nega) ∧ w'.cell? ⟨w.heap.size, 1, none⟩ = some (.slice ana lna pna) ∧ w'.cell? ⟨w.heap.size, 2, none⟩ = some (.slice ada lda pda)) (first | with_reducible assumption | with_reducible exact keep3 (by assumption) (by assumption) | with_reducible exact keep3p (by assumption) (by dsimp only; omega) (by dsimp only; omega) (by dsimp only; omega) | go_keep)
  (first
   | (go_at_call 39; ((with_reducible refine (qOne W.drew).mono ?_)); rintro e w2 ⟨v2, rfl, h2, hb2⟩; have H2 := Lib.hid h2; clear h2)
   | (go_at_call 38; ((with_reducible refine (qSub v2 (.agg #[.bool nega, .slice ana lna pna, .slice ada lda pda]) c _ _ w2 (H2.out.raw c (Qb.one.mono hc1)) ((HRWa.out.keep HWD.out).keep hb2) hc).mono ?_)); rintro e w3 ⟨v3, rfl, h3, hb3⟩; obtain ⟨qb, qa, qn, qc, ra, rn, rc, rfl⟩ := h3.form; have HI := Lib.hid h3; have HBW := Lib.hid ((HWD.out.trans (hb2.mono HWD.out.size)).trans (hb3.mono (Nat.le_trans HWD.out.size hb2.size))); have HBS := Lib.hid (show w.heap.size + 2 ≤ w2.heap.size by have e1 := HWD.out.size; have e2 := hb2.size; rw [HWS.out] at e1; omega); obtain ⟨⟨rc0, rc1, rc2⟩, rf0, rf1, rf2⟩ := HR.out.keep HBW.out; clear h3; have hb3z := hb3))
 all_goals
  go_wp2_with fail
  have hbw := hW.trans (HBW.out.mono (by have := HWS.out; omega))
  refine bodyPost_ret (v := .agg #[.bool qb, .slice qa qn qc, .slice ra rn rc]) (by simp [results, Tryz.results14, go_sem, rc0, rc1, rc2]) rfl ?_
  exact fin_q (base := w.heap.size + 2) (HI.out.mono HBS.out) (by omega) hbw (by omega)
end Go.Proofs.YthcbjhmdpehooaaGreat.Nt
