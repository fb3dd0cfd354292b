/-
  Contract of rational.Cmp.
-/
import Derived.Test.YtpplleoiehnlkaaQ2
namespace Go.Proofs.Ytpplleoiehnlkaa.Nt
open Go.ChangeShapes Go.WideShapes Go.ChangeAt Go.RowKit B
set_option linter.unusedVariables false

theorem cmpI_bd (x y : Int) : -1 ≤ cmpI x y ∧ cmpI x y ≤ 1 := by
  unfold cmpI
  split
  · decide
  · split <;> decide
theorem mul_small {a b : Int} (h1 : -1 ≤ a) (h2 : a ≤ 1) (h3 : -1 ≤ b) (h4 : b ≤ 1) : -1 ≤ a * b ∧ a * b ≤ 1 := by
  have ha : a = -1 ∨ a = 0 ∨ a = 1 := by omega
  rcases ha with rfl | rfl | rfl <;> omega
theorem cmpQ_ne {p q : Rat} (h : sgQ p ≠ sgQ q) : cmpQ p q = if sgQ p < sgQ q then -1 else 1 := by
  have hp := sgQ_cases p
  have hq := sgQ_cases q
  unfold cmpQ
  have key : ∀ {x y : Rat}, sgQ x < sgQ y → sgQ (x - y) = -1 := by
    intro x y hxy
    unfold sgQ at *
    rw [Rat.sub_def', mkRat_sign _ _ (Nat.mul_ne_zero x.den_nz y.den_nz)]
    apply Int.sign_eq_neg_one_of_neg
    have hx := x.den_pos
    have hy := y.den_pos
    rcases Int.lt_trichotomy x.num 0 with h1 | h1 | h1
    · have a1 : x.num * (y.den : Int) < 0 := Int.mul_neg_of_neg_of_pos h1 (by omega)
      rcases Int.lt_trichotomy y.num 0 with h2 | h2 | h2
      · rw [Int.sign_eq_neg_one_of_neg h1, Int.sign_eq_neg_one_of_neg h2] at hxy; omega
      · rw [h2, Int.zero_mul]; omega
      · have a2 : 0 < y.num * (x.den : Int) := Int.mul_pos h2 (by omega)
        omega
    · rw [h1] at hxy ⊢
      rw [Int.zero_mul]
      rcases Int.lt_trichotomy y.num 0 with h2 | h2 | h2
      · rw [Int.sign_eq_neg_one_of_neg h2] at hxy; simp at hxy
      · rw [h2] at hxy; simp at hxy
      · have a2 : 0 < y.num * (x.den : Int) := Int.mul_pos h2 (by omega)
        omega
    · rw [Int.sign_eq_one_of_pos h1] at hxy
      rcases Int.lt_trichotomy y.num 0 with h2 | h2 | h2
      · rw [Int.sign_eq_neg_one_of_neg h2] at hxy; omega
      · rw [h2] at hxy; simp at hxy
      · rw [Int.sign_eq_one_of_pos h2] at hxy; omega
  by_cases hlt : sgQ p < sgQ q
  · rw [if_pos hlt, key hlt]
  · rw [if_neg hlt]
    have := key (x := q) (y := p) (by omega)
    rw [← Rat.neg_sub, sgQ_neg, this]; rfl
theorem cmpQ_zero {p q : Rat} (h : sgQ p = sgQ q) (h0 : sgQ p = 0) : cmpQ p q = 0 := by
  have h1 := sgQ_eq_zero.1 h0
  have h2 := sgQ_eq_zero.1 (h ▸ h0)
  rw [h1, h2, cmpQ, Rat.sub_self]; rfl
theorem cmpQ_same {r : Bool} {a b c d : Int} (ha : 0 < a) (hb : 0 < b) (hc : 0 < c) (hd : 0 < d) : cmpQ (mk r a b) (mk r c d) = sgQ (mk r a b) * cmpI (a * d) (c * b) := by
  rw [cmpQ_mk hb hd, sgQ_mk ha hb, cmpI_sign]
  cases r
  · simp [sg]
  · simp only [sg, if_true]
    rw [Int.neg_mul, Int.neg_mul, show -(a * d) - -(c * b) = -(a * d - c * b) by omega, Int.sign_neg, Int.neg_mul, Int.one_mul]
theorem sg_pos_of {neg : Bool} {n d : Int} (hn : 0 ≤ n) (hd : 0 ≤ d) (h : sgQ (mk neg n d) ≠ 0) : 0 < n ∧ 0 < d ∧ sgQ (mk neg n d) = if neg then -1 else 1 := by
  have h1 : n ≠ 0 := fun e => h (by rw [mk_zero (.inl e)]; rfl)
  have h2 : d ≠ 0 := fun e => h (by rw [mk_zero (.inr e)]; rfl)
  exact ⟨by omega, by omega, sgQ_mk (by omega) (by omega)⟩
set_option maxHeartbeats 4000000 in
theorem qCmp (va vb : Value) (c : Nat) (p q : Rat) (w : World) (ha : Raw w va c p) (hb : Raw w vb c q) (hc : c ≤ 100000000) :
    Calls Try.prog 26 #[va, vb] w fun e w' => e = .returned (.int .i64 (cmpQ p q)) ∧ Below w.heap.size w w' := by
  obtain ⟨nega, vna, vda, na, da, rfl, hna, hda, rfl⟩ := ha
  obtain ⟨ana, lna, pna, rfl⟩ := hna.form
  obtain ⟨ada, lda, pda, rfl⟩ := hda.form
  obtain ⟨negb, vnb, vdb, nb, db, rfl, hnb, hdb, rfl⟩ := hb
  obtain ⟨anb, lnb, pnb, rfl⟩ := hnb.form
  obtain ⟨adb, ldb, pdb, rfl⟩ := hdb.form
  obtain ⟨hAa, hAb, hW, hS⟩ := pro2 w (.bool nega) (.slice ana lna pna) (.slice ada lda pda) (.bool negb) (.slice anb lnb pnb) (.slice adb ldb pdb) 25 25
  have HNa := Lib.hid (hna.keep hW)
  have HDa := Lib.hid (hda.keep hW)
  have HNNa := Lib.hid (And.intro hna.nonneg hda.nonneg)
  have HLTa := Lib.hid (And.intro hna.lt hda.lt)
  have HN0a := Lib.hid (And.intro hna hda)
  clear hna hda
  have HNb := Lib.hid (hnb.keep hW)
  have HDb := Lib.hid (hdb.keep hW)
  have HNNb := Lib.hid (And.intro hnb.nonneg hdb.nonneg)
  have HLTb := Lib.hid (And.intro hnb.lt hdb.lt)
  have HN0b := Lib.hid (And.intro hnb hdb)
  clear hnb hdb
  generalize hWe : ((w.alloc (.cells #[.bool nega, .slice ana lna pna, .slice ada lda pda] 25 (0, 0))).alloc (.cells #[.bool negb, .slice anb lnb pnb, .slice adb ldb pdb] 25 (0, 0))) = W at *
  have HAa := Lib.hid hAa
  clear hAa
  have HAb := Lib.hid hAb
  clear hAb
  have HWE := Lib.hid hWe
  have HWS := Lib.hid hS
  clear hWe hS
  go_enter Try.func26, Try.ntmps26
  obtain ⟨⟨a0, a1, a2⟩, _, _, _⟩ := HAa.out
  obtain ⟨⟨b0, b1, b2⟩, _, _, _⟩ := HAb.out
  have HRWa : Hid (Raw W (.agg #[.bool nega, .slice ana lna pna, .slice ada lda pda]) c (mk nega na da)) := ⟨_, _, _, _, _, rfl, HNa.out, HDa.out, rfl⟩
  have HRWb : Hid (Raw W (.agg #[.bool negb, .slice anb lnb pnb, .slice adb ldb pdb]) c (mk negb nb db)) := ⟨_, _, _, _, _, rfl, HNb.out, HDb.out, rfl⟩
  go_wp2_with fail
  rw [HWE.out]
  have HWD : Hid (Below W.heap.size W W.drew) := (Below.refl _ _).drew
  go_region_held3 (fun w' => w'.cell? ⟨w.heap.size, 0, none⟩ = some (.bool nega) ∧ w'.cell? ⟨w.heap.size, 1, none⟩ = some (.slice ana lna pna) ∧ w'.cell? ⟨w.heap.size, 2, none⟩ = some (.slice ada lda pda) ∧ w'.cell? ⟨w.heap.size + 1, 0, none⟩ = some (.bool negb) ∧ w'.cell? ⟨w.heap.size + 1, 1, none⟩ = some (.slice anb lnb pnb) ∧ w'.cell? ⟨w.heap.size + 1, 2, none⟩ = some (.slice adb ldb pdb)) (first | assumption | exact keep6 (by assumption) (by assumption) | exact keep6p (by assumption) (by dsimp only; omega) (by dsimp only; omega) (by dsimp only; omega) (by dsimp only; omega) (by dsimp only; omega) (by dsimp only; omega) | go_keep)
    (first
      | (go_at_call 27; ((with_reducible refine (qSign (.agg #[.bool nega, .slice ana lna pna, .slice ada lda pda]) c _ W.drew (HRWa.out.keep HWD.out) (by omega)).mono ?_)); rintro e w1 ⟨rfl, hb1⟩)
      | (go_at_call 27; ((with_reducible refine (qSign (.agg #[.bool negb, .slice anb lnb pnb, .slice adb ldb pdb]) c _ w1 ((HRWb.out.keep HWD.out).keep hb1) (by omega)).mono ?_)); rintro e w2 ⟨rfl, hb2⟩))
  all_goals
    have HB2 := Lib.hid ((HWD.out.trans (hb1.mono HWD.out.size)).trans (hb2.mono (Nat.le_trans HWD.out.size hb1.size)))
    obtain ⟨⟨x0, x1, x2⟩, _, _, _⟩ := HAa.out.keep HB2.out
    obtain ⟨⟨y0, y1, y2⟩, _, _, _⟩ := HAb.out.keep HB2.out
    have hbw := hW.trans (HB2.out.mono (by have := HWS.out; omega))
    clear a0 a1 a2 b0 b1 b2 hb1 hb2
    have hca := sgQ_cases (mk nega na da)
    have hcb := sgQ_cases (mk negb nb db)
    by_cases hne : sgQ (mk nega na da) = sgQ (mk negb nb db)
    · by_cases hz : sgQ (mk nega na da) = 0
      · have HQ := Lib.hid (cmpQ_zero hne hz)
        have e2 : sgQ (mk negb nb db) = 0 := by rw [← hne]; exact hz
        rw [hz, e2]
        clear hne hz e2 hca hcb
        go_wp2_with fail
        go_ret
        exact ⟨by rw [HQ.out]; rfl, hbw⟩
      · obtain ⟨hna, hda, hsa⟩ := sg_pos_of HNNa.out.1 HNNa.out.2 hz
        obtain ⟨hnb, hdb, hsb⟩ := sg_pos_of (neg := negb) HNNb.out.1 HNNb.out.2 (by rw [← hne]; exact hz)
        have hng : nega = negb := by
          rw [hsa, hsb] at hne
          cases nega <;> cases negb <;> simp at hne <;> rfl
        subst hng
        have HQ := Lib.hid (cmpQ_same (r := nega) hna hda hnb hdb)
        have hzz : (sgQ (mk nega na da) == 0) = false := by rw [beq_eq_false_iff_ne]; exact hz
        rw [← hne]
        have hbd : -1 ≤ sgQ (mk nega na da) ∧ sgQ (mk nega na da) ≤ 1 := by omega
        generalize sgQ (mk nega na da) = s at *
        clear hne hz hca hcb hsa hsb
        go_wp2_with fail
        have HWX : Hid (Below W.heap.size W w2.drew) := HB2.out.drew
        have HP1 := Lib.hid (bp_mul HNNa.out.1 HLTa.out.1 HNNb.out.2 HLTb.out.2)
        have HP2 := Lib.hid (bp_mul HNNb.out.1 HLTb.out.1 HNNa.out.2 HLTa.out.2)
        have hcm := cmpI_bd (na * db) (nb * da)
        have hwr : IntKind.i64.wrap (s * cmpI (na * db) (nb * da)) = s * cmpI (na * db) (nb * da) := IntWalk.i64_in _ (by rcases hbd with ⟨g1, g2⟩; rcases hcm with ⟨g3, g4⟩; have := mul_small g1 g2 g3 g4; omega)
        go_region_held3 (fun w' => w'.cell? ⟨w.heap.size, 0, none⟩ = some (.bool nega) ∧ w'.cell? ⟨w.heap.size, 1, none⟩ = some (.slice ana lna pna) ∧ w'.cell? ⟨w.heap.size, 2, none⟩ = some (.slice ada lda pda) ∧ w'.cell? ⟨w.heap.size + 1, 0, none⟩ = some (.bool nega) ∧ w'.cell? ⟨w.heap.size + 1, 1, none⟩ = some (.slice anb lnb pnb) ∧ w'.cell? ⟨w.heap.size + 1, 2, none⟩ = some (.slice adb ldb pdb)) (first | assumption | exact keep6 (by assumption) (by assumption) | exact keep6p (by assumption) (by dsimp only; omega) (by dsimp only; omega) (by dsimp only; omega) (by dsimp only; omega) (by dsimp only; omega) (by dsimp only; omega) | go_keep)
          (first
            | (go_at_call 31; ((with_reducible refine (Nt.mul (.slice ana lna pna) (.slice adb ldb pdb) c na db w2.drew (HNa.out.keep HWX.out) (HDb.out.keep HWX.out) (by omega)).mono ?_)); rintro e w3 ⟨v3, rfl, h3, hb3⟩; have H3 := Lib.hid h3; clear h3)
            | (go_at_call 31; ((with_reducible refine (Nt.mul (.slice anb lnb pnb) (.slice ada lda pda) c nb da w3 ((HNb.out.keep HWX.out).keep hb3) ((HDa.out.keep HWX.out).keep hb3) (by omega)).mono ?_)); rintro e w4 ⟨v4, rfl, h4, hb4⟩; have H4 := Lib.hid h4; clear h4)
            | (go_at_call 65; ((with_reducible refine (Nt.cmp v3 v4 (c + c) (na * db) (nb * da) w4 ((H3.out.keep hb4).num _ HP1.out) (H4.out.num _ HP2.out) (by omega)).mono ?_)); rintro e w5 ⟨rfl, hb5⟩))
        all_goals
          have e1 := hbw.drew.size
          have e2 := hb3.size
          have e3 := hb4.size
          have hbz := ((hbw.drew.trans (hb3.mono e1)).trans (hb4.mono (by omega))).trans (hb5.mono (by omega))
          clear e1 e2 e3
          go_wp2_with fail
          go_ret
          exact ⟨by rw [HQ.out]; first | rfl | (congr 2), hbz⟩
    · have HQ := Lib.hid (cmpQ_ne hne)
      have hnn : (sgQ (mk nega na da) != sgQ (mk negb nb db)) = true := by rw [bne_iff_ne]; exact hne
      generalize sgQ (mk nega na da) = s at *
      generalize sgQ (mk negb nb db) = t at *
      clear hca hcb
      by_cases hlt : s < t
      · rw [if_pos hlt] at HQ
        clear hne
        go_wp2_with fail
        go_ret
        exact ⟨by rw [HQ.out]; rfl, hbw⟩
      · rw [if_neg hlt] at HQ
        clear hne
        go_wp2_with fail
        go_ret
        exact ⟨by rw [HQ.out]; rfl, hbw⟩
end Go.Proofs.Ytpplleoiehnlkaa.Nt
