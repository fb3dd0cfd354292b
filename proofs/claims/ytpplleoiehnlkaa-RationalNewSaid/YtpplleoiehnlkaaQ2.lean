/-
  Contracts of rational.Normalize, Sign, opposite, one, Mul.
-/
import Derived.Test.YtpplleoiehnlkaaQ
import Derived.Deep.RegionHeld3
namespace Go.Proofs.Ytpplleoiehnlkaa.Nt
open Go.ChangeShapes Go.WideShapes Go.ChangeAt Go.RowKit B
set_option linter.unusedVariables false

theorem cell_lt {w : World} {a : Addr} {v : Value} (h : w.cell? a = some v) : a.block < w.heap.size := by
  unfold World.cell? at h
  rcases Nat.lt_or_ge a.block w.heap.size with hb | hb
  · exact hb
  · simp [Array.getElem?_eq_none hb] at h
theorem cell_keep {W w' : World} (hb : Below W.heap.size W w') {a : Addr} {v : Value} (h : W.cell? a = some v) : w'.cell? a = some v := by
  rw [hb.cell (p := a) (cell_lt h)]; exact h
theorem frozen_keep {W w' : World} (hb : Below W.heap.size W w') {a : Addr} {v : Value} (h : W.cell? a = some v) (hf : W.frozen? a = false) : w'.frozen? a = false := by
  rw [hb.frozen (p := a) (cell_lt h)]; exact hf
theorem keep6 {W w' : World} {a b c d e f : Addr} {x y z X Y Z : Value} (hb : Below W.heap.size W w') (h : W.cell? a = some x ∧ W.cell? b = some y ∧ W.cell? c = some z ∧ W.cell? d = some X ∧ W.cell? e = some Y ∧ W.cell? f = some Z) :
    w'.cell? a = some x ∧ w'.cell? b = some y ∧ w'.cell? c = some z ∧ w'.cell? d = some X ∧ w'.cell? e = some Y ∧ w'.cell? f = some Z :=
  ⟨cell_keep hb h.1, cell_keep hb h.2.1, cell_keep hb h.2.2.1, cell_keep hb h.2.2.2.1, cell_keep hb h.2.2.2.2.1, cell_keep hb h.2.2.2.2.2⟩
theorem put3_far {W : World} {g : Nat} {x0 x1 x2 v : Value} {a : Addr} (h : W.cell? a = some v) (ha : a.block ≠ g) : (((W.setCell ⟨g, 0, none⟩ x0).setCell ⟨g, 1, none⟩ x1).setCell ⟨g, 2, none⟩ x2).cell? a = some v := by
  rw [World.cell?_setCell_far _ _ _ _ (Ne.symm ha), World.cell?_setCell_far _ _ _ _ (Ne.symm ha), World.cell?_setCell_far _ _ _ _ (Ne.symm ha)]; exact h
theorem keep6p {W : World} {g : Nat} {x0 x1 x2 : Value} {a b c d e f : Addr} {x y z X Y Z : Value} (h : W.cell? a = some x ∧ W.cell? b = some y ∧ W.cell? c = some z ∧ W.cell? d = some X ∧ W.cell? e = some Y ∧ W.cell? f = some Z)
    (ha : a.block ≠ g) (hb : b.block ≠ g) (hc : c.block ≠ g) (hd : d.block ≠ g) (he : e.block ≠ g) (hf : f.block ≠ g) :
    (((W.setCell ⟨g, 0, none⟩ x0).setCell ⟨g, 1, none⟩ x1).setCell ⟨g, 2, none⟩ x2).cell? a = some x ∧ (((W.setCell ⟨g, 0, none⟩ x0).setCell ⟨g, 1, none⟩ x1).setCell ⟨g, 2, none⟩ x2).cell? b = some y ∧
    (((W.setCell ⟨g, 0, none⟩ x0).setCell ⟨g, 1, none⟩ x1).setCell ⟨g, 2, none⟩ x2).cell? c = some z ∧ (((W.setCell ⟨g, 0, none⟩ x0).setCell ⟨g, 1, none⟩ x1).setCell ⟨g, 2, none⟩ x2).cell? d = some X ∧
    (((W.setCell ⟨g, 0, none⟩ x0).setCell ⟨g, 1, none⟩ x1).setCell ⟨g, 2, none⟩ x2).cell? e = some Y ∧ (((W.setCell ⟨g, 0, none⟩ x0).setCell ⟨g, 1, none⟩ x1).setCell ⟨g, 2, none⟩ x2).cell? f = some Z :=
  ⟨put3_far h.1 ha, put3_far h.2.1 hb, put3_far h.2.2.1 hc, put3_far h.2.2.2.1 hd, put3_far h.2.2.2.2.1 he, put3_far h.2.2.2.2.2 hf⟩
theorem keep3 {W w' : World} {a b c : Addr} {x y z : Value} (hb : Below W.heap.size W w') (h : W.cell? a = some x ∧ W.cell? b = some y ∧ W.cell? c = some z) :
    w'.cell? a = some x ∧ w'.cell? b = some y ∧ w'.cell? c = some z := ⟨cell_keep hb h.1, cell_keep hb h.2.1, cell_keep hb h.2.2⟩
/-- three cells of a block that may be written -/
def Box3 (w : World) (k : Nat) (x y z : Value) : Prop :=
  (w.cell? ⟨k, 0, none⟩ = some x ∧ w.cell? ⟨k, 1, none⟩ = some y ∧ w.cell? ⟨k, 2, none⟩ = some z) ∧ w.frozen? ⟨k, 0, none⟩ = false ∧ w.frozen? ⟨k, 1, none⟩ = false ∧ w.frozen? ⟨k, 2, none⟩ = false
theorem Box3.keep {W w' : World} {k : Nat} {x y z : Value} (h : Box3 W k x y z) (hb : Below W.heap.size W w') : Box3 w' k x y z :=
  ⟨⟨cell_keep hb h.1.1, cell_keep hb h.1.2.1, cell_keep hb h.1.2.2⟩, frozen_keep hb h.1.1 h.2.1, frozen_keep hb h.1.2.1 h.2.2.1, frozen_keep hb h.1.2.2 h.2.2.2⟩
theorem Box3.new (w : World) (x y z : Value) (t : TypeId) : Box3 (w.alloc (.cells #[x, y, z] t (0, 0))) w.heap.size x y z := by
  refine ⟨⟨?_, ?_, ?_⟩, ?_, ?_, ?_⟩
  · rw [World.cell?_alloc_mark]; rfl
  · rw [World.cell?_alloc_mark]; rfl
  · rw [World.cell?_alloc_mark]; rfl
  all_goals rw [World.frozen?_alloc_mark]; simp
theorem Box3.old {w : World} {k : Nat} {x y z : Value} (h : Box3 w k x y z) (o : Obj) : Box3 (w.alloc o) k x y z := h.keep ((Below.refl _ _).alloc (Nat.le_refl _) o)
theorem alloc_below (w : World) (o : Obj) : Below w.heap.size w (w.alloc o) := (Below.refl _ _).alloc (Nat.le_refl _) o

theorem size_alloc (w : World) (o : Obj) : (w.alloc o).heap.size = w.heap.size + 1 := by simp
/-- the boxes of one fraction, and of a fraction and the result -/
theorem pro1 (w : World) (x y z : Value) (t : TypeId) : Box3 (w.alloc (.cells #[x, y, z] t (0, 0))) w.heap.size x y z ∧ Below w.heap.size w (w.alloc (.cells #[x, y, z] t (0, 0))) ∧ (w.alloc (.cells #[x, y, z] t (0, 0))).heap.size = w.heap.size + 1 :=
  ⟨Box3.new w x y z t, alloc_below _ _, size_alloc _ _⟩
theorem pro2 (w : World) (x y z X Y Z : Value) (t s : TypeId) :
    Box3 ((w.alloc (.cells #[x, y, z] t (0, 0))).alloc (.cells #[X, Y, Z] s (0, 0))) w.heap.size x y z ∧ Box3 ((w.alloc (.cells #[x, y, z] t (0, 0))).alloc (.cells #[X, Y, Z] s (0, 0))) (w.heap.size + 1) X Y Z ∧
    Below w.heap.size w ((w.alloc (.cells #[x, y, z] t (0, 0))).alloc (.cells #[X, Y, Z] s (0, 0))) ∧ ((w.alloc (.cells #[x, y, z] t (0, 0))).alloc (.cells #[X, Y, Z] s (0, 0))).heap.size = w.heap.size + 2 := by
  obtain ⟨h1, h2, h3⟩ := pro1 w x y z t
  obtain ⟨g1, g2, g3⟩ := pro1 (w.alloc (.cells #[x, y, z] t (0, 0))) X Y Z s
  rw [h3] at g1 g3
  exact ⟨h1.old _, g1, h2.alloc (by omega) _, g3⟩
theorem pro3 (w : World) (x y z X Y Z P Q R : Value) (t s u : TypeId) :
    Box3 (((w.alloc (.cells #[x, y, z] t (0, 0))).alloc (.cells #[X, Y, Z] s (0, 0))).alloc (.cells #[P, Q, R] u (0, 0))) w.heap.size x y z ∧ Box3 (((w.alloc (.cells #[x, y, z] t (0, 0))).alloc (.cells #[X, Y, Z] s (0, 0))).alloc (.cells #[P, Q, R] u (0, 0))) (w.heap.size + 1) X Y Z ∧
    Box3 (((w.alloc (.cells #[x, y, z] t (0, 0))).alloc (.cells #[X, Y, Z] s (0, 0))).alloc (.cells #[P, Q, R] u (0, 0))) (w.heap.size + 2) P Q R ∧
    Below w.heap.size w (((w.alloc (.cells #[x, y, z] t (0, 0))).alloc (.cells #[X, Y, Z] s (0, 0))).alloc (.cells #[P, Q, R] u (0, 0))) ∧ (((w.alloc (.cells #[x, y, z] t (0, 0))).alloc (.cells #[X, Y, Z] s (0, 0))).alloc (.cells #[P, Q, R] u (0, 0))).heap.size = w.heap.size + 3 := by
  obtain ⟨h1, h2, h3, h4⟩ := pro2 w x y z X Y Z t s
  obtain ⟨g1, g2, g3⟩ := pro1 ((w.alloc (.cells #[x, y, z] t (0, 0))).alloc (.cells #[X, Y, Z] s (0, 0))) P Q R u
  rw [h4] at g1 g3
  exact ⟨h1.old _, h2.old _, g1, h3.alloc (by omega) _, g3⟩

/-- what a function that returns a fraction has to show at its end -/
theorem fin_q {w w2 : World} {g base : Nat} {v : Value} {q : Rat} {x y z : Value} (h : IsQ base w2 v q) (hg : g < base) (hb : Below w.heap.size w w2) (hw : w.heap.size ≤ g) :
    RetQ w.heap.size w q (.returned v) (((w2.setCell ⟨g, 0, none⟩ x).setCell ⟨g, 1, none⟩ y).setCell ⟨g, 2, none⟩ z) :=
  ⟨v, rfl, (h.stored (w0 := w) hg).mono (by omega), below_put3 hb hw _ _ _⟩

theorem qOne (w : World) : Calls Try.prog 72 #[] w (RetQ w.heap.size w 1) := by
  have HR := Lib.hid (Box3.new w (.bool false) (.slice none 0 0) (.slice none 0 0) 25)
  go_enter Try.func72, Try.ntmps72
  go_wp2_with fail
  refine (fromUint64 1 _ (by decide) (by decide)).mono ?_
  rintro e w2 ⟨v, rfl, h, hb⟩
  have H1 := Lib.hid h
  have HB := Lib.hid hb
  clear h hb
  go_wp2_with fail
  refine (fromUint64 1 _ (by decide) (by decide)).mono ?_
  rintro e w3 ⟨v', rfl, h, hb⟩
  have H2 := Lib.hid h
  have HB2 := Lib.hid (HB.out.trans (hb.mono HB.out.size))
  have H1 := Lib.hid ((H1.out.keep hb).mono (base' := w.heap.size + 1) (by simp))
  have H2 := Lib.hid (H2.out.mono (base' := w.heap.size + 1) (by have := HB.out.size; simpa using this))
  obtain ⟨⟨c0, c1, c2⟩, f0, f1, f2⟩ := HR.out.keep HB2.out
  obtain ⟨a1, n1, p1, rfl⟩ := H1.out.form
  obtain ⟨a2, n2, p2, rfl⟩ := H2.out.form
  clear h hb
  go_wp2_with fail
  have hbw : Below w.heap.size w w3 := (alloc_below w _).trans (HB2.out.mono (by simp))
  refine bodyPost_ret (v := .agg #[.bool false, .slice a1 n1 p1, .slice a2 n2 p2]) (by simp [results, Try.results72, go_sem, c0, c1, c2]) rfl ?_
  exact fin_q (base := w.heap.size + 1) ⟨.slice a1 n1 p1, .slice a2 n2 p2, rfl, H1.out, H2.out⟩ (by omega) hbw (Nat.le_refl _)

set_option maxHeartbeats 1000000 in
theorem qNormalize (va : Value) (c : Nat) (q : Rat) (w : World) (ha : Raw w va c q) (hc : c ≤ 1000000000) :
    Calls Try.prog 20 #[va] w (RetQ w.heap.size w q) := by
  obtain ⟨nega, vna, vda, na, da, rfl, hna, hda, rfl⟩ := ha
  obtain ⟨ana, lna, pna, rfl⟩ := hna.form
  obtain ⟨ada, lda, pda, rfl⟩ := hda.form
  obtain ⟨hAa, hR, hW, hS⟩ := pro2 w (.bool nega) (.slice ana lna pna) (.slice ada lda pda) (.bool false) (.slice none 0 0) (.slice none 0 0) 25 25
  have HNa := Lib.hid (hna.keep hW)
  have HDa := Lib.hid (hda.keep hW)
  have HNNa := Lib.hid (And.intro hna.nonneg hda.nonneg)
  have HLTa := Lib.hid (And.intro hna.lt hda.lt)
  have HN0a := Lib.hid (And.intro hna hda)
  clear hna hda
  generalize hWe : ((w.alloc (.cells #[.bool nega, .slice ana lna pna, .slice ada lda pda] 25 (0, 0))).alloc (.cells #[.bool false, .slice none 0 0, .slice none 0 0] 25 (0, 0))) = W at *
  have HAa := Lib.hid hAa
  clear hAa
  have HR := Lib.hid hR
  clear hR
  have HWE := Lib.hid hWe
  have HWS := Lib.hid hS
  clear hWe hS
  go_enter Try.func20, Try.ntmps20
  go_wp2_with fail
  rw [HWE.out]
  refine (qReduce nega _ _ c na da W HNa.out HDa.out hc).mono ?_
  rintro e w2 ⟨v, rfl, h, hb⟩
  obtain ⟨qb, qa, qn, qc, ra, rn, rc, rfl⟩ := h.form
  have HI := Lib.hid h
  have HBW := Lib.hid (hb)
  have HBS := Lib.hid (show w.heap.size + 2 ≤ W.heap.size by rw [HWS.out]; omega)
  obtain ⟨⟨rc0, rc1, rc2⟩, rf0, rf1, rf2⟩ := HR.out.keep HBW.out
  clear h hb
  go_wp2_with fail
  have hbw := hW.trans (HBW.out.mono (by have := HWS.out; omega))
  refine bodyPost_ret (v := .agg #[.bool qb, .slice qa qn qc, .slice ra rn rc]) (by simp [results, Try.results20, go_sem, rc0, rc1, rc2]) rfl ?_
  exact fin_q (base := w.heap.size + 2) (HI.out.mono HBS.out) (by omega) hbw (by omega)
/-- a call that returns a fraction as it is -/
def RetRaw (w : World) (c : Nat) (q : Rat) (e : Ending) (w' : World) : Prop := ∃ v, e = .returned v ∧ Raw w' v c q ∧ Below w.heap.size w w'
theorem qOpposite (va : Value) (c : Nat) (q : Rat) (w : World) (ha : Raw w va c q) :
    Calls Try.prog 68 #[va] w (RetRaw w c (-q)) := by
  obtain ⟨nega, vna, vda, na, da, rfl, hna, hda, rfl⟩ := ha
  obtain ⟨ana, lna, pna, rfl⟩ := hna.form
  obtain ⟨ada, lda, pda, rfl⟩ := hda.form
  obtain ⟨hAa, hR, hW, hS⟩ := pro2 w (.bool nega) (.slice ana lna pna) (.slice ada lda pda) (.bool false) (.slice none 0 0) (.slice none 0 0) 25 25
  have HNa := Lib.hid (hna.keep hW)
  have HDa := Lib.hid (hda.keep hW)
  have HNNa := Lib.hid (And.intro hna.nonneg hda.nonneg)
  have HLTa := Lib.hid (And.intro hna.lt hda.lt)
  have HN0a := Lib.hid (And.intro hna hda)
  clear hna hda
  generalize hWe : ((w.alloc (.cells #[.bool nega, .slice ana lna pna, .slice ada lda pda] 25 (0, 0))).alloc (.cells #[.bool false, .slice none 0 0, .slice none 0 0] 25 (0, 0))) = W at *
  have HAa := Lib.hid hAa
  clear hAa
  have HR := Lib.hid hR
  clear hR
  have HWE := Lib.hid hWe
  have HWS := Lib.hid hS
  clear hWe hS
  go_enter Try.func68, Try.ntmps68
  have HQ := Lib.hid (mk_neg nega na da)
  go_wp2_with fail
  have hb2 := ((alloc_below w (.cells #[.bool nega, .slice ana lna pna, .slice ada lda pda] 25 (0, 0))).alloc (by simp) (.cells #[.bool !nega, .slice ana lna pna, .slice ada lda pda] 25 (0, 0)))
  refine bodyPost_ret (v := .agg #[.bool !nega, .slice ana lna pna, .slice ada lda pda]) (by simp [results, Try.results68, go_sem]) rfl ?_
  exact ⟨_, rfl, ⟨_, _, _, _, _, rfl, HN0a.out.1.keep hb2, HN0a.out.2.keep hb2, HQ.out⟩, hb2⟩
set_option maxHeartbeats 1000000 in
theorem qSign (va : Value) (c : Nat) (q : Rat) (w : World) (ha : Raw w va c q) (hc : c ≤ 4294967296) :
    Calls Try.prog 27 #[va] w fun e w' => e = .returned (.int .i64 (sgQ q)) ∧ Below w.heap.size w w' := by
  obtain ⟨nega, vna, vda, na, da, rfl, hna, hda, rfl⟩ := ha
  obtain ⟨ana, lna, pna, rfl⟩ := hna.form
  obtain ⟨ada, lda, pda, rfl⟩ := hda.form
  obtain ⟨hAa, hW, hS⟩ := pro1 w (.bool nega) (.slice ana lna pna) (.slice ada lda pda) 25
  have HNa := Lib.hid (hna.keep hW)
  have HDa := Lib.hid (hda.keep hW)
  have HNNa := Lib.hid (And.intro hna.nonneg hda.nonneg)
  have HLTa := Lib.hid (And.intro hna.lt hda.lt)
  have HN0a := Lib.hid (And.intro hna hda)
  clear hna hda
  generalize hWe : (w.alloc (.cells #[.bool nega, .slice ana lna pna, .slice ada lda pda] 25 (0, 0))) = W at *
  have HAa := Lib.hid hAa
  clear hAa
  have HWE := Lib.hid hWe
  have HWS := Lib.hid hS
  clear hWe hS
  obtain ⟨⟨a0, a1, a2⟩, _, _, _⟩ := HAa.out
  have hz0 := blen_zero HNNa.out.1
  have hz1 := blen_zero HNNa.out.2
  by_cases h0 : na = 0
  · have HQ := Lib.hid (show sgQ (mk nega na da) = 0 by rw [mk_zero (.inl h0)]; rfl)
    rw [decide_eq_true h0] at hz0
    clear h0
    go_enter Try.func27, Try.ntmps27
    go_wp2_with fail
    rw [HWE.out]
    refine (Nt.bitLen _ c na W HNa.out hc).mono ?_
    rintro e w' ⟨rfl, rfl⟩
    go_wp2_with fail
    go_ret
    exact ⟨by rw [HQ.out]; rfl, hW⟩
  rw [decide_eq_false h0] at hz0
  by_cases h1 : da = 0
  · have HQ := Lib.hid (show sgQ (mk nega na da) = 0 by rw [mk_zero (.inr h1)]; rfl)
    rw [decide_eq_true h1] at hz1
    clear h0 h1
    go_enter Try.func27, Try.ntmps27
    go_wp2_with fail
    rw [HWE.out]
    refine (Nt.bitLen _ c na W HNa.out hc).mono ?_
    rintro e w' ⟨rfl, rfl⟩
    go_wp2_with fail
    refine (Nt.bitLen _ c da W HDa.out hc).mono ?_
    rintro e w' ⟨rfl, rfl⟩
    go_wp2_with fail
    go_ret
    exact ⟨by rw [HQ.out]; rfl, hW⟩
  rw [decide_eq_false h1] at hz1
  have HQ := Lib.hid (sgQ_mk (neg := nega) (n := na) (d := da) (by have := HNNa.out.1; omega) (by have := HNNa.out.2; omega))
  clear h0 h1
  rcases nega
  all_goals
    go_enter Try.func27, Try.ntmps27
    go_wp2_with fail
    rw [HWE.out]
    refine (Nt.bitLen _ c na W HNa.out hc).mono ?_
    rintro e w' ⟨rfl, rfl⟩
    go_wp2_with fail
    refine (Nt.bitLen _ c da W HDa.out hc).mono ?_
    rintro e w' ⟨rfl, rfl⟩
    go_wp2_with fail
    go_ret
    exact ⟨by rw [HQ.out]; rfl, hW⟩
theorem wf_i64' {n : Int} (h : (Lit.int .i64 n).wf = true) : -9223372036854775808 ≤ n ∧ n ≤ 9223372036854775807 := by
  simpa [Lit.wf, IntKind.min, IntKind.max, IntKind.signed, IntKind.bits] using h
theorem qMagnitude (n : Int) (w : World) (h0 : -9223372036854775808 ≤ n) (h1 : n ≤ 9223372036854775807) :
    Calls Try.prog 47 #[.int .i64 n] w (Ret1 w.heap.size w (n.natAbs : Int)) := by
  by_cases hn : n < 0
  · have HE := Lib.hid (show -(n + 1) + 1 = (n.natAbs : Int) by omega)
    go_enter Try.func47, Try.ntmps47
    go_wp2_with fail
    refine (fromUint64 (-(n + 1) + 1) w (by omega) (by omega)).mono ?_
    rintro e w1 ⟨v, rfl, h, hb⟩
    rw [HE.out] at h
    go_wp2_with fail
    go_ret
    exact ⟨v, rfl, h, hb⟩
  · have HE := Lib.hid (show n = (n.natAbs : Int) by omega)
    go_enter Try.func47, Try.ntmps47
    go_wp2_with fail
    refine (fromUint64 n w (by omega) (by omega)).mono ?_
    rintro e w1 ⟨v, rfl, h, hb⟩
    rw [HE.out] at h
    go_wp2_with fail
    go_ret
    exact ⟨v, rfl, by rw [← HE.out] at h ⊢; exact h, hb⟩
end Go.Proofs.Ytpplleoiehnlkaa.Nt
